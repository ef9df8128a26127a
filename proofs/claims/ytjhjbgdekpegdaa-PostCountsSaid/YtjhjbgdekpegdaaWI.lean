/- Counting messages by where they go; the map of counts. -/
import Derived.Test.YtjhjbgdekpegdaaWH
import Derived.Maps.RangeWalk
namespace Go.Proofs.Ytjhjbgdekpegdaa
open Go.RowKit Go.Kt Go.Conc

def In64 (n : Int) : Prop := -9223372036854775808 ≤ n ∧ n ≤ 9223372036854775807
theorem In64.wf {n : Int} (h : In64 n) : (Lit.int .i64 n).wf = true := by
  obtain ⟨h1, h2⟩ := h
  simp [Lit.wf, IntKind.min, IntKind.max, IntKind.signed, IntKind.bits]
  omega
def cnt (L : List M) (t : Int) : Int := ((L.countP (fun m => m.dst == t) : Nat) : Int)
theorem cnt_nonneg (L : List M) (t : Int) : 0 ≤ cnt L t := by unfold cnt; omega
theorem cnt_le (L : List M) (t : Int) : cnt L t ≤ L.length := by unfold cnt; have := List.countP_le_length (p := fun m : M => m.dst == t) (l := L); omega
theorem cnt_snoc (L : List M) (m : M) (t : Int) : cnt (L ++ [m]) t = cnt L t + if m.dst = t then 1 else 0 := by
  unfold cnt
  rw [List.countP_append, List.countP_cons, List.countP_nil]
  by_cases h : m.dst = t
  · simp [h]
  · simp [h]
theorem cnt_erase (L : List M) (i : Nat) (m : M) (h : L[i]? = some m) (t : Int) : cnt (L.eraseIdx i) t = cnt L t - if m.dst = t then 1 else 0 := by
  obtain ⟨hi, rfl⟩ := List.getElem?_eq_some_iff.1 h
  have e : L = L.take i ++ [L[i]] ++ L.drop (i + 1) := by simp
  have h1 : cnt L t = cnt (L.eraseIdx i) t + if L[i].dst = t then 1 else 0 := by
    unfold cnt
    rw [List.eraseIdx_eq_take_drop_succ]
    conv => lhs; rw [e]
    rw [List.countP_append, List.countP_append, List.countP_append, List.countP_cons, List.countP_nil]
    by_cases hh : L[i].dst = t
    · simp [hh]; omega
    · simp [hh]
  omega
theorem cnt_zero (L : List M) (t : Int) (h : ∀ m ∈ L, m.dst ≠ t) : cnt L t = 0 := by
  unfold cnt
  have : L.countP (fun m => m.dst == t) = 0 := List.countP_eq_zero.2 (fun m hm => by simp [h m hm])
  omega
def total (L : List M) (p : Int → Bool) : List Int → Int
  | [] => 0
  | t :: ks => (if p t then cnt L t else 0) + total L p ks
theorem total_nonneg (L : List M) (p : Int → Bool) : ∀ ks, 0 ≤ total L p ks
  | [] => Int.le_refl _
  | t :: ks => by
    have := total_nonneg L p ks
    have := cnt_nonneg L t
    unfold total
    split <;> omega
theorem total_congr (L : List M) (p q : Int → Bool) : ∀ ks, (∀ t ∈ ks, p t = q t) → total L p ks = total L q ks
  | [], _ => rfl
  | t :: ks, h => by
    unfold total
    rw [h t (by simp), total_congr L p q ks (fun s hs => h s (by simp [hs]))]
theorem total_none (L : List M) (p : Int → Bool) : ∀ ks, (∀ t ∈ ks, p t = false) → total L p ks = 0
  | [], _ => rfl
  | t :: ks, h => by
    unfold total
    rw [h t (by simp), total_none L p ks (fun s hs => h s (by simp [hs]))]
    simp
theorem total_drop (L : List M) (p : Int → Bool) (x : Int) (hp : p x = true) : ∀ ks, ks.Nodup → x ∈ ks → total L p ks = cnt L x + total L (fun z => p z && !(z == x)) ks
  | [], _, h => by cases h
  | t :: ks, hn, h => by
    obtain ⟨h1, h2⟩ := List.nodup_cons.1 hn
    unfold total
    by_cases hx : t = x
    · subst hx
      rw [total_congr L (fun z => p z && !(z == t)) p ks (fun s hs => by
        have : s ≠ t := fun e => h1 (e ▸ hs)
        simp [this])]
      simp [hp]
    · rcases List.mem_cons.1 h with e | h
      · exact absurd e.symm hx
      · rw [total_drop L p x hp ks h2 h]
        have : (t == x) = false := by simp [hx]
        simp only [this, Bool.not_false, Bool.and_true]
        omega
theorem total_snoc (L : List M) (m : M) : ∀ ks : List Int, ks.Nodup → total (L ++ [m]) (fun _ => true) ks = total L (fun _ => true) ks + if m.dst ∈ ks then 1 else 0
  | [], _ => by simp [total]
  | t :: ks, hn => by
    obtain ⟨h1, h2⟩ := List.nodup_cons.1 hn
    unfold total
    rw [total_snoc L m ks h2, cnt_snoc]
    simp only [if_true, List.mem_cons]
    by_cases hx : m.dst = t
    · subst hx
      simp [h1]
      omega
    · simp [hx]
      split <;> omega
theorem total_all (ks : List Int) (hn : ks.Nodup) : ∀ (n : Nat) (L : List M), L.length = n → (∀ m ∈ L, m.dst ∈ ks) → total L (fun _ => true) ks = L.length
  | 0, L, hl, _ => by
    have : L = [] := List.eq_nil_of_length_eq_zero hl
    subst this
    have : ∀ ks, total [] (fun _ => true) ks = 0 := by
      intro ks
      induction ks with
      | nil => rfl
      | cons t ks ih => unfold total; rw [ih]; simp [cnt]
    rw [this]; rfl
  | n + 1, L, hl, hm => by
    have hne : L ≠ [] := by intro e; rw [e] at hl; cases hl
    have e := List.dropLast_concat_getLast hne
    rw [← e]
    rw [total_snoc _ _ ks hn, total_all ks hn n L.dropLast (by simp; omega) (fun m h => hm m (List.dropLast_subset L h)), if_pos (hm _ (List.getLast_mem hne))]
    first | (simp; done) | (simp; omega)
/-- the counts of the keys ks, as a map reads -/
def cf (L : List M) (ks : List Int) : Lit → Option Value
  | .int .i64 t => if t ∈ ks then some (.int .i64 (cnt L t)) else none
  | _ => none
theorem key3 : Maps.Keyed Try.prog 3 := Maps.int_keyed Try.underlying3
theorem zero3 (w : World) : (zeroValue 3).run Try.prog w = .ok (.int .i64 0) w := by kernel_rfl
def withKey (ks : List Int) (t : Int) : List Int := if t ∈ ks then ks else t :: ks
theorem cf_upd (L L' : List M) (ks : List Int) (t : Int) (h : ∀ s, s ≠ t → cnt L' s = cnt L s) : upd (cf L ks) (.int .i64 t) (.int .i64 (cnt L' t)) = cf L' (withKey ks t) := by
  funext kl
  unfold upd
  by_cases hk : kl = .int .i64 t
  · subst hk
    rw [if_pos rfl]
    have h1 : t ∈ withKey ks t := by
      unfold withKey
      split
      · assumption
      · simp
    simp [cf, h1]
  · rw [if_neg hk]
    unfold cf
    split
    · rename_i s
      have hs : s ≠ t := fun e => hk (by rw [e])
      have : (s ∈ withKey ks t) = (s ∈ ks) := by
        unfold withKey
        split
        · rfl
        · simp [hs]
      simp only [this, h s hs]
    · rfl
/-- block mb counts the messages L -/
structure CntMap (w : World) (mb : Nat) (L : List M) (ks : List Int) (n : Nat) : Prop where
  map : MapIs Try.prog 3 w mb (cf L ks) n
  nodup : ks.Nodup
  dom : ∀ m ∈ L, m.dst ∈ ks
  keys : ∀ t ∈ ks, In64 t
theorem CntMap.made (w : World) : CntMap (w.alloc (.map #[] 0)) w.heap.size [] [] 0 :=
  ⟨by
    have := MapIs.made w Try.prog 3
    have e : (fun _ => none) = cf [] [] := by
      funext kl
      unfold cf
      split <;> simp
    rw [e] at this
    exact this, List.nodup_nil, fun m h => (by cases h), fun t h => (by cases h)⟩
theorem CntMap.below {w w' : World} {mb : Nat} {L : List M} {ks : List Int} {n : Nat} (h : CntMap w mb L ks n) (hb : Below w.heap.size w w') : CntMap w' mb L ks n := ⟨h.map.below hb, h.nodup, h.dom, h.keys⟩
theorem CntMap.calm {w w' : World} {mb : Nat} {L : List M} {ks : List Int} {n : Nat} (h : CntMap w mb L ks n) (hc : Calm w w') : CntMap w' mb L ks n := by
  obtain ⟨⟨D, ⟨es, clock, hb, rest⟩, h2⟩, h3, h4, h5⟩ := h
  exact ⟨⟨D, ⟨es, clock, hc.2 mb _ hb rfl, rest⟩, h2⟩, h3, h4, h5⟩
theorem CntMap.look {w : World} {mb : Nat} {L : List M} {ks : List Int} {n : Nat} (h : CntMap w mb L ks n) {t : Int} (ht : In64 t) : (Instr.lookup 52 (.map (some mb)) (.int .i64 t) false).run Try.prog w = .ok (.int .i64 (cnt L t)) w := by
  rw [h.map.look1 key3 Try.underlying52 (zero3 w) (Maps.keyOf_int_mk Try.underlying3 ht.wf)]
  unfold cf
  by_cases hk : t ∈ ks
  · simp [hk]
  · simp only [if_neg hk, Option.getD_none]
    rw [cnt_zero L t (fun m hm e => hk (e ▸ h.dom m hm))]
theorem CntMap.put {w : World} {mb : Nat} {L : List M} {ks : List Int} {n : Nat} (h : CntMap w mb L ks n) {t : Int} (ht : In64 t) (hn : n < 1000000) (L' : List M) (hs : ∀ s, s ≠ t → cnt L' s = cnt L s) (hd : ∀ m ∈ L', m.dst ∈ ks ∨ m.dst = t) :
    ∃ w', (Instr.mapUpdate 52 (.map (some mb)) (.int .i64 t) (.int .i64 (cnt L' t))).run Try.prog w = .ok () w' ∧ (∃ n', n' ≤ n + 1 ∧ CntMap w' mb L' (withKey ks t) n') ∧ w.grownBy w' (some mb) := by
  obtain ⟨w', hr, h4, h5⟩ := h.map.put key3 Try.underlying52 (by unfold maxLen; omega) (.int .i64 (cnt L' t)) (Maps.keyOf_int_mk Try.underlying3 ht.wf) trivial
  rw [cf_upd L L' ks t hs] at h4
  refine ⟨w', hr, ⟨_, ?_, h4, ?_, fun m hm => ?_, fun s hs' => ?_⟩, h5⟩
  · split <;> omega
  · unfold withKey
    split
    · exact h.nodup
    · rename_i hk; exact List.nodup_cons.2 ⟨hk, h.nodup⟩
  · unfold withKey
    rcases hd m hm with h1 | h1
    · split
      · exact h1
      · exact List.mem_cons_of_mem _ h1
    · split
      · rename_i hk; rw [h1]; exact hk
      · rw [h1]; simp
  · unfold withKey at hs'
    split at hs'
    · exact h.keys s hs'
    · rcases List.mem_cons.1 hs' with e | h1
      · rw [e]; exact ht
      · exact h.keys s h1
/-- a map was turned: the post stands -/
theorem PostAt.map {B mb : Nat} {w w' : World} {pb room : Nat} {l : List M} (h : PostAt B w pb room l) (hg : w.grownBy w' (some mb)) {es : Array MapEntry} {k : Nat} (hm : w.heap[mb]? = some (.map es k)) : PostAt B w' pb room l := by
  obtain ⟨c, lv, ms, h1, h2, h3⟩ := h
  have key : ∀ (g : Nat) (o : Obj), w.heap[g]? = some o → (∀ es k, o ≠ .map es k) → w'.heap[g]? = some o := fun g o hgo hne => (hg.block g (Array.getElem?_eq_some_iff.1 hgo).1 (fun e => by
    injection e with e
    rw [e, hm] at hgo
    injection hgo with hgo
    exact hne _ _ hgo.symm)).trans hgo
  refine ⟨c, lv, ms, ⟨h1.pbB, h1.cB, key pb _ h1.blk (by simp), ?_, h1.own.keep (fun b hb => ?_), h1.lB, fun x hx => ⟨(h1.bod x hx).1.keep (fun b hb => ?_), (h1.bod x hx).2⟩, h1.le⟩, h2, h3⟩
  · obtain ⟨buf, s, r, hc, hn⟩ := h1.ch
    exact ⟨buf, s, r, key c _ hc (by simp), hn⟩
  · obtain ⟨cs', k', hgo⟩ := own_block h1.own hb
    rw [key b _ hgo (by simp), hgo]
  · obtain ⟨cs', k', hgo⟩ := own_block (h1.bod x hx).1 hb
    rw [key b _ hgo (by simp), hgo]
theorem CntMap.block {w : World} {mb : Nat} {L : List M} {ks : List Int} {n : Nat} (h : CntMap w mb L ks n) : ∃ es k, w.heap[mb]? = some (.map es k) := by
  obtain ⟨⟨D, ⟨es, clock, hb, rest⟩, h2⟩, _⟩ := h
  exact ⟨es, clock, hb⟩
end Go.Proofs.Ytjhjbgdekpegdaa
