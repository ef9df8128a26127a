/- Two logs side by side: the disk with its log, the document's disk with its log. -/
import Derived.Test.YtokmiphgalpahaaVH
import Derived.Test.YtokmiphgalpahaaV9
import Derived.Test.YtokmiphgalpahaaVE
import Derived.Test.YtokmiphgalpahaaX8
namespace Go.Proofs.Ytokmiphgalpahaa
open Go.RowKit Go.Kt
set_option maxRecDepth 100000
variable {w0 w w' W : World} {d mb m wb rb : Nat} {P Q : Pd} {H H' X X' : Nat → Prop} {s t : Int} {bv cv : Value}

/-! ### the segments' numbers (plain) -/
def Nums (B : Int) (P : Pd) : Prop := ∀ p ∈ P.L, p.n ≤ B
theorem Nums.more {B C : Int} (h : Nums B P) (hc : B ≤ C) : Nums C P := fun p hp => by have := h p hp; omega
theorem crashP_n (keep : List Int) : ∀ (i : Nat) (L : List Pg) (p : Pg), p ∈ crashP keep i L → ∃ q ∈ L, q.n = p.n
  | _, [], p, h => by cases h
  | i, q :: t, p, h => by
    rw [crashP] at h
    split at h
    · obtain ⟨r, hr, e⟩ := crashP_n keep (i + 1) t p h
      exact ⟨r, by simp [hr], e⟩
    · rcases List.mem_cons.1 h with rfl | h
      · exact ⟨q, by simp, rfl⟩
      · obtain ⟨r, hr, e⟩ := crashP_n keep (i + 1) t p h
        exact ⟨r, by simp [hr], e⟩
theorem Nums.crash {B : Int} (h : Nums B P) (keep : List Int) : Nums B (P.crash keep) := fun p hp => by
  obtain ⟨q, hq, e⟩ := crashP_n keep 0 P.L p hp
  rw [← e]
  exact h q hq
theorem Nums.setFuse {B : Int} (h : Nums B P) (n : Int) : Nums B (P.setFuse n).2 := by
  unfold Pd.setFuse
  split
  · exact h
  · exact h
theorem Nums.step {B : Int} (h : Nums B P) (hok : PdOk P) (o : Op) (hn : o.n ≤ B) (hB : B ≤ 9223372036854775807) : Nums B (P.step o) := by
  unfold Pd.step
  split
  · exact (PdN.app ⟨hok, h⟩ hn hB _).2
  split
  · exact (PdN.sync ⟨hok, h⟩ _).2
  split
  · exact (PdN.drop ⟨hok, h⟩ _).2
  split
  · exact h.setFuse _
  split
  · exact h.crash _
  · exact h
theorem PdN.drops {B : Int} : ∀ (l : List Int) {P : Pd}, PdN B P → PdN B (dropsW P l).2
  | [], _, h => h
  | n :: t, P, h => by
    rw [dropsW_cons]
    split
    · exact h.drop n
    · exact PdN.drops t (h.drop n)
theorem PdN.lay {B : Int} (h : PdN B P) {n : Int} (hn : n ≤ B) (hB : B ≤ 9223372036854775807) (all : List UInt8) (l : List Int) : PdN B (layW P n all l).2 := by
  unfold layW
  split
  · exact h.app hn hB all
  split
  · exact (h.app hn hB all).sync n
  · exact PdN.drops l ((h.app hn hB all).sync n)
theorem nextW_up {B : Int} (h : Nums B P) (hB : 0 ≤ B) : nextW P ≤ B + 1 := by
  cases e : P.L.getLast? with
  | none => unfold nextW; rw [e]; simp only; omega
  | some p =>
    have h1 := h p (List.mem_of_getLast? e)
    unfold nextW
    rw [e]
    simp only
    omega
theorem nextW_lo (h : PdOk P) : 1 ≤ nextW P := by
  cases e : P.L.getLast? with
  | none => unfold nextW; rw [e]; simp
  | some p =>
    have h1 := (h.seg p (List.mem_of_getLast? e)).2.1
    unfold nextW
    rw [e]
    simp only
    omega
theorem PdN.openW {B : Int} (h : PdN B P) (h0 : 0 ≤ B) (hB : B + 1 ≤ 9223372036854775807) : PdN (B + 1) (openW P).2.2 ∧ ∀ o, (Ytokmiphgalpahaa.openW P).2.1 = some o → 1 ≤ o.seg ∧ o.seg ≤ B + 1 := by
  have h' : PdN (B + 1) P := ⟨h.1, Nums.more h.2 (by omega)⟩
  have hn := nextW_up h.2 h0
  have h1 := nextW_lo h.1
  have hl := h'.lay hn hB (wholeW (anewW P).1 (anewW P).2) (numsP P)
  unfold Ytokmiphgalpahaa.openW
  split
  · exact ⟨h', fun o ho => by cases ho⟩
  split
  · rename_i p s hw
    refine ⟨h', fun o ho => ?_⟩
    cases ho
    have hm : p ∈ P.L := by
      unfold wholeP at hw
      split at hw
      · cases hw
      · rename_i p' s' hf
        split at hw
        · cases hw
          exact (lastF_mem hf).1
        · cases hw
    exact ⟨(h.1.seg p hm).2.1, h'.2 p hm⟩
  split
  · exact ⟨hl, fun o ho => by cases ho⟩
  · refine ⟨hl, fun o ho => ?_⟩
    cases ho
    exact ⟨h1, hn⟩
theorem PdN.recW {B : Int} (h : PdN B P) (hs : s ≤ B) (hB : B ≤ 9223372036854775807) (p : List UInt8) : PdN B (recW P s p).2 := by
  unfold Ytokmiphgalpahaa.recW
  split
  · exact h
  · exact h.app hs hB _
theorem PdN.rebaseW {B : Int} (h : PdN B P) (h1 : 1 ≤ s) (hs : s + 1 ≤ B) (hB : B ≤ 9223372036854775807) (p : List UInt8) : PdN B (rebaseW P s p).2.2 ∧ 1 ≤ (Ytokmiphgalpahaa.rebaseW P s p).2.1 ∧ (Ytokmiphgalpahaa.rebaseW P s p).2.1 ≤ B := by
  have ha := h.app (n := s + 1) hs hB (wholeW p [])
  unfold Ytokmiphgalpahaa.rebaseW
  split
  · exact ⟨h, h1, by simp only; omega⟩
  split
  · exact ⟨ha, h1, by simp only; omega⟩
  split
  · exact ⟨ha.sync _, by simp only; omega, hs⟩
  · exact ⟨(ha.sync _).drop _, by simp only; omega, hs⟩

/-! ### calls that hand out a log -/
theorem B2.dopen (h : B2 w0 w d mb m P Q X) (hX : ∀ x, X x → x < w.heap.size) (hN : ∀ p ∈ P.L, p.n ≤ 4611686018427387904) :
    Calls Try.prog 6 #[.pointer (some ⟨d, 0, none⟩)] w fun e w' => ∃ K : Nat → Prop, OpenRet K w' d (openW P) e ∧ B2 w0 w' d mb m (openW P).2.2 Q (fun x => K x ∨ X x) ∧ (∀ x, K x → w.heap.size ≤ x ∧ x < w'.heap.size) ∧ Turn (fun x => w0.heap.size ≤ x ∧ ¬ X x) w w' := by
  obtain ⟨⟨F, G, hD, ⟨lv, rs, hR⟩, hF, hG⟩, hbel⟩ := h
  refine (open_any hD hN).mono ?_
  rintro e w1 ⟨K, F', hr, hD1, hF1, hK, hT⟩
  have hs := hT.size
  have hs0 := hbel.size
  refine ⟨K, hr, ⟨⟨F', G, hD1, ⟨lv, rs, hR.keep hT (fun x hx hf => (hF x hf).2.2.1 hx)⟩, fun x hx => ?_, fun x hx => ?_⟩, hbel.trans (hT.bel hs0 (fun x hx => (hF x hx).1))⟩, hK, hT.mono (fun x hx => ⟨(hF x hx).1, (hF x hx).2.2.2⟩)⟩
  · obtain ⟨h1, h2⟩ := hF1 x hx
    rcases h1 with h1 | h1
    · obtain ⟨a, b, c, e⟩ := hF x h1
      exact ⟨a, by omega, c, fun hh => hh.elim h2 e⟩
    · exact ⟨by omega, h1.2, fun hg => by have := (hG x hg).2.1; omega, fun hh => hh.elim h2 (fun hh => by have := hX x hh; omega)⟩
  · obtain ⟨a, b, e⟩ := hG x hx
    exact ⟨a, by omega, fun hh => hh.elim (fun hk => by have := (hK x hk).1; omega) e⟩
theorem B2.ropen (h : B2 w0 w d mb m P Q X) (hX : ∀ x, X x → x < w.heap.size) (hok : PdN 4611686018427387903 Q) :
    Calls Try.prog 15 #[.pointer (some ⟨m, 0, none⟩)] w fun e w' => ∃ K : Nat → Prop, ROpenRet K w' m (openW Q) e ∧ B2 w0 w' d mb m P (openW Q).2.2 (fun x => K x ∨ X x) ∧ (∀ x, K x → w.heap.size ≤ x ∧ x < w'.heap.size) ∧ Turn (fun x => w0.heap.size ≤ x ∧ ¬ X x) w w' := by
  obtain ⟨⟨F, G, hD, hR, hF, hG⟩, hbel⟩ := h
  refine (ropen_any hR hok).mono ?_
  rintro e w1 ⟨K, G', hr, hR1, hG1, hK, hT⟩
  have hs := hT.size
  have hs0 := hbel.size
  refine ⟨K, hr, ⟨⟨F, G', hD.keep hT (fun x hx => (hF x hx).2.2.1), hR1, fun x hx => ?_, fun x hx => ?_⟩, hbel.trans (hT.bel hs0 (fun x hx => (hG x hx).1))⟩, hK, hT.mono (fun x hx => ⟨(hG x hx).1, (hG x hx).2.2⟩)⟩
  · obtain ⟨a, b, c, e⟩ := hF x hx
    refine ⟨a, by omega, fun hg => ?_, fun hh => hh.elim (fun hk => by have := (hK x hk).1; omega) e⟩
    rcases (hG1 x hg).1 with hg | hg
    · exact c hg
    · omega
  · obtain ⟨h1, h2⟩ := hG1 x hx
    rcases h1 with h1 | h1
    · obtain ⟨a, b, e⟩ := hG x h1
      exact ⟨a, by omega, fun hh => hh.elim h2 e⟩
    · exact ⟨by omega, h1.2, fun hh => hh.elim h2 (fun hh => by have := hX x hh; omega)⟩

/-! ### two logs -/
structure L2 (w0 w : World) (d mb m : Nat) (P Q : Pd) (wb rb : Nat) (s t : Int) (bv cv : Value) (X : Nat → Prop) : Prop where
  b : B2 w0 w d mb m P Q (fun x => (x = wb ∨ x = rb) ∨ X x)
  kw : Blk w wb #[.pointer (some ⟨d, 0, none⟩), .int .i64 s] 64
  kr : Blk w rb #[.pointer (some ⟨m, 0, none⟩), .int .i64 t, bv, cv] 52
  low : w0.heap.size ≤ wb
  lor : w0.heap.size ≤ rb
  x : ∀ x, X x → x ≠ wb ∧ x ≠ rb ∧ x < w.heap.size
theorem L2.ne (h : L2 w0 w d mb m P Q wb rb s t bv cv X) : wb ≠ rb := by
  rintro rfl
  have h1 := h.kw
  have h2 := h.kr
  unfold Blk at h1 h2
  rw [h1] at h2
  simp at h2
theorem L2.bel (h : L2 w0 w d mb m P Q wb rb s t bv cv X) : Below w0.heap.size w0 w := h.b.bel
theorem L2.lt (h : L2 w0 w d mb m P Q wb rb s t bv cv X) : ∀ x, ((x = wb ∨ x = rb) ∨ X x) → x < w.heap.size := fun x hx => by
  rcases hx with (rfl | rfl) | hx
  · exact h.kw.lt
  · exact h.kr.lt
  · exact (h.x x hx).2.2
theorem L2.next (h : L2 w0 w d mb m P Q wb rb s t bv cv X) (hb : Below w.heap.size w w') (hX : ∀ x, X' x → (X x ∨ w.heap.size ≤ x) ∧ x < w'.heap.size) : L2 w0 w' d mb m P Q wb rb s t bv cv X' := by
  have h1 := h.kw.lt
  have h2 := h.kr.lt
  refine ⟨h.b.next hb (fun x hx => ?_), h.kw.next hb, h.kr.next hb, h.low, h.lor, fun x hx => ?_⟩
  · rcases hx with hx | hx
    · exact .inl (.inl hx)
    · rcases (hX x hx).1 with hx | hx
      · exact .inl (.inr hx)
      · exact .inr hx
  · obtain ⟨h3, h4⟩ := hX x hx
    rcases h3 with h3 | h3
    · exact ⟨(h.x x h3).1, (h.x x h3).2.1, h4⟩
    · exact ⟨by omega, by omega, h4⟩
/-- what is kept: the blocks of X -/
def KeptX (X : Nat → Prop) (w w' : World) : Prop := ∀ g cs ty, X g → Blk w g cs ty → Blk w' g cs ty
theorem L2.dcall (h : L2 w0 w d mb m P Q wb rb s t bv cv X) {r : Int × Pd} {f : FuncId} {args : Array Value} (hc : ∀ F, DAt F w d mb P → (∀ x, F x → w0.heap.size ≤ x ∧ ¬ ((x = wb ∨ x = rb) ∨ X x)) → Calls Try.prog f args w (Done F w d mb r)) :
    Calls Try.prog f args w fun e w' => e = .returned (.int .i64 r.1) ∧ L2 w0 w' d mb m r.2 Q wb rb s t bv cv X ∧ KeptX X w w' := by
  refine (h.b.dcall h.lt hc).mono ?_
  rintro e w1 ⟨he, hb, hT⟩
  have hs := hT.size
  exact ⟨he, ⟨hb, blkT h.kw hT (fun hh => hh.2 (.inl (.inl rfl))), blkT h.kr hT (fun hh => hh.2 (.inl (.inr rfl))), h.low, h.lor, fun x hx => ⟨(h.x x hx).1, (h.x x hx).2.1, by have := (h.x x hx).2.2; omega⟩⟩, fun g cs ty hg hk => blkT hk hT (fun hh => hh.2 (.inr hg))⟩
theorem L2.rcall (h : L2 w0 w d mb m P Q wb rb s t bv cv X) {r : Int × Pd} {f : FuncId} {args : Array Value} (hc : ∀ G, RAt G w m Q → (∀ x, G x → w0.heap.size ≤ x ∧ ¬ ((x = wb ∨ x = rb) ∨ X x)) → Calls Try.prog f args w (RDone G w m r)) :
    Calls Try.prog f args w fun e w' => e = .returned (.int .i64 r.1) ∧ L2 w0 w' d mb m P r.2 wb rb s t bv cv X ∧ KeptX X w w' := by
  refine (h.b.rcall h.lt (v := .int .i64 r.1) (Q' := r.2) (fun G lv rs hR hG => hc G ⟨lv, rs, hR⟩ hG)).mono ?_
  rintro e w1 ⟨he, hb, hT⟩
  have hs := hT.size
  exact ⟨he, ⟨hb, blkT h.kw hT (fun hh => hh.2 (.inl (.inl rfl))), blkT h.kr hT (fun hh => hh.2 (.inl (.inr rfl))), h.low, h.lor, fun x hx => ⟨(h.x x hx).1, (h.x x hx).2.1, by have := (h.x x hx).2.2; omega⟩⟩, fun g cs ty hg hk => blkT hk hT (fun hh => hh.2 (.inr hg))⟩
theorem l2_append (h : L2 w0 w d mb m P Q wb rb s t bv cv X) (hn : Rng s) {v : Value} {p : List UInt8} (hv : Rd8 w v p) :
    Calls Try.prog 9 #[.pointer (some ⟨wb, 0, none⟩), v] w fun e w' => e = .returned (.int .i64 (recW P s p).1) ∧ L2 w0 w' d mb m (recW P s p).2 Q wb rb s t bv cv X ∧ KeptX X w w' :=
  h.dcall (fun F hD hF => wal_append hD h.kw (fun hf => (hF _ hf).2 (.inl (.inl rfl))) hn hv)
theorem l2_sync (h : L2 w0 w d mb m P Q wb rb s t bv cv X) (hn : Rng s) :
    Calls Try.prog 10 #[.pointer (some ⟨wb, 0, none⟩)] w fun e w' => e = .returned (.int .i64 (P.sync s).1) ∧ L2 w0 w' d mb m (P.sync s).2 Q wb rb s t bv cv X ∧ KeptX X w w' :=
  h.dcall (fun F hD hF => wal_sync hD h.kw (fun hf => (hF _ hf).2 (.inl (.inl rfl))) hn)
theorem l2_rappend (h : L2 w0 w d mb m P Q wb rb s t bv cv X) (hok : PdOk Q) {v : Value} {p : List UInt8} (hv : Rd8 w v p) :
    Calls Try.prog 17 #[.pointer (some ⟨rb, 0, none⟩), v] w fun e w' => e = .returned (.int .i64 (recW Q t p).1) ∧ L2 w0 w' d mb m P (recW Q t p).2 wb rb s t bv cv X ∧ KeptX X w w' :=
  h.rcall (fun G hR hG => refwal_append hR hok h.kr (fun hf => (hG _ hf).2 (.inl (.inr rfl))) hv)
theorem l2_rsync (h : L2 w0 w d mb m P Q wb rb s t bv cv X) (hok : PdOk Q) (n : Int) :
    Calls Try.prog 18 #[.pointer (some ⟨m, 0, none⟩), .int .i64 n] w fun e w' => e = .returned (.int .i64 (Q.sync n).1) ∧ L2 w0 w' d mb m P (Q.sync n).2 wb rb s t bv cv X ∧ KeptX X w w' :=
  h.rcall (fun G hR hG => by obtain ⟨lv, rs, hR⟩ := hR; exact sync_ref hR hok n)
theorem l2_rebase (h : L2 w0 w d mb m P Q wb rb s t bv cv X) (hn0 : 0 ≤ s) (hn1 : s ≤ 9223372036854775806) {v : Value} {p : List UInt8} (hv : Rd8 w v p) :
    Calls Try.prog 11 #[.pointer (some ⟨wb, 0, none⟩), v] w fun e w' => e = .returned (.int .i64 (rebaseW P s p).1) ∧ L2 w0 w' d mb m (rebaseW P s p).2.2 Q wb rb (rebaseW P s p).2.1 t bv cv X ∧ KeptX X w w' := by
  obtain ⟨⟨F, G, hD, ⟨lv, rs, hR⟩, hF, hG⟩, hbel⟩ := h.b
  refine (wal_rebase hD h.kw (fun hf => (hF _ hf).2.2.2 (.inl (.inl rfl))) hn0 hn1 hv).mono ?_
  rintro e w1 ⟨rfl, k2, k3, k4⟩
  have hs := k3.size
  have hs0 := hbel.size
  have hwb := h.kw.lt
  refine ⟨rfl, ⟨⟨⟨_, G, k2, ⟨lv, rs, hR.keep k3 (fun x hx hf => ?_)⟩, fun x hx => ?_, fun x hx => ?_⟩, hbel.trans (k3.bel hs0 (fun x hx => ?_))⟩, k4, blkT h.kr k3 (fun hf => ?_), h.low, h.lor, fun x hx => ⟨(h.x x hx).1, (h.x x hx).2.1, by have := (h.x x hx).2.2; omega⟩⟩, fun g cs ty hg hk => blkT hk k3 (fun hf => ?_)⟩
  · rcases hf with hf | rfl
    · exact (hF x hf).2.2.1 hx
    · exact (hG _ hx).2.2 (.inl (.inl rfl))
  · rcases hx with hx | hx
    · obtain ⟨a, b, c, e⟩ := hF x hx
      exact ⟨a, by omega, c, e⟩
    · exact ⟨by omega, hx.2, fun hg => by have := (hG x hg).2.1; omega, fun hh => by have := h.lt x hh; omega⟩
  · obtain ⟨a, b, e⟩ := hG x hx
    exact ⟨a, by omega, e⟩
  · rcases hx with hx | rfl
    · exact (hF x hx).1
    · exact h.low
  · rcases hf with hf | hf
    · exact (hF _ hf).2.2.2 (.inl (.inr rfl))
    · exact h.ne hf.symm
  · rcases hf with hf | hf
    · exact (hF _ hf).2.2.2 (.inr hg)
    · exact (h.x g hg).1 hf
theorem l2_rrebase (h : L2 w0 w d mb m P Q wb rb s t bv cv X) (hok : PdN 4611686018427387904 Q) (hn0 : 0 ≤ t) (hn1 : t < 4611686018427387904) {v : Value} {p : List UInt8} (hv : Rd8 w v p) :
    Calls Try.prog 19 #[.pointer (some ⟨rb, 0, none⟩), v] w fun e w' => e = .returned (.int .i64 (rebaseW Q t p).1) ∧ L2 w0 w' d mb m P (rebaseW Q t p).2.2 wb rb s (rebaseW Q t p).2.1 bv cv X ∧ KeptX X w w' := by
  obtain ⟨⟨F, G, hD, hR, hF, hG⟩, hbel⟩ := h.b
  refine (refwal_rebase hR hok h.kr (fun hf => (hG _ hf).2.2 (.inl (.inr rfl))) hn0 hn1 hv).mono ?_
  rintro e w1 ⟨rfl, k2, k3, k4⟩
  have hs := k3.size
  have hs0 := hbel.size
  have hrb := h.kr.lt
  refine ⟨rfl, ⟨⟨⟨F, _, hD.keep k3 (fun x hx hf => ?_), k2, fun x hx => ?_, fun x hx => ?_⟩, hbel.trans (k3.bel hs0 (fun x hx => ?_))⟩, blkT h.kw k3 (fun hf => ?_), k4, h.low, h.lor, fun x hx => ⟨(h.x x hx).1, (h.x x hx).2.1, by have := (h.x x hx).2.2; omega⟩⟩, fun g cs ty hg hk => blkT hk k3 (fun hf => ?_)⟩
  · rcases hf with hf | rfl
    · exact (hF x hx).2.2.1 hf
    · exact (hF _ hx).2.2.2 (.inl (.inr rfl))
  · obtain ⟨a, b, c, e⟩ := hF x hx
    refine ⟨a, by omega, fun hg => ?_, e⟩
    rcases hg with hg | hg
    · exact c hg
    · omega
  · rcases hx with hx | hx
    · obtain ⟨a, b, e⟩ := hG x hx
      exact ⟨a, by omega, e⟩
    · exact ⟨by omega, hx.2, fun hh => by have := h.lt x hh; omega⟩
  · rcases hx with hx | rfl
    · exact (hG x hx).1
    · exact h.lor
  · rcases hf with hf | hf
    · exact (hG _ hf).2.2 (.inl (.inl rfl))
    · exact h.ne hf
  · rcases hf with hf | hf
    · exact (hG _ hf).2.2 (.inr hg)
    · exact (h.x g hg).2.1 hf
theorem B2.is (h : B2 w0 w d mb m P P H) : Calls Try.prog 16 #[.pointer (some ⟨d, 0, none⟩), .pointer (some ⟨m, 0, none⟩)] w fun e w' => e = .returned (.bool true) ∧ Below w.heap.size w w' := by
  have hok := h.ok
  obtain ⟨⟨F, G, ⟨l, hI, hL⟩, ⟨lv, rs, hR⟩, hF, hG⟩, hbel⟩ := h
  exact is_any hI hL hR hok
end Go.Proofs.Ytokmiphgalpahaa
