/- Rows that a call makes; the text of labels: label.Text (32), the document's (36). -/
import Derived.Test.YtplieoalfbpniaaGreatI4
namespace Go.Proofs.YtplieoalfbpniaaGreat
open Go.RowKit Go.Kt Go.Ix
set_option maxRecDepth 100000

/-! ### rows made since a world w0 -/
def Mine (e : TypeId) (size : Nat) (w0 w : World) (v : Value) (n : Nat) (xs : List Value) : Prop := Own e size w v n xs ∧ (∀ b, v.ownBlock = some b → w0.heap.size ≤ b) ∧ Below w0.heap.size w0 w
theorem mine_nil (e : TypeId) (size : Nat) (w : World) : Mine e size w w (.slice none 0 0) 0 [] := ⟨own_nil w e size, (fun b hb => by cases hb), bel_refl w⟩
theorem Mine.below {e : TypeId} {size : Nat} {w0 w w' : World} {v : Value} {n : Nat} {xs : List Value} (h : Mine e size w0 w v n xs) (hb : Below w.heap.size w w') : Mine e size w0 w' v n xs :=
  ⟨h.1.below' hb, h.2.1, bel_trans h.2.2 hb⟩
theorem Mine.rd {e : TypeId} {size : Nat} {w0 w : World} {v : Value} {n : Nat} {xs : List Value} (h : Mine e size w0 w v n xs) : RdRow size w v n xs := h.1.rd
theorem mine_grown {e : TypeId} {size : Nat} {w0 w w' : World} {v v' : Value} {n m : Nat} {xs ys : List Value} (hm : Mine e size w0 w v n xs) (h2 : Own e size w' v' m ys) (h3 : w.grownBy w' v.ownBlock)
    (h4 : ∀ b, v'.ownBlock = some b → v.ownBlock = some b ∨ w.heap.size ≤ b) : Mine e size w0 w' v' m ys :=
  ⟨h2, fun b hb => (h4 b hb).elim (hm.2.1 b) fun h => Nat.le_trans hm.2.2.size h, hm.2.2.grown h3 hm.2.2.size fun k hk => hm.2.1 k hk⟩
/-- 'append(s, x...)': s made since w0 -/
theorem mine_app {P : Program} {w0 w1 w : World} {ops : Array Oper} {rest : List Oper} {o : Oper} {a : Act} {Q : Exit → Act → World → Prop} (hgd : Region.wanted o (yielded ops a.tmps) = true) (s x : Operand) (t : TypeId)
    (ho : o.op = .call { callee := .builtin .append, args := #[s, x], argTypes := #[t, t] })
    {e : TypeId} {z : Value} {size bytes : Nat} (ok : ElemOk P t e z size bytes)
    {v : Value} {n : Nat} {xs : List Value} {vx : Value} {m : Nat} {news : List Value} (hs : a.eval s = v) (hx : a.eval x = vx)
    (hm : Mine e size w0 w1 v n xs) (hb : Below w1.heap.size w1 w) (hrd : RdRow size w vx m news) (h1 : ∀ u ∈ news, u.oneCell' = true)
    (h63 : n + m ≤ maxLen) (hbytes : (n + m) * bytes ≤ 140737488355328)
    (h : ∀ v' w', Mine e size w0 w' v' (n + m) (xs ++ news) → w.grownBy w' v.ownBlock → wpList P ops Q rest (a.put o.dst v') w') : wpList P ops Q (o :: rest) a w :=
  wpList_app hgd s x t ho ok hs hx (hm.below hb).1 hrd h1 h63 hbytes fun v' w' h2 h3 h4 => h v' w' (mine_grown (hm.below hb) h2 h3 h4) h3
/-- the same in a region that draws its order -/
theorem mine_step {P : Program} {w0 w1 w : World} {ops : Array Oper} {o : Oper} {a : Act} {K : Act → World → Prop} {Q : Exit → Act → World → Prop} {E : Prop} (hgd : o.guard = none) (s x : Operand) (t : TypeId)
    (ho : o.op = .call { callee := .builtin .append, args := #[s, x], argTypes := #[t, t] })
    {e : TypeId} {z : Value} {size bytes : Nat} (ok : ElemOk P t e z size bytes)
    {v : Value} {n : Nat} {xs : List Value} {vx : Value} {m : Nat} {news : List Value} (hs : a.eval s = v) (hx : a.eval x = vx)
    (hm : Mine e size w0 w1 v n xs) (hb : Below w1.heap.size w1 w) (hrd : RdRow size w vx m news) (h1 : ∀ u ∈ news, u.oneCell' = true)
    (h63 : n + m ≤ maxLen) (hbytes : (n + m) * bytes ≤ 140737488355328)
    (h : ∀ v' w', Mine e size w0 w' v' (n + m) (xs ++ news) → w.grownBy w' v.ownBlock → K (a.put o.dst v') w') :
    if Region.wanted o (yielded ops a.tmps) = true then Oper.wp P o a w K Q else E :=
  step_app hgd s x t ho ok hs hx (hm.below hb).1 hrd h1 h63 hbytes fun v' w' h2 h3 h4 => h v' w' (mine_grown (hm.below hb) h2 h3 h4) h3
theorem rd_lit {w : World} {e : TypeId} {g : Nat} (size : Nat) (cs : Array Value) (n : Nat) (hg : g = w.heap.size) (hm : n ≤ maxLen) (hs : cs.size = n * size) :
    RdRow size (w.alloc (.cells cs e)) (.slice (some ⟨g, 0, none⟩) n n) n cs.toList := by subst hg; exact (own_lit w e size cs n hm hs).rd

theorem ok77 : ElemOk Tryz.prog 147 9 (.string ⟨#[]⟩) 1 16 := ⟨Tryz.underlying147, info_parts (by kernel_rfl), rfl, by decide⟩

/-! ### how long the parts of a text are -/
theorem pairL_le {l : List Pr} {k : Nat} {p : Pr} (h : l[k]? = some p) : (headL (l.take k)).length + (pairL p).length ≤ (headL l).length := by
  obtain ⟨hk, rfl⟩ := List.getElem?_eq_some_iff.1 h
  have h1 := headL_take_le l (k + 1)
  rw [List.take_succ_eq_append_getElem hk] at h1
  by_cases h0 : l.take k = []
  · rw [h0] at h1 ⊢
    rw [List.nil_append, headL_first] at h1
    simpa using h1
  · rw [headL_next _ _ h0] at h1
    simp only [List.length_append, List.length_cons] at h1
    omega
theorem quote_le_pair (p : Pr) : (quoteL (bl p.v)).length + 1 ≤ (pairL p).length := by simp only [pairL, List.length_append, List.length_cons]; omega
theorem len_le_head : ∀ (l : List Pr), l.length ≤ (headL l).length := by
  have key : ∀ (l : List Pr), l.length ≤ (Lib.joinTail [44] (l.map pairL)).length := by
    intro l
    induction l with
    | nil => simp
    | cons p t ih => simp only [List.map_cons, Lib.joinTail, List.flatten_cons, List.length_append, List.length_cons, List.length_nil] at ih ⊢; omega
  intro l
  cases l with
  | nil => simp
  | cons p t =>
    have := key t
    simp only [headL, List.map_cons, Lib.join_cons, List.length_cons, List.length_append]
    omega
theorem fit_of_text {l : List Pr} (h : (textL l).length ≤ 140737488355328) : Fit l := by
  intro p hp
  obtain ⟨i, hi, rfl⟩ := List.mem_iff_getElem.1 hp
  have h1 := pairL_le (List.getElem?_eq_getElem hi)
  rw [textL_head] at h
  have h2 := quote_le_pair l[i]
  have h3 : (bl l[i].n).length ≤ (pairL l[i]).length := by simp only [pairL, List.length_append]; omega
  rw [bl_len] at h3
  simp only [List.length_append, List.length_cons, List.length_nil] at h
  have h4 := quote_size l[i].v (by omega)
  simp only [maxLen]
  omega

theorem name_size {l : List Pr} {k : Nat} {p : Pr} (h : (textL l).length ≤ 140737488355328) (hp : l[k]? = some p) : p.n.size ≤ 140737488355328 := by
  have h1 := pairL_le hp
  rw [textL_head] at h
  have h3 : (bl p.n).length ≤ (pairL p).length := by simp only [pairL, List.length_append]; omega
  rw [bl_len] at h3
  simp only [List.length_append, List.length_cons, List.length_nil] at h
  omega
/-! ### texts put together -/
def mkS (l : List UInt8) : ByteArray := ⟨l.toArray⟩
theorem mkS_add (a b : List UInt8) : mkS a ++ mkS b = mkS (a ++ b) := by
  apply bl_inj
  simp [bl, mkS, ByteArray.append_eq]
theorem mkS_bl (s : ByteArray) : mkS (bl s) = s := mk_bl s
theorem pair_text (p : Pr) : p.n ++ (⟨#[61]⟩ : ByteArray) ++ mkS (quoteL (bl p.v)) = mkS (pairL p) := by
  rw [show p.n = mkS (bl p.n) from (mkS_bl _).symm, show (⟨#[61]⟩ : ByteArray) = mkS [61] from rfl, mkS_add, mkS_add]
  simp [pairL, List.append_assoc]

theorem one_str (s : ByteArray) : ∀ u ∈ [Value.string s], u.oneCell' = true := by intro u hu; rw [List.mem_singleton.1 hu]; rfl
theorem one_le : 1 ≤ maxLen := by simp [maxLen]
def strsOf (l : List Pr) : List Value := l.map fun p => .string (mkS (pairL p))
theorem strsOf_take {l : List Pr} {k : Nat} {p : Pr} (h : l[k]? = some p) : strsOf (l.take k) ++ [.string (mkS (pairL p))] = strsOf (l.take (k + 1)) := by
  obtain ⟨hk, rfl⟩ := List.getElem?_eq_some_iff.1 h
  rw [List.take_succ_eq_append_getElem hk, strsOf, strsOf, List.map_append]; rfl

theorem join_any {w0 w : World} {v : Value} {l : List Pr} (h : Mine 9 1 w0 w v l.length (strsOf l)) (hl : l.length ≤ 1048576) (hq : (textL l).length ≤ 140737488355328) :
    Calls Tryz.prog 67 #[v, .string ⟨#[44]⟩] w fun e w' => e = .returned (.string (mkS (Lib.join (l.map pairL) [44]))) ∧ Below w0.heap.size w0 w' := by
  obtain ⟨_, a, cap, rfl, h1, h2, h3, h5⟩ := h.rd
  cases l with
  | nil =>
    refine (Tryz.strings_Join_none a cap ⟨#[44]⟩ w).mono ?_
    rintro e w' ⟨rfl, rfl⟩
    exact ⟨by rw [List.map_nil, Lib.join_nil]; rfl, h.2.2⟩
  | cons p t =>
    obtain ⟨b, o, rfl, hc⟩ := h5 0 (.string (mkS (pairL p))) rfl
    have hbk := World.block_lt_of_cell? w _ hc
    have hx : ((p :: t).map fun q => mkS (pairL q)).map (fun s => s.data.toList) = (p :: t).map pairL := by
      rw [List.map_map]; apply List.map_congr_left; intro q _; rfl
    have hj : (Lib.join ((p :: t).map pairL) [44]).length ≤ 140737488355328 := by
      rw [textL_eq] at hq
      simp only [List.length_cons, List.length_append] at hq ⊢
      omega
    have := Tryz.strings_Join b o cap ((p :: t).map fun q => mkS (pairL q)) ⟨#[44]⟩ w (fun j x hj => by
      simp only [List.getElem?_map, Option.map_eq_some_iff] at hj
      obtain ⟨q, hq, rfl⟩ := hj
      obtain ⟨b', o', e, hc'⟩ := h5 j (.string (mkS (pairL q))) (by simp only [strsOf, List.getElem?_map, hq]; rfl)
      cases e
      exact hc') hbk (by rw [List.length_map]; omega) (by rw [List.length_map]; exact h1) (by rw [hx]; exact hj)
    rw [hx, List.length_map] at this
    refine this.mono ?_
    rintro e w' ⟨rfl, hb⟩
    exact ⟨rfl, bel_trans h.2.2 hb⟩
theorem text_mk (l : List Pr) : (⟨#[123]⟩ : ByteArray) ++ mkS (Lib.join (l.map pairL) [44]) ++ (⟨#[125]⟩ : ByteArray) = mkS (textL l) := by
  rw [show (⟨#[123]⟩ : ByteArray) = mkS [123] from rfl, show (⟨#[125]⟩ : ByteArray) = mkS [125] from rfl, mkS_add, mkS_add, textL_eq]
  rfl
theorem mkS_size (l : List UInt8) : (mkS l).size = l.length := by simp [mkS, ByteArray.size]

set_option maxHeartbeats 1000000 in
theorem text_any (v : Value) (l : List Pr) (w : World) (hv : RdP w v l) (hlen : l.length ≤ 1048576) (hq : (textL l).length ≤ 140737488355328) :
    Calls Tryz.prog 39 #[v] w fun e w' => e = .returned (.string (mkS (textL l))) ∧ Below w.heap.size w w' := by
  obtain ⟨a, cap, rfl, hcap, hbig, hcell⟩ := hv.open
  have Hcell := Lib.hid hcell
  have HQ := Lib.hid hq
  clear hcell hv hq
  go_enter Tryz.func39, Tryz.ntmps39
  go_wp2_with fail
  go_loopw [3, 5, 8] (fun v _ i wr => ∃ k : Nat, k ≤ l.length ∧ i = .int .i64 k ∧ Hid (Mine 9 1 w wr v k (strsOf (l.take k)))) (fun _ _ i _ => l.length - (intOf i).toNat)
  case atStart => exact ⟨0, by omega, rfl, Lib.hid (mine_nil 9 1 w)⟩
  case round =>
    obtain ⟨k, hk, rfl, HM⟩ := hrel
    by_cases hlt : k < l.length
    · obtain ⟨p, hp⟩ : ∃ x, l[k]? = some x := ⟨l[k], List.getElem?_eq_getElem hlt⟩
      obtain ⟨b, o, rfl, c1, c2⟩ := Hcell.out k p hp
      have lb := World.block_lt_of_cell? w _ c1
      have c1' : wr.cell? ⟨b, o + k * 2, none⟩ = some (.string p.n) := (HM.out.2.2.cell (p := ⟨b, o + k * 2, none⟩) lb).trans c1
      have c2' : wr.cell? ⟨b, o + k * 2 + 1, none⟩ = some (.string p.v) := (HM.out.2.2.cell (p := ⟨b, o + k * 2 + 1, none⟩) lb).trans c2
      have HP := Lib.hid hp
      clear c1 c2 hp lb
      have hqp : (quoteL (bl p.v)).length ≤ 140737488355328 := by
        have h1 := pairL_le HP.out
        have h2 := quote_le_pair p
        have h3 := HQ.out
        rw [textL_head] at h3
        simp only [List.length_append, List.length_cons, List.length_nil] at h3
        omega
      have HQP := Lib.hid hqp
      have hnp : p.n.size ≤ 140737488355328 := name_size HQ.out HP.out
      have hn1 : ¬ 9223372036854775807 < p.n.size + 1 := by omega
      have hn2 : ¬ 9223372036854775807 < p.n.size + 1 + (quoteL (bl p.v)).length := by omega
      go_wp2_with fail
      have HX := Lib.hid (Blk.new wr #[.string p.n, .string p.v] 69)
      have HB5 := Lib.hid (below_alloc wr (.cells #[.string p.n, .string p.v] 69))
      generalize wr.alloc (.cells #[.string p.n, .string p.v] 69) = w5 at HX HB5 ⊢
      have HM5 := Lib.hid (HM.out.below HB5.out)
      have HK : Hid (∀ w', Below w5.heap.size w5 w' → w'.cell? ⟨wr.heap.size, 0, none⟩ = some (.string p.n) ∧ w'.cell? ⟨wr.heap.size, 1, none⟩ = some (.string p.v)) := Lib.hid (fun w' h => ⟨(HX.out.next h).cell 0, (HX.out.next h).cell 1⟩)
      have hx5 := bel_refl w5
      obtain ⟨k0, k1⟩ := HK.out _ hx5
      have Hne : Hid (u3.ownBlock ≠ some wr.heap.size) := Lib.hid (fun e => by have := HM.out.1.lt _ e; omega)
      have Hlen : Hid ((strsOf (l.take k)).length = k) := Lib.hid (by simp [strsOf]; omega)
      go_region_held3 (fun w' => w'.cell? ⟨wr.heap.size, 0, none⟩ = some (.string p.n) ∧ w'.cell? ⟨wr.heap.size, 1, none⟩ = some (.string p.v))
        (first | (exact ⟨k0, k1⟩) | (exact ⟨k70, k71⟩) | go_keep | (exact HK.out _ (by repeat (first | assumption | apply bel_alloc | apply bel_drew))))
        (first
          | (refine mine_step (by rfl) _ _ 147 (by rfl) ok77 (by rfl) (by rfl) HM5.out (by repeat (first | assumption | apply bel_alloc | apply bel_drew)) (news := [.string (p.n ++ (⟨#[61]⟩ : ByteArray) ++ ⟨(quoteL (bl p.v)).toArray⟩)]) (m := 1) (by exact rd_lit 1 #[_] 1 rfl one_le rfl) (one_str _) (by simp only [maxLen]; omega) (by omega) ?_; intro v7 w7 hm7 hg7; have k7 := (HX.out.next (by repeat (first | assumption | apply bel_alloc | apply bel_drew))).grown hg7 Hne.out; have k70 : w7.cell? ⟨wr.heap.size, 0, none⟩ = some (.string p.n) := k7.cell 0; have k71 : w7.cell? ⟨wr.heap.size, 1, none⟩ = some (.string p.v) := k7.cell 1; have HM7 := Lib.hid hm7; clear hm7 hg7 k7)
          | (go_simp; go_at_call 66; refine (quote_any p.v _ HQP.out).mono ?_; rintro e w6 ⟨rfl, hb6⟩; have hx6 : Below w5.heap.size w5 w6 := bel_trans (by repeat (first | assumption | apply bel_alloc | apply bel_drew)) hb6; clear hb6))
      go_wp2_with fail
      go_roundw
      case rel => exact ⟨k + 1, by omega, by go_num, Lib.hid (by
        have := HM7.out
        rw [show (⟨(quoteL (bl p.v)).toArray⟩ : ByteArray) = mkS (quoteL (bl p.v)) from rfl, pair_text, strsOf_take HP.out] at this
        exact this)⟩
      case measure => simp [intOf]; omega
    · obtain rfl : k = l.length := by omega
      rw [List.take_length] at HM
      have hj : (mkS (Lib.join (l.map pairL) [44])).size ≤ 140737488355328 := by
        have h := HQ.out
        rw [textL_eq] at h
        simp only [List.length_cons, List.length_append, mkS_size] at h ⊢
        omega
      have hj1 : ¬ 9223372036854775807 < 1 + (mkS (Lib.join (l.map pairL) [44])).size := by omega
      have hj2 : ¬ 9223372036854775807 < 1 + (mkS (Lib.join (l.map pairL) [44])).size + 1 := by omega
      go_wp2_with (first | (go_at_call 67; refine (join_any HM.out hlen HQ.out).mono ?_; rintro e w3 ⟨rfl, hb3⟩; replace hb3 := Lib.hid hb3) | fail)
      go_ret
      refine ⟨?_, hb3.out⟩
      rw [text_mk]
      rfl

end Go.Proofs.YtplieoalfbpniaaGreat
