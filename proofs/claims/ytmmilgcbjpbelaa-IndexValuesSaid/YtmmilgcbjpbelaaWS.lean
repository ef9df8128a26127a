/- IndexSplits (5). -/
import Derived.Test.YtmmilgcbjpbelaaWQ
namespace Go.Proofs.Ytmmilgcbjpbelaa
open Go.RowKit Go.Kt Go.Ix

/-! ### what both lists of rules find -/
theorem hit_iff {l : List Rl} {D : List (List Pr)} {i : Nat} : hitB l D i = true ↔ ∃ d, D[i]? = some d ∧ allB l d = true := by
  unfold hitB inOf
  rw [List.getElem?_map]
  cases h : D[i]? with
  | none => simp
  | some d => simp
theorem allB_append (a b : List Rl) (d : List Pr) : allB (a ++ b) d = (allB a d && allB b d) := by
  unfold allB
  rw [List.all_append]
theorem hit_append (a b : List Rl) (D : List (List Pr)) (i : Nat) : hitB (a ++ b) D i = (hitB a D i && hitB b D i) := by
  unfold hitB inOf
  simp only [List.getElem?_map]
  cases h : D[i]? with
  | none => simp
  | some d => simp [allB_append]
theorem found_mem {l : List Rl} {D : List (List Pr)} {i : Nat} : i ∈ foundL l D ↔ i < D.length ∧ hitB l D i = true := by
  unfold foundL foundTo
  rw [List.mem_filter, List.mem_range]
theorem found_nodup (l : List Rl) (D : List (List Pr)) : (foundL l D).Nodup := by
  unfold foundL foundTo
  exact List.Nodup.sublist List.filter_sublist List.nodup_range
theorem filter_eq_one {q : List Nat} (h : q.Nodup) (n : Nat) : q.filter (fun k => n == k) = if n ∈ q then [n] else [] := by
  induction q with
  | nil => simp
  | cons x t ih =>
    have h2 := List.nodup_cons.1 h
    rw [List.filter_cons, ih h2.2]
    by_cases e : n = x
    · subst e
      simp [h2.1]
    · simp [e]
/-- what the two loops lay together: of the first j numbers of p, those of q -/
def bothTo (p q : List Nat) (j : Nat) : List Nat := (p.take j).flatMap fun n => q.filter fun k => n == k
theorem bothTo_next {p q : List Nat} {j n : Nat} (h : p[j]? = some n) : bothTo p q (j + 1) = bothTo p q j ++ q.filter fun k => n == k := by
  obtain ⟨hk, rfl⟩ := List.getElem?_eq_some_iff.1 h
  unfold bothTo
  rw [List.take_succ_eq_append_getElem hk, List.flatMap_append]
  simp
theorem both_found (a b : List Rl) (D : List (List Pr)) : bothTo (foundL a D) (foundL b D) (foundL a D).length = foundL (a ++ b) D := by
  unfold bothTo
  rw [List.take_length]
  have h1 : ∀ p : List Nat, (p.flatMap fun n => (foundL b D).filter fun k => n == k) = p.filter fun n => decide (n ∈ foundL b D) := by
    intro p
    induction p with
    | nil => rfl
    | cons x t ih =>
      rw [List.flatMap_cons, ih, filter_eq_one (found_nodup b D), List.filter_cons]
      by_cases h : x ∈ foundL b D <;> simp [h]
  rw [h1]
  unfold foundL foundTo
  rw [List.filter_filter]
  apply List.filter_congr
  intro i hi
  rw [List.mem_range] at hi
  rw [hit_append]
  cases h2 : hitB b D i <;> cases h3 : hitB a D i <;> simp [List.mem_filter, hi, h2]
theorem found_more (l : List Rl) (D : List (List Pr)) (d : List Pr) : foundL l (D ++ [d]) = foundL l D ++ (if allB l d then [D.length] else []) := by
  have hx : (inOf l (D ++ [d]))[D.length]? = some (allB l d) := hit_yes (by simp)
  have h1 : foundL l (D ++ [d]) = foundTo l (D ++ [d]) (D.length + 1) := by unfold foundL; rw [List.length_append]; rfl
  have h2 : foundTo l (D ++ [d]) D.length = foundL l D := by
    unfold foundL foundTo
    apply List.filter_congr
    intro i hi
    rw [List.mem_range] at hi
    unfold hitB inOf
    rw [List.getElem?_map, List.getElem?_map, List.getElem?_append_left hi]
  rw [h1, found_next hx, h2]
  cases allB l d <;> simp
theorem right_append {a b : List Rl} (ha : RightR a) (hb : RightR b) (hl : a.length + b.length ≤ 16) : RightR (a ++ b) := ⟨by rw [List.length_append]; exact hl, fun r hr => (List.mem_append.1 hr).elim (ha.2 r) (hb.2 r)⟩
theorem fit_append {a b : List Rl} (ha : FitR a) (hb : FitR b) : FitR (a ++ b) := fun r hr => (List.mem_append.1 hr).elim (ha r) (hb r)

theorem flat_len {f : Nat → List Nat} {m : Nat} (h : ∀ n, (f n).length ≤ m) : ∀ l : List Nat, (l.flatMap f).length ≤ l.length * m
  | [] => by simp
  | x :: t => by
    have h1 := flat_len h t
    have h2 := h x
    rw [List.flatMap_cons, List.length_append, List.length_cons, Nat.add_mul]
    omega
theorem bothTo_len (p q : List Nat) (j : Nat) : (bothTo p q j).length ≤ p.length * q.length := by
  unfold bothTo
  refine Nat.le_trans (flat_len (fun n => List.length_filter_le _ _) _) (Nat.mul_le_mul_right _ ?_)
  rw [List.length_take]; omega
/-- what is laid within the inner loop -/
def bothIn (p q : List Nat) (j n i : Nat) : List Nat := bothTo p q j ++ (q.take i).filter fun k => n == k
theorem bothIn_yes {p q : List Nat} {j n i : Nat} (h : q[i]? = some n) : bothIn p q j n (i + 1) = bothIn p q j n i ++ [n] := by
  obtain ⟨hk, e⟩ := List.getElem?_eq_some_iff.1 h
  unfold bothIn
  rw [List.take_succ_eq_append_getElem hk, List.filter_append, e, List.append_assoc]
  simp
theorem bothIn_no {p q : List Nat} {j n i k : Nat} (h : q[i]? = some k) (hne : n ≠ k) : bothIn p q j n (i + 1) = bothIn p q j n i := by
  obtain ⟨hk, e⟩ := List.getElem?_eq_some_iff.1 h
  unfold bothIn
  rw [List.take_succ_eq_append_getElem hk, List.filter_append, e]
  simp [hne]
theorem bothIn_len (p q : List Nat) (j n i : Nat) : (bothIn p q j n i).length ≤ p.length * q.length + q.length := by
  unfold bothIn
  rw [List.length_append]
  have h1 := bothTo_len p q j
  have h2 := List.length_filter_le (fun k => n == k) (q.take i)
  rw [List.length_take] at h2
  omega
theorem rdN_take {w : World} {a : Option Addr} {n c : Nat} {p : List Nat} {x : Nat} (h : RdN w (.slice a n c) (p ++ [x])) : RdN w (.slice a p.length c) p := by
  obtain ⟨_, a', c', e, h1, h2, h3, h5⟩ := h
  cases e
  rw [List.length_append, List.length_singleton] at h1
  refine ⟨by simp [ints], a, c, rfl, by omega, h2, h3, fun j u hj => h5 j u ?_⟩
  rw [ints_snoc, List.getElem?_append_left (List.getElem?_eq_some_iff.1 hj).1]
  exact hj
theorem mine_lit0 (e : TypeId) (size : Nat) (w : World) : Mine e size w (w.alloc (.cells #[] e)) (.slice (some ⟨w.heap.size, 0, none⟩) 0 0) 0 [] :=
  ⟨own_lit w e size #[] 0 (Nat.zero_le _) (by simp), fun b hb => by injection hb with hb; simp only at hb; omega, below_alloc _ _⟩
theorem flatR_one (T : List Rl) : ∀ u ∈ flatR T, u.oneCell' = true := by
  induction T with
  | nil => intro u hu; simp [flatR] at hu
  | cons y t ih =>
    intro u hu
    simp only [flatR, List.mem_cons] at hu
    rcases hu with rfl | rfl | rfl | hu
    · rfl
    · rfl
    · rfl
    · exact ih u hu
set_option maxRecDepth 8000 in
set_option maxHeartbeats 4000000 in
theorem splits_any (v u1 u2 u3 : Value) (SS : List (List Pr)) (la lb : List Rl) (d : List Pr) (w : World) (hv : RdSets w v SS) (hf : ∀ d ∈ SS, Fit d ∧ d.length ≤ 4398046511104) (ha : RdR w u1 la) (hfa : FitR la) (hb : RdR w u2 lb) (hfb : FitR lb) (hd : RdP w u3 d) (hfd : Fit d) (hld : d.length ≤ 4398046511104) (hna : la.length ≤ 4398046511104) (hnb : lb.length ≤ 4398046511104) (hg : Glob w) :
    Calls Try.prog 5 #[v, u1, u2, u3] w fun e w' => e = .returned (.bool true) ∧ Below w.heap.size w w' := by
  obtain ⟨a, c, rfl, _, hb1, _⟩ := hv.open
  obtain ⟨aa, ca, rfl, hca1, hca2, _⟩ := ha.open
  obtain ⟨ab, cb, rfl, hcb1, hcb2, _⟩ := hb.open
  obtain ⟨ad, cd, rfl, _⟩ := hd.open
  have HV := Lib.hid hv
  have HF := Lib.hid hf
  have HA := Lib.hid ha
  have HFA := Lib.hid hfa
  have HB := Lib.hid hb
  have HFB := Lib.hid hfb
  have HD := Lib.hid hd
  have HFD := Lib.hid hfd
  have HLD := Lib.hid hld
  have HG := Lib.hid hg
  clear hv hf ha hfa hb hfb hd hfd hld hg
  go_enter Try.func5, Try.ntmps5
  go_wp2_with (first
    | (go_at_call 17; refine (made_any (.slice a SS.length c) SS _ HV.out HF.out).mono ?_; intro e w1 h1; obtain ⟨g, F, mv, D, rfl, hm, hD⟩ := h1; have HM := Lib.hid hm; have HDl := Lib.hid hD; obtain ⟨us0, hus1, hus2, hus3⟩ := hm.doc.own; obtain ⟨hcla, ma, mc, rfl, hclb⟩ := hus2.rd; clear hm hD hus1 hus2 hus3 hcla hclb us0)
    | fail)
  refine (awake_any _ ((HM.out.glob HG.out).below (below_alloc w1 _))).mono ?_
  rintro e w2 ⟨rfl, hb2⟩
  have HM2 := Lib.hid ((HM.out.next (below_alloc w1 (.cells #[.slice ma D.length mc] 48))).next hb2)
  clear HM hb2
  by_cases h16 : 16 < la.length + lb.length
  · have d16 : decide (16 < (la.length : Int) + (lb.length : Int)) = true := by simp only [decide_eq_true_eq]; omega
    have d16' : decide (16 < la.length + lb.length) = true := by simp only [decide_eq_true_eq]; omega
    go_wp2_with (first
      | (go_at_call 18; refine (awake_any _ (HM2.out.glob HG.out)).mono ?_; rintro e w3 ⟨rfl, hb3⟩; have HB3 := Lib.hid (bel_trans HM2.out.bel hb3); clear hb3)
      | fail)
    go_ret
    exact ⟨rfl, HB3.out⟩
  have d16 : decide (16 < (la.length : Int) + (lb.length : Int)) = false := by simp only [decide_eq_false_iff_not]; omega
  have d16' : decide (16 < la.length + lb.length) = false := by simp only [decide_eq_false_iff_not]; omega
  by_cases hra : ¬ RightR la
  · have HRA := Lib.hid (pb_no hra)
    clear hra
    go_wp2_with (first
      | (go_at_call 23; refine (refmright_any (.slice aa la.length ca) la _ (HA.out.below HM2.out.bel) HFA.out).mono ?_; rintro e w3 ⟨he, hb3⟩; obtain rfl := says_pb he; rw [HRA.out]; have HM3 := Lib.hid (HM2.out.next hb3); clear he hb3)
      | (go_at_call 18; refine (awake_any _ (HM3.out.glob HG.out)).mono ?_; rintro e w4 ⟨rfl, hb4⟩; have HB4 := Lib.hid (bel_trans HM3.out.bel hb4); clear hb4)
      | fail)
    go_ret
    exact ⟨rfl, HB4.out⟩
  replace hra := Classical.not_not.1 hra
  by_cases hrb : ¬ RightR lb
  · have HRA := Lib.hid (pb_yes hra)
    have HRB := Lib.hid (pb_no hrb)
    clear hra hrb
    go_wp2_with (first
      | (go_at_call_of 23 (Value.slice aa la.length ca); refine (refmright_any (.slice aa la.length ca) la _ (HA.out.below HM2.out.bel) HFA.out).mono ?_; rintro e w3 ⟨he, hb3⟩; obtain rfl := says_pb he; rw [HRA.out]; have HM3 := Lib.hid (HM2.out.next hb3); clear he hb3)
      | (go_at_call_of 23 (Value.slice ab lb.length cb); refine (refmright_any (.slice ab lb.length cb) lb _ (HB.out.below HM3.out.bel) HFB.out).mono ?_; rintro e w3 ⟨he, hb3⟩; obtain rfl := says_pb he; rw [HRB.out]; have HM4 := Lib.hid (HM3.out.next hb3); clear he hb3)
      | (go_at_call 18; refine (awake_any _ (HM4.out.glob HG.out)).mono ?_; rintro e w4 ⟨rfl, hb4⟩; have HB4 := Lib.hid (bel_trans HM4.out.bel hb4); clear hb4)
      | fail)
    go_ret
    exact ⟨rfl, HB4.out⟩
  replace hrb := Classical.not_not.1 hrb
  have HRA := Lib.hid hra
  have HRB := Lib.hid hrb
  have HRAt := Lib.hid (pb_yes hra)
  have HRBt := Lib.hid (pb_yes hrb)
  clear hra hrb
  have hla16 : la.length ≤ 16 := by omega
  have hlb16 : lb.length ≤ 16 := by omega
  have HRC := Lib.hid (right_append HRA.out HRB.out (by omega))
  have HFC := Lib.hid (fit_append HFA.out HFB.out)
  go_wp2_with (first
    | (go_at_call_of 23 (Value.slice aa la.length ca); refine (refmright_any (.slice aa la.length ca) la _ (HA.out.below HM2.out.bel) HFA.out).mono ?_; rintro e w3 ⟨he, hb3⟩; obtain rfl := says_pb he; rw [HRAt.out]; have HM3 := Lib.hid (HM2.out.next hb3); clear he hb3)
    | (go_at_call_of 23 (Value.slice ab lb.length cb); refine (refmright_any (.slice ab lb.length cb) lb _ (HB.out.below HM3.out.bel) HFB.out).mono ?_; rintro e w4 ⟨he, hb3⟩; obtain rfl := says_pb he; rw [HRBt.out]; have HM4 := Lib.hid (HM3.out.next hb3); clear he hb3)
    | (at_builtin; apply Hold.mk)
    | fail)
  unfold Hold
  refine mine_app rfl _ _ 45 rfl ok45 (by rfl) (by rfl) (mine_lit0 96 3 w4) (bel_refl _) ((HA.out.below HM4.out.bel).below (below_alloc w4 _)) (by exact flatR_one la) (by simp only [maxLen]; omega) (by omega) ?_
  intro v5 w5 hm5 hg5
  rw [Nat.zero_add, List.nil_append] at hm5
  have HM5 : Hid (MineR 96 w4 w5 v5 la) := Lib.hid hm5
  clear hm5 hg5
  go_wp2_with (at_builtin; apply Hold.mk)
  unfold Hold
  refine mine_app rfl _ _ 45 rfl ok45 (by rfl) (by rfl) HM5.out (bel_refl _) ((HB.out.below HM4.out.bel).below HM5.out.2.2) (by exact flatR_one lb) (by simp only [maxLen]; omega) (by omega) ?_
  intro v6 w6 hm6 hg6
  obtain ⟨lc, hlc⟩ : ∃ lc, lc = la ++ lb := ⟨_, rfl⟩
  have HM6 : Hid (MineR 96 w4 w6 v6 lc) := Lib.hid (by unfold MineR; rw [hlc, List.length_append, flatR_append]; exact hm6)
  have HLC := Lib.hid hlc
  rw [← hlc] at HRC HFC
  have hlc16 : lc.length ≤ 1048576 := by rw [hlc, List.length_append]; omega
  clear hm6 hg6 hlc
  obtain ⟨a6, c6, rfl, _⟩ := HM6.out.rd.open
  have HK6 := Lib.hid (HM4.out.next HM6.out.2.2)
  have hDl : D.length ≤ 60 := HDl.out
  have hDl1 : D.length ≤ 61 := by omega
  have hlaM : la.length ≤ 1048576 := by omega
  have hlbM : lb.length ≤ 1048576 := by omega
  clear HM2 HM3 HM4 HM5
  go_wp2_with (first
    | (go_at_call_of 20 (Value.slice a6 lc.length c6); refine (rto_any (.slice a6 lc.length c6) lc _ HM6.out.rd hlc16).mono ?_; intro e w7 h7; obtain ⟨v7, rfl, hm7⟩ := h7; obtain ⟨a7, c7, rfl, _⟩ := hm7.rd.open; have HM7 := Lib.hid hm7; have HK7 := Lib.hid (HK6.out.next hm7.2.2); clear hm7)
    | fail)
  refine (find_yes (.slice a7 lc.length c7) lc _ HK7.out.idx HM7.out.rd HFC.out HRC.out (HK7.out.glob HG.out) hDl1).mono ?_
  intro e w8 h8
  obtain ⟨v8, rfl, hm8⟩ := h8
  obtain ⟨hcl1, a8, c8, rfl, hcl2⟩ := hm8.rd
  have HM8 := Lib.hid hm8
  have HK8 := Lib.hid (HK7.out.next hm8.2.2)
  clear hcl1 hcl2 hm8
  go_wp2_with (first
    | (go_at_call_of 20 (Value.slice aa la.length ca); refine (rto_any (.slice aa la.length ca) la _ (HA.out.below HK8.out.bel) hlaM).mono ?_; intro e w9 h9; obtain ⟨v9, rfl, hm9⟩ := h9; obtain ⟨a9, c9, rfl, _⟩ := hm9.rd.open; have HM9 := Lib.hid hm9; have HK9 := Lib.hid (HK8.out.next hm9.2.2); clear hm9)
    | fail)
  refine (find_yes (.slice a9 la.length c9) la _ HK9.out.idx HM9.out.rd HFA.out HRA.out (HK9.out.glob HG.out) hDl1).mono ?_
  intro e w10 h10
  obtain ⟨v10, rfl, hm10⟩ := h10
  obtain ⟨hcl1, a10, c10, rfl, hcl2⟩ := hm10.rd
  have HM10 := Lib.hid hm10
  have HK10 := Lib.hid (HK9.out.next hm10.2.2)
  clear hcl1 hcl2 hm10
  go_wp2_with (first
    | (go_at_call_of 20 (Value.slice ab lb.length cb); refine (rto_any (.slice ab lb.length cb) lb _ (HB.out.below HK10.out.bel) hlbM).mono ?_; intro e w11 h11; obtain ⟨v11, rfl, hm11⟩ := h11; obtain ⟨a11, c11, rfl, _⟩ := hm11.rd.open; have HM11 := Lib.hid hm11; have HK11 := Lib.hid (HK10.out.next hm11.2.2); clear hm11)
    | fail)
  refine (find_yes (.slice a11 lb.length c11) lb _ HK11.out.idx HM11.out.rd HFB.out HRB.out (HK11.out.glob HG.out) hDl1).mono ?_
  intro e w12 h12
  obtain ⟨v12, rfl, hm12⟩ := h12
  obtain ⟨hcl1, a12, c12, rfl, hcl2⟩ := hm12.rd
  have HM12 := Lib.hid hm12
  have HK12 := Lib.hid (HK11.out.next hm12.2.2)
  clear hcl1 hcl2 hm12
  -- what was found, as it stands now
  have HX8 : Hid (Own 3 1 w12 (.slice a8 (foundL lc D).length c8) (foundL lc D).length (ints (foundL lc D))) := Lib.hid ((((HM8.out.1.below' HM9.out.2.2).below' HM10.out.2.2).below' HM11.out.2.2).below' HM12.out.2.2)
  have HX10 : Hid (Own 3 1 w12 (.slice a10 (foundL la D).length c10) (foundL la D).length (ints (foundL la D))) := Lib.hid ((HM10.out.1.below' HM11.out.2.2).below' HM12.out.2.2)
  have HX12 : Hid (Own 3 1 w12 (.slice a12 (foundL lb D).length c12) (foundL lb D).length (ints (foundL lb D))) := Lib.hid HM12.out.1
  have HN8 : Hid (∀ b, (Value.slice a8 (foundL lc D).length c8).ownBlock = some b → ¬ F b) := Lib.hid (fun b hb hx => by have := HM8.out.2.1 b hb; have := HK7.out.idx.lt b hx; omega)
  have HN10 : Hid (∀ b, (Value.slice a10 (foundL la D).length c10).ownBlock = some b → ¬ F b) := Lib.hid (fun b hb hx => by have := HM10.out.2.1 b hb; have := HK9.out.idx.lt b hx; omega)
  have Hboth : Hid (bothTo (foundL la D) (foundL lb D) (foundL la D).length = foundL lc D) := Lib.hid (by rw [HLC.out]; exact both_found la lb D)
  have hp61 : (foundL la D).length ≤ 61 := by have := found_le la D D.length; unfold foundL; omega
  have hq61 : (foundL lb D).length ≤ 61 := by have := found_le lb D D.length; unfold foundL; omega
  clear HM6 HM7 HM8 HM9 HM10 HM11 HM12 HK6 HK7 HK8 HK9 HK10 HK11
  generalize hp : foundL la D = p at *
  generalize hq : foundL lb D = q at *
  generalize hr : foundL lc D = r at *
  have Hp := Lib.hid hp
  have Hr := Lib.hid hr
  clear hp hq hr
  have hpq : p.length * q.length + q.length ≤ 4000 := by
    have := Nat.mul_le_mul hp61 hq61
    omega
  go_wp2_with fail
  have HO0 : Hid (Mine 3 1 w12 w12 (.slice none 0 0) (bothTo p q 0).length (ints (bothTo p q 0))) := Lib.hid (mine_nil 3 1 w12)
  go_loopw [18, 20, 22, 97] (fun v _ _ i wr => ∃ j : Nat, j ≤ p.length ∧ i = .int .i64 j ∧ Hid (Mine 3 1 w12 wr v (bothTo p q j).length (ints (bothTo p q j)))) (fun _ _ _ i _ => p.length - (intOf i).toNat)
  case atStart => exact ⟨0, by omega, rfl, HO0⟩
  case round =>
    clear HO0
    obtain ⟨j, hj, rfl, HO⟩ := hrel
    obtain ⟨wo, rfl⟩ : ∃ x, x = wr := ⟨_, rfl⟩
    by_cases hjl : j < p.length
    · obtain ⟨n, hn⟩ : ∃ x, p[j]? = some x := ⟨p[j], List.getElem?_eq_getElem hjl⟩
      obtain ⟨_, pa, pc, e, _, _, _, hcell⟩ := (HX10.out.below' HO.out.2.2).rd
      cases e
      obtain ⟨b, o, rfl, c0⟩ := hcell j (.int .i64 (n : Int)) (by simp [ints, hn])
      have Hn := Lib.hid hn
      have hj1 : (0 : Int) ≤ (j : Int) := by omega
      have hj2 : (j : Int) < (p.length : Int) := by omega
      have HI0 : Hid (Mine 3 1 w12 wo u18 (bothIn p q j n 0).length (ints (bothIn p q j n 0))) := Lib.hid (by
        have : bothIn p q j n 0 = bothTo p q j := by simp [bothIn]
        rw [this]; exact HO.out)
      clear hcell hn
      go_wp2_with fail
      go_loopw [18, 22, 103] (fun v _ i wr => ∃ k : Nat, k ≤ q.length ∧ i = .int .i64 k ∧ Hid (Mine 3 1 w12 wr v (bothIn p q j n k).length (ints (bothIn p q j n k)))) (fun _ _ i _ => q.length - (intOf i).toNat)
      case atStart => exact ⟨0, by omega, rfl, HI0⟩
      case round =>
        clear HI0
        obtain ⟨k, hk, rfl, HI⟩ := hrel
        by_cases hkl : k < q.length
        · obtain ⟨m, hm⟩ : ∃ x, q[k]? = some x := ⟨q[k], List.getElem?_eq_getElem hkl⟩
          obtain ⟨_, qa, qc, e, _, _, _, hcell⟩ := (HX12.out.below' HI.out.2.2).rd
          cases e
          obtain ⟨b2, o2, rfl, c1⟩ := hcell k (.int .i64 (m : Int)) (by simp [ints, hm])
          have Hm := Lib.hid hm
          have hk1 : (0 : Int) ≤ (k : Int) := by omega
          have hk2 : (k : Int) < (q.length : Int) := by omega
          have hbl := bothIn_len p q j n k
          have Hbl : Hid ((bothIn p q j n k).length ≤ 4000) := Lib.hid (by omega)
          clear hcell hm hbl
          by_cases hnm : n = m
          · subst hnm
            have HY := Lib.hid (bothIn_yes (p := p) (j := j) Hm.out)
            go_wp2_with (at_builtin; apply Hold.mk)
            unfold Hold
            refine mine_app rfl _ _ 52 rfl ok52 (by rfl) (by rfl) HI.out (by repeat (first | exact bel_refl _ | apply bel_alloc | apply bel_drew)) (by exact rd_lit 1 #[.int .i64 (n : Int)] 1 (by simp) one_le rfl) (one_int (n : Int)) (by have := Hbl.out; simp only [maxLen]; omega) (by have := Hbl.out; omega) ?_
            intro v7 w7 hm7 hg7
            have HI7 : Hid (Mine 3 1 w12 w7 v7 (bothIn p q j n (k + 1)).length (ints (bothIn p q j n (k + 1)))) := Lib.hid (by rw [HY.out, ints_snoc, List.length_append]; exact hm7)
            clear hm7 hg7
            go_wp2_with fail
            go_roundw
            case rel => exact ⟨k + 1, by omega, by go_num, HI7⟩
            case measure => simp [intOf]; omega
          · have hb1 : ((n : Int) == (m : Int)) = false := by rw [beq_eq_false_iff_ne]; omega
            have HY := Lib.hid (bothIn_no (p := p) (j := j) Hm.out hnm)
            clear hnm
            go_wp2_with fail
            go_roundw
            case rel => exact ⟨k + 1, by omega, by go_num, Lib.hid (by rw [HY.out]; exact HI.out)⟩
            case measure => simp [intOf]; omega
        · obtain rfl : q.length = k := by omega
          have HO7 : Hid (Mine 3 1 w12 wr u18 (bothTo p q (j + 1)).length (ints (bothTo p q (j + 1)))) := Lib.hid (by
            rw [bothTo_next Hn.out]
            have := HI.out
            unfold bothIn at this
            rw [List.take_length] at this
            exact this)
          go_wp2_with fail
          go_roundw
          case rel => exact ⟨j + 1, by omega, by go_num, HO7⟩
          case measure => simp [intOf]; omega
    · obtain rfl : p.length = j := by omega
      have HO2 : Hid (Mine 3 1 w12 wo u18 r.length (ints r)) := Lib.hid (by rw [← Hboth.out]; exact HO.out)
      obtain ⟨_, oa, oc, rfl, _⟩ := HO2.out.rd
      have HK13 := Lib.hid (HK12.out.next HO2.out.2.2)
      obtain ⟨nn, ff, D', hadd⟩ := adds_ex D d
      have HAd := Lib.hid hadd
      have hD' : D'.length ≤ 61 := by have := (adds_le hadd).1; omega
      clear hadd HO
      go_wp2_with (first
        | (go_at_call 24; refine (len_any _ HK13.out.idx).mono ?_; rintro e w13 ⟨rfl, rfl⟩)
        | (go_at_call 26; refine (to_any (.slice ad d.length cd) d _ (HD.out.below HK13.out.bel) HLD.out).mono ?_; intro e w14 h14; obtain ⟨v14, rfl, hm14⟩ := h14; obtain ⟨a14, c14, rfl, _⟩ := hm14.rd.open; have HM14 := Lib.hid hm14; have HK14 := Lib.hid (HK13.out.next hm14.bel); clear hm14)
        | (go_at_call 25; refine (add_any (.slice a14 d.length c14) d nn ff _ HK14.out.idx HM14.out.rd HFD.out (fun b hb hx => by have := HM14.out.2.1 b hb; have := HK13.out.idx.lt b hx; omega) hDl HAd.out).mono ?_; rintro e w15 ⟨F15, rfl, hi15, hF15, ht15⟩; have HI15 := Lib.hid hi15; have HT15 := Lib.hid ht15; clear hi15 hF15 ht15)
        | fail)
      have HB15 : Hid (Below w.heap.size w w15) := Lib.hid (((Turn.of (F := F) HK14.out.bel).trans HT15.out (fun x hx => .inl hx)).bel (Nat.le_refl _) HK14.out.Fge)
      have HR8 : Hid (RdN w15 (.slice a8 r.length c8) r) := Lib.hid (own_keep HT15.out ((HX8.out.below' HO2.out.2.2).below' HM14.out.bel) HN8.out).rd
      have HR10 : Hid (RdN w15 (.slice a10 p.length c10) p) := Lib.hid (own_keep HT15.out ((HX10.out.below' HO2.out.2.2).below' HM14.out.bel) HN10.out).rd
      have HRin : Hid (RdN w15 (.slice oa r.length oc) r) := Lib.hid (own_keep HT15.out (HO2.out.1.below' HM14.out.bel) (fun b hb hx => by have := HO2.out.2.1 b hb; have := HK12.out.idx.lt b hx; omega)).rd
      clear HX8 HX10 HX12 HN8 HN10 HO2 HM14 HK14 HK13 HK12 HT15
      go_wp2_with (first
        | (go_at_call 20; refine (rto_any (.slice aa la.length ca) la _ (HA.out.below HB15.out) hlaM).mono ?_; intro e w16 h16; obtain ⟨v16, rfl, hm16⟩ := h16; obtain ⟨a16, c16, rfl, _⟩ := hm16.rd.open; have HM16 := Lib.hid hm16; clear hm16)
        | (go_at_call 19; refine (find_yes (.slice a16 la.length c16) la _ (HI15.out.next HM16.out.2.2) HM16.out.rd HFA.out HRA.out (HG.out.below (bel_trans HB15.out HM16.out.2.2)) hD').mono ?_; intro e w17 h17; obtain ⟨v17, rfl, hm17⟩ := h17; have HM17 := Lib.hid hm17; clear hm17)
        | fail)
      have HB17 := Lib.hid (bel_trans HB15.out (bel_trans HM16.out.2.2 HM17.out.2.2))
      have HQ8 := Lib.hid ((HR8.out.below HM16.out.2.2).below HM17.out.2.2)
      have HQ10 := Lib.hid ((HR10.out.below HM16.out.2.2).below HM17.out.2.2)
      have HQin := Lib.hid ((HRin.out.below HM16.out.2.2).below HM17.out.2.2)
      have hcase : foundL la D' = p ∨ foundL la D' = p ++ [D.length] := by
        rw [← Hp.out]
        rcases HAd.out with ⟨_, _, _, rfl⟩ | ⟨_, _, _, rfl⟩ | ⟨_, _, _, _, rfl⟩
        · exact .inl rfl
        · exact .inl rfl
        · rw [found_more]
          cases allB la d
          · exact .inl (by simp)
          · exact .inr (by simp)
      have HM18 := Lib.hid HM17.out.rd
      clear HR8 HR10 HRin HM16 HM17 HB15
      rcases hcase with hs | hs
      · rw [hs] at HM18
        clear hs
        obtain ⟨_, sa, sc, rfl, hsc1, hsc2, _⟩ := HM18.out
        unfold maxLen at hsc2
        go_wp2_with (first
          | (go_at_call_of 22 (Value.slice a8 r.length c8); refine (sameints_yes (.slice a8 r.length c8) (.slice oa r.length oc) r _ HQ8.out HQin.out).mono ?_; rintro e w19 ⟨rfl, t19, rfl⟩)
          | (go_at_call_of 22 (Value.slice sa p.length sc); refine (sameints_yes (.slice sa p.length sc) (.slice a10 p.length c10) p _ (RdRow.below HM18.out (bel_drewN (bel_refl _) _)) (RdRow.below HQ10.out (bel_drewN (bel_refl _) _))).mono ?_; rintro e w20 ⟨rfl, t20, rfl⟩)
          | fail)
        go_ret
        exact ⟨rfl, bel_drewN HB17.out _⟩
      · rw [hs] at HM18
        clear hs
        obtain ⟨_, sa, sc, rfl, hsc1, hsc2, _, hcell⟩ := HM18.out
        obtain ⟨b, o, rfl, c0⟩ := hcell p.length (.int .i64 (D.length : Int)) (by rw [ints_snoc, List.getElem?_append_right (by rw [ints_len]; exact Nat.le_refl _), ints_len]; simp)
        have HT := Lib.hid (rdN_take HM18.out)
        unfold maxLen at hsc2
        rw [List.length_append, List.length_singleton] at *
        clear hcell
        go_wp2_with (first
          | (go_at_call_of 22 (Value.slice a8 r.length c8); refine (sameints_yes (.slice a8 r.length c8) (.slice oa r.length oc) r _ HQ8.out HQin.out).mono ?_; rintro e w19 ⟨rfl, t19, rfl⟩)
          | (go_at_call_of 22 (Value.slice (some ⟨b, o, none⟩) p.length sc); refine (sameints_yes (.slice (some ⟨b, o, none⟩) p.length sc) (.slice a10 p.length c10) p _ (RdRow.below HT.out (bel_drewN (bel_refl _) _)) (RdRow.below HQ10.out (bel_drewN (bel_refl _) _))).mono ?_; rintro e w20 ⟨rfl, t20, rfl⟩)
          | fail)
        go_ret
        exact ⟨rfl, bel_drewN HB17.out _⟩
end Go.Proofs.Ytmmilgcbjpbelaa
