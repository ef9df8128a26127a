/- IndexFinds (4). -/
import Derived.Test.YtmmilgcbjpbelaaWO
namespace Go.Proofs.Ytmmilgcbjpbelaa
open Go.RowKit Go.Kt Go.Ix

theorem Mk.glob {w wr : World} {g : Nat} {F : Nat → Prop} {mv : Value} {D : List (List Pr)} (h : Mk w wr g F mv D) (hg : Glob w) : Glob wr := hg.below h.bel
set_option maxRecDepth 8000 in
set_option maxHeartbeats 4000000 in
theorem finds_any (v u : Value) (SS : List (List Pr)) (l : List Rl) (w : World) (hv : RdSets w v SS) (hf : ∀ d ∈ SS, Fit d ∧ d.length ≤ 4398046511104) (hu : RdR w u l) (hfl : FitR l) (hg : Glob w) :
    Calls Try.prog 4 #[v, u] w fun e w' => e = .returned (.bool true) ∧ Below w.heap.size w w' := by
  obtain ⟨a, c, rfl, _⟩ := hv.open
  obtain ⟨ua, uc, rfl, _⟩ := hu.open
  have HV := Lib.hid hv
  have HF := Lib.hid hf
  have HU := Lib.hid hu
  have HFL := Lib.hid hfl
  have HG := Lib.hid hg
  clear hv hf hu hfl hg
  go_enter Try.func4, Try.ntmps4
  go_wp2_with (first
    | (go_at_call 17; refine (made_any (.slice a SS.length c) SS _ HV.out HF.out).mono ?_; intro e w1 h1; obtain ⟨g, F, mv, D, rfl, hm, hD⟩ := h1; have HM := Lib.hid hm; have HD := Lib.hid hD; obtain ⟨us0, hus1, hus2, hus3⟩ := hm.doc.own; obtain ⟨hcla, ma, mc, rfl, hclb⟩ := hus2.rd; clear hm hD hus1 hus2 hus3 hcla hclb us0)
    | fail)
  refine (awake_any _ ((HM.out.glob HG.out).below (below_alloc w1 _))).mono ?_
  rintro e w2 ⟨rfl, hb2⟩
  have HM2 := Lib.hid ((HM.out.next (below_alloc w1 (.cells #[.slice ma D.length mc] 48))).next hb2)
  have HX2 := Lib.hid ((Blk.new w1 #[.slice ma D.length mc] 48).next hb2)
  clear HM hb2
  generalize w1.heap.size = b6 at *
  have x6 : w2.cell? ⟨b6, 0, none⟩ = some (.slice ma D.length mc) := HX2.out.cell 0
  have hx6 := HX2.out.lt
  by_cases h30 : 30 < l.length
  · have d30 : decide (30 < (l.length : Int)) = true := by simp only [decide_eq_true_eq]; omega
    have d30' : decide (30 < l.length) = true := by simp only [decide_eq_true_eq]; omega
    go_wp2_with (first
      | (go_at_call 18; refine (awake_any _ (HM2.out.glob HG.out)).mono ?_; rintro e w3 ⟨rfl, hb3⟩; have HB3 := Lib.hid (bel_trans HM2.out.bel hb3); clear hb3)
      | fail)
    go_ret
    exact ⟨rfl, HB3.out⟩
  have d30 : decide (30 < (l.length : Int)) = false := by simp only [decide_eq_false_iff_not]; omega
  have d30' : decide (30 < l.length) = false := by simp only [decide_eq_false_iff_not]; omega
  have HL : Hid (l.length ≤ 1048576) := Lib.hid (by omega)
  by_cases hr : RightR l
  · have HR := Lib.hid hr
    clear hr
    go_wp2_with (first
      | (go_at_call 20; refine (rto_any (.slice ua l.length uc) l _ (HU.out.below HM2.out.bel) HL.out).mono ?_; intro e w3 h3; obtain ⟨v3, rfl, hm3⟩ := h3; obtain ⟨a3, c3, rfl, _⟩ := hm3.rd.open; have HM3 := Lib.hid hm3; have HK3 := Lib.hid (HM2.out.next hm3.2.2); clear hm3)
      | (go_at_call 19; refine (find_yes (.slice a3 l.length c3) l _ HK3.out.idx HM3.out.rd HFL.out HR.out (HK3.out.glob HG.out) (by have := HD.out; omega)).mono ?_; intro e w4 h4; obtain ⟨v4, rfl, hm4⟩ := h4; obtain ⟨hcl4, a4, c4, rfl, hcl5⟩ := hm4.rd; clear hcl4 hcl5; have HM4 := Lib.hid hm4; have HK4 := Lib.hid (HK3.out.next hm4.2.2); have HX4 := Lib.hid ((HX2.out.next HM3.out.2.2).next hm4.2.2); have x7 : w4.cell? ⟨b6, 0, none⟩ = some (.slice ma D.length mc) := HX4.out.cell 0; have hx7 := HX4.out.lt; clear hm4)
      | (go_at_call 21; refine (reffind_yes (.slice ma D.length mc) (.slice ua l.length uc) l D _ (HK4.out.doc.rd HK4.out.bel) (HU.out.below HK4.out.bel) HFL.out HR.out HK4.out.idx.ok.1 (by have := HD.out; omega)).mono ?_; intro e w5 h5; obtain ⟨v5, rfl, hm5⟩ := h5; obtain ⟨hcl4, a5, c5, rfl, hcl5⟩ := hm5.rd; clear hcl4 hcl5; have HM5 := Lib.hid hm5; have HB5 := Lib.hid (bel_trans HK4.out.bel hm5.2.2); clear hm5)
      | (go_at_call 22; refine (sameints_yes (.slice a4 (foundL l D).length c4) (.slice a5 (foundL l D).length c5) (foundL l D) _ (HM4.out.rd.below HM5.out.2.2) HM5.out.rd).mono ?_; rintro e w6 ⟨rfl, t6, rfl⟩)
      | fail)
    go_ret
    exact ⟨rfl, bel_drewN HB5.out _⟩
  · have HR := Lib.hid hr
    clear hr
    go_wp2_with (first
      | (go_at_call 20; refine (rto_any (.slice ua l.length uc) l _ (HU.out.below HM2.out.bel) HL.out).mono ?_; intro e w3 h3; obtain ⟨v3, rfl, hm3⟩ := h3; obtain ⟨a3, c3, rfl, _⟩ := hm3.rd.open; have HM3 := Lib.hid hm3; have HK3 := Lib.hid (HM2.out.next hm3.2.2); clear hm3)
      | (go_at_call 19; refine (find_bad (.slice a3 l.length c3) l g _ HM3.out.rd HFL.out HR.out).mono ?_; rintro e w4 ⟨rfl, hb4⟩; have HK4 := Lib.hid (HK3.out.next hb4); have HX4 := Lib.hid ((HX2.out.next HM3.out.2.2).next hb4); have x7 : w4.cell? ⟨b6, 0, none⟩ = some (.slice ma D.length mc) := HX4.out.cell 0; have hx7 := HX4.out.lt; clear hb4)
      | (go_at_call 21; refine (reffind_bad (.slice ma D.length mc) (.slice ua l.length uc) l D _ (HK4.out.doc.rd HK4.out.bel) (HU.out.below HK4.out.bel) HFL.out HR.out).mono ?_; rintro e w5 ⟨rfl, hb5⟩; have HB5 := Lib.hid (bel_trans HK4.out.bel hb5); clear hb5)
      | (go_at_call 22; refine (sameints_yes (.slice none 0 0) (.slice none 0 0) [] _ (own_nil _ 3 1).rd (own_nil _ 3 1).rd).mono ?_; rintro e w6 ⟨rfl, t6, rfl⟩)
      | fail)
    go_ret
    exact ⟨rfl, bel_drewN HB5.out _⟩
end Go.Proofs.Ytmmilgcbjpbelaa
