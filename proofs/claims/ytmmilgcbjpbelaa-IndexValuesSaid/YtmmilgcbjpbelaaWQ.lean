/- IndexNil (8), IndexPlays (6). -/
import Derived.Test.YtmmilgcbjpbelaaWP
namespace Go.Proofs.Ytmmilgcbjpbelaa
open Go.RowKit Go.Kt Go.Ix

theorem values_nil (s : ByteArray) (w : World) : Calls Try.prog 30 #[.pointer none, .string s] w fun e w' => e = .returned (.tuple #[.slice none 0 0, .slice none 0 0]) ∧ w = w' := by
  go_enter Try.func30, Try.ntmps30
  go_wp2_with fail
  refine bodyPost_ret (v := .tuple #[.slice none 0 0, .slice none 0 0]) (by simp [results, Try.results30, go_sem, *]) rfl ?_
  exact ⟨rfl, rfl⟩
set_option maxHeartbeats 2000000 in
theorem nil_any (v : Value) (d : List Pr) (n : Int) (s : ByteArray) (w : World) (hv : RdP w v d) (hd : d.length ≤ 4398046511104) (hg : Glob w) :
    Calls Try.prog 8 #[v, .int .i64 n, .string s] w fun e w' => e = .returned (.bool true) ∧ Below w.heap.size w w' := by
  obtain ⟨a, c, rfl, _⟩ := hv.open
  have HV := Lib.hid hv
  have HD := Lib.hid hd
  have HG := Lib.hid hg
  clear hv hd hg
  go_enter Try.func8, Try.ntmps8
  go_wp2_with (first
    | (go_at_call 26; refine (to_any (.slice a d.length c) d _ HV.out HD.out).mono ?_; intro e w3 h3; obtain ⟨v3, rfl, hm3⟩ := h3; obtain ⟨a3, c3, rfl, _⟩ := hm3.rd.open; have HB3 := Lib.hid hm3.bel; clear hm3)
    | (go_at_call 25; refine (add_nil (.slice a3 d.length c3) _ rfl).mono ?_; rintro e w4 ⟨rfl, rfl⟩)
    | (go_at_call 27; refine (set_nil n _).mono ?_; rintro e w4 ⟨rfl, rfl⟩)
    | (go_at_call 19; refine (find_nil (.slice none 0 0) _ rfl).mono ?_; rintro e w4 ⟨rfl, rfl⟩)
    | (go_at_call 30; refine (values_nil s _).mono ?_; rintro e w4 ⟨rfl, rfl⟩)
    | (go_at_call 24; refine (len_nil _).mono ?_; rintro e w4 ⟨rfl, rfl⟩)
    | (go_at_call 18; refine (awake_any _ (HG.out.below HB3.out)).mono ?_; rintro e w5 ⟨rfl, hb5⟩; have HB5 := Lib.hid (bel_trans HB3.out hb5); clear hb5)
    | fail)
  go_ret
  exact ⟨rfl, HB5.out⟩

set_option maxRecDepth 8000 in
set_option maxHeartbeats 4000000 in
theorem plays_any (v : Value) (SS : List (List Pr)) (n : Int) (w : World) (hv : RdSets w v SS) (hf : ∀ d ∈ SS, Fit d ∧ d.length ≤ 4398046511104) (hg : Glob w) (hn : Rng n) :
    Calls Try.prog 6 #[v, .int .i64 n] w fun e w' => e = .returned (.bool true) ∧ Below w.heap.size w w' := by
  obtain ⟨a, c, rfl, _⟩ := hv.open
  have HV := Lib.hid hv
  have HF := Lib.hid hf
  have HG := Lib.hid hg
  unfold Rng at hn
  clear hv hf hg
  go_enter Try.func6, Try.ntmps6
  go_wp2_with (first
    | (go_at_call 17; refine (made_any (.slice a SS.length c) SS _ HV.out HF.out).mono ?_; intro e w1 h1; obtain ⟨g, F, mv, D, rfl, hm, hD⟩ := h1; have HM := Lib.hid hm; have HD := Lib.hid hD; obtain ⟨us0, hus1, hus2, hus3⟩ := hm.doc.own; obtain ⟨hcla, ma, mc, rfl, hclb⟩ := hus2.rd; clear hm hD hus1 hus2 hus3 hcla hclb us0)
    | fail)
  have HM1 := Lib.hid (HM.out.next (below_alloc w1 (.cells #[.slice ma D.length mc] 48)))
  have HX1 := Lib.hid (Blk.new w1 #[.slice ma D.length mc] 48)
  clear HM
  generalize w1.alloc (.cells #[.slice ma D.length mc] 48) = w2 at *
  generalize w1.heap.size = b6 at *
  have hD60 : D.length ≤ 60 := HD.out
  have x6 : w2.cell? ⟨b6, 0, none⟩ = some (.slice ma D.length mc) := HX1.out.cell 0
  go_cut [34] (fun x wc => x = .bool false ∧ Hid (Mk w wc g F (.slice ma D.length mc) D) ∧ Hid (Blk wc b6 #[.slice ma D.length mc] 48))
  case first =>
    rename_i J0 J1 hJ0 hJ1
    go_region_with (first
      | (go_at_call 18; refine (awake_any _ ((HM1.out.next (bel_drew (bel_refl _))).glob HG.out)).mono ?_; rintro e w3 ⟨rfl, hb3⟩; have HM3 := Lib.hid ((HM1.out.next (bel_drew (bel_refl _))).next hb3); have HX3 := Lib.hid ((HX1.out.next (bel_drew (bel_refl _))).next hb3); have x7 : w3.cell? ⟨b6, 0, none⟩ = some (.slice ma D.length mc) := HX3.out.cell 0; have hx7 := HX3.out.lt; clear hb3)
      | (go_at_call 24; refine (len_any _ HM3.out.idx).mono ?_; rintro e w4 ⟨rfl, rfl⟩)
      | fail)
    all_goals (refine hJ1 _ _ (Met.intro (hJ0 _ _ ?_)))
    all_goals (repeat apply Exists.intro)
    all_goals (exact ⟨⟨rfl, HM3, HX3⟩, rfl⟩)
  case rest =>
    obtain ⟨rfl, HM, HX⟩ := hcut
    obtain ⟨w3, rfl⟩ : ∃ x, x = wc := ⟨_, rfl⟩
    have x7 : w3.cell? ⟨b6, 0, none⟩ = some (.slice ma D.length mc) := HX.out.cell 0
    clear x6 HM1 HX1
    go_wp2_with fail
    go_loopw [8, 9, 10, 11, 12, 38] (fun _ _ _ _ _ i wr => ∃ k : Nat, k ≤ D.length ∧ i = .int .i64 k ∧ Hid (Mk w wr g F (.slice ma D.length mc) D) ∧ Hid (Blk wr b6 #[.slice ma D.length mc] 48)) (fun _ _ _ _ _ i _ => D.length - (intOf i).toNat)
    case atStart => exact ⟨0, by omega, rfl, HM, HX⟩
    case round =>
      clear HM HX x7
      obtain ⟨k, hk, rfl, HM, HX⟩ := hrel
      obtain ⟨wo, rfl⟩ : ∃ x, x = wr := ⟨_, rfl⟩
      by_cases hlt : k < D.length
      · obtain ⟨d, hd⟩ : ∃ x, D[k]? = some x := ⟨D[k], List.getElem?_eq_getElem hlt⟩
        obtain ⟨a0, c0, e0, _, _, hcell⟩ := (HM.out.doc.rd HM.out.bel).open
        cases e0
        obtain ⟨b, o, u, rfl, lb, c0, hu⟩ := hcell k d hd
        obtain ⟨ua, uc, rfl, _⟩ := hu.open
        have HU := Lib.hid hu
        have Hd := Lib.hid hd
        have Hdl := Lib.hid (right_len (HM.out.idx.ok.1 d (List.mem_of_getElem? hd)))
        have hk1 : (0 : Int) ≤ (k : Int) := by omega
        have hk2 : (k : Int) < (D.length : Int) := by omega
        clear hcell hu hd
        go_wp2_with (first
          | (go_at_call 27; refine (set_yes k d _ HM.out.idx Hd.out).mono ?_; intro e w4 h4; obtain ⟨v4, rfl, hm4⟩ := h4; obtain ⟨a4, c4, rfl, _⟩ := hm4.rd.open; have HM4 := Lib.hid hm4; clear hm4)
          | (go_at_call 29; refine (from_any (.slice a4 d.length c4) d _ HM4.out.rd Hdl.out).mono ?_; intro e w5 h5; obtain ⟨v5, rfl, hm5⟩ := h5; obtain ⟨a5, c5, rfl, _⟩ := hm5.rd.open; have HM5 := Lib.hid hm5; clear hm5)
          | (go_at_call 28; refine (same_yes (.slice a5 d.length c5) (.slice ua d.length uc) d _ HM5.out.rd ((HU.out.below HM4.out.bel).below HM5.out.bel)).mono ?_; rintro e w6 ⟨rfl, t6, rfl⟩)
          | fail)
        have HB6 := Lib.hid (bel_drewN HM5.out.bel t6)
        have HK6 := Lib.hid ((HM.out.next HM4.out.bel).next HB6.out)
        have HX6 := Lib.hid ((HX.out.next HM4.out.bel).next HB6.out)
        have HV6 : Hid (∃ xs, Own 75 2 (w5.drewN t6) (.slice a4 d.length c4) d.length xs) := Lib.hid ⟨_, HM4.out.1.below' HB6.out⟩
        have HNi : Hid (∀ b, (Value.slice a4 d.length c4).ownBlock = some b → ¬ F b ∧ w.heap.size ≤ b) := Lib.hid (fun b hb => by
          have h1 := HM4.out.2.1 b hb
          have h3 := HM.out.bel.size
          exact ⟨fun hx => by have := HM.out.idx.lt b hx; omega, by omega⟩)
        have hdl : d.length ≤ 4398046511104 := Hdl.out
        generalize w5.drewN t6 = w7 at *
        clear HM4 HM5 HB6 HM HX
        go_loopw [12, 60] (fun _ i wr => ∃ j : Nat, j ≤ d.length ∧ i = .int .i64 j ∧ Hid (∃ xs, Own 75 2 wr (.slice a4 d.length c4) d.length xs) ∧ Hid (Turn (fun x => (Value.slice a4 d.length c4).ownBlock = some x) w7 wr)) (fun _ i _ => d.length - (intOf i).toNat)
        case atStart => exact ⟨0, by omega, rfl, HV6, Lib.hid (Turn.refl _ _)⟩
        case round =>
          obtain ⟨j, hj, rfl, HV, HT⟩ := hrel
          by_cases hlt : j < d.length
          · obtain ⟨xs, hx⟩ := HV.out
            obtain ⟨b1, cap1, y1, y2, e1, hc1, hc2, hf1, hf2, hset⟩ := own_two hx hlt
            cases e1
            have HS := Lib.hid (hset (.string ⟨#[]⟩) (.string ⟨#[]⟩))
            have hj1 : (0 : Int) ≤ (j : Int) := by omega
            have hj2 : (j : Int) < (d.length : Int) := by omega
            clear hx hset HV6
            go_wp2_with fail
            go_roundw
            case rel => exact ⟨j + 1, by omega, by go_num, Lib.hid HS.out, Lib.hid ((HT.out.set (a := ⟨b1, j * 2, none⟩) rfl _).set (a := ⟨b1, j * 2 + 1, none⟩) rfl _)⟩
            case measure => simp [intOf]; omega
          · obtain rfl : d.length = j := by omega
            have HK7 := Lib.hid (HK6.out.keep HT.out (fun x hx e => (HNi.out x e).1 hx) (fun b hb e => by
              obtain ⟨us0, hus1, hus2, hus3⟩ := HK6.out.doc.own
              obtain ⟨xs, hx⟩ := HV6.out
              exact own_apart hus2 hx (by decide) b hb e) (fun x hx => (HNi.out x hx).2))
            have HX7 := Lib.hid (blk_keep HT.out HX6.out (fun e => by obtain ⟨xs, hx⟩ := HV6.out; exact own_no_blk hx HX6.out (by decide) e))
            go_wp2_with fail
            go_roundw
            case rel => exact ⟨k + 1, by omega, by go_num, HK7, HX7⟩
            case measure => simp [intOf]; omega
      · obtain rfl : D.length = k := by omega
        have x6 : wo.cell? ⟨b6, 0, none⟩ = some (.slice ma D.length mc) := HX.out.cell 0
        have hx6 := HX.out.lt
        by_cases hin : 0 ≤ n ∧ n < (D.length : Int)
        · obtain ⟨i, rfl⟩ : ∃ i : Nat, n = (i : Int) := ⟨n.toNat, by omega⟩
          obtain ⟨d, hd⟩ : ∃ x, D[i]? = some x := ⟨D[i]'(by omega), List.getElem?_eq_getElem (by omega)⟩
          have Hd := Lib.hid hd
          have hi : i < D.length := by omega
          clear hd hin
          go_wp2_with (first
            | (go_at_call 27; refine (set_yes i d _ HM.out.idx Hd.out).mono ?_; intro e w4 h4; obtain ⟨v4, rfl, hm4⟩ := h4; obtain ⟨a4, c4, rfl, _⟩ := hm4.rd.open; have HM4 := Lib.hid hm4; have HX4 := Lib.hid (HX.out.next hm4.bel); have x7 : w4.cell? ⟨b6, 0, none⟩ = some (.slice ma D.length mc) := HX4.out.cell 0; clear hm4)
            | fail)
          go_ret
          exact ⟨rfl, bel_trans HM.out.bel HM4.out.bel⟩
        · have hout : n < 0 ∨ (D.length : Int) ≤ n := by omega
          have Hout := Lib.hid hout
          clear hin hout
          by_cases hneg : n < 0
          · have d0 : decide (0 ≤ n) = false := by simp only [decide_eq_false_iff_not]; omega
            go_wp2_with (first
              | (go_at_call 27; refine (set_no n _ HM.out.idx Hout.out).mono ?_; rintro e w4 ⟨rfl, hb4⟩; have HB4 := Lib.hid hb4; have HX4 := Lib.hid (HX.out.next hb4); have x7 : w4.cell? ⟨b6, 0, none⟩ = some (.slice ma D.length mc) := HX4.out.cell 0; clear hb4)
              | fail)
            go_ret
            exact ⟨rfl, bel_trans HM.out.bel HB4.out⟩
          · have hn0 : 0 ≤ n := by omega
            have hnl : (D.length : Int) ≤ n := by have := Hout.out; omega
            have d1 : decide (n < (D.length : Int)) = false := by simp only [decide_eq_false_iff_not]; omega
            go_wp2_with (first
              | (go_at_call 27; refine (set_no n _ HM.out.idx Hout.out).mono ?_; rintro e w4 ⟨rfl, hb4⟩; have HB4 := Lib.hid hb4; have HX4 := Lib.hid (HX.out.next hb4); have x7 : w4.cell? ⟨b6, 0, none⟩ = some (.slice ma D.length mc) := HX4.out.cell 0; clear hb4)
              | fail)
            go_ret
            exact ⟨rfl, bel_trans HM.out.bel HB4.out⟩
end Go.Proofs.Ytmmilgcbjpbelaa
