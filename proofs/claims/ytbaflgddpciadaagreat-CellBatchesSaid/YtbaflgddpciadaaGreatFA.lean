/- The document's RightBatch (28); CellBatches (6). -/
import Derived.Test.YtbaflgddpciadaaGreatEZ
set_option linter.unusedVariables false
set_option linter.unusedSimpArgs false
namespace Go.Proofs.YtbaflgddpciadaaGreat
open Go.RowKit Go.Kt Go.Ix Go.Sx Go.Cx
set_option maxRecDepth 100000
set_option maxHeartbeats 8000000 in
theorem refBatch_any (v : Value) (L : List Wr) (w : World) (hv : RdW w v L) (hf : FitWs L) :
    Calls Tryz.prog 28 #[v] w fun e w' => Says (BatchW L) e ∧ Below w.heap.size w w' := by
  obtain ⟨a, cap, rfl, hcap, hbig, hcell⟩ := hv.open
  have Hcell := Lib.hid hcell
  have HV := Lib.hid hv
  have HF := Lib.hid hf
  clear hcell hv hf
  go_enter Tryz.func28, Tryz.ntmps28
  go_upto_region 2 with fail
  have HG0 : Hid (GoodTo L 0) := Lib.hid (fun i x hi => by omega)
  have HB0 := Lib.hid (bel_refl w)
  go_loopw [3] (fun i wr => ∃ k : Nat, k ≤ L.length ∧ k ≤ 65 ∧ i = .int .i64 k ∧ Hid (GoodTo L k) ∧ Hid (Below w.heap.size w wr)) (fun i _ => L.length - (intOf i).toNat)
  case atStart => exact ⟨0, by omega, by omega, rfl, HG0, HB0⟩
  case round =>
    clear HG0 HB0
    obtain ⟨k, hk, hk65, rfl, HG, HB⟩ := hrel
    by_cases hlt : k < L.length
    · by_cases h65 : k < 65
      · obtain ⟨x, hx⟩ : ∃ x, L[k]? = some x := ⟨L[k], List.getElem?_eq_getElem hlt⟩
        obtain ⟨b, o, rfl, hbl, c0, c1, c2, c3, c4⟩ := Hcell.out k x hx
        have hfx := HF.out x (List.mem_of_getElem? hx)
        have hvx := HV.out.2 x (List.mem_of_getElem? hx)
        have Hx := Lib.hid hx
        obtain ⟨st, t, kd, n, tx, sv⟩ := x
        obtain ⟨sa, sc, hsv, -⟩ := hvx.open
        simp only at hsv c0 c1 c2 c3 c4 hfx hvx
        subst hsv
        have HCs : Hid (∀ W, Below w.heap.size w W → W.cell? ⟨b, o + k * 5, none⟩ = some (.slice sa st.length sc) ∧ W.cell? ⟨b, o + k * 5 + 1, none⟩ = some (.int .i64 t) ∧ W.cell? ⟨b, o + k * 5 + 2, none⟩ = some (.int .i64 kd) ∧ W.cell? ⟨b, o + k * 5 + 3, none⟩ = some (.int .i64 n) ∧ W.cell? ⟨b, o + k * 5 + 4, none⟩ = some (.string tx)) := Lib.hid (fun W hW => ⟨(hW.cell (p := ⟨b, _, none⟩) hbl).trans c0, (hW.cell (p := ⟨b, _, none⟩) hbl).trans c1, (hW.cell (p := ⟨b, _, none⟩) hbl).trans c2, (hW.cell (p := ⟨b, _, none⟩) hbl).trans c3, (hW.cell (p := ⟨b, _, none⟩) hbl).trans c4⟩)
        obtain ⟨d0, d1, d2, d3, d4⟩ := HCs.out _ HB.out
        have hk1 : (0 : Int) ≤ (k : Int) := by omega
        have hk2 : (k : Int) < (L.length : Int) := by omega
        have hk3 : (k : Int) < 65 := by omega
        have HVx := Lib.hid hvx
        have HFx := Lib.hid hfx
        obtain ⟨r, hr⟩ : ∃ r, pb (RightW ⟨st, t, kd, n, tx, .slice sa st.length sc⟩) = r := ⟨_, rfl⟩
        have hrc := rrightw_any ⟨st, t, kd, n, tx, .slice sa st.length sc⟩ wr (HVx.out.below HB.out) HFx.out.1 HFx.out.2
        rw [hr] at hrc
        have HRc := Lib.hid hrc
        have Hr := Lib.hid hr
        unfold wagg at HRc
        simp only at HRc
        have Hlt := Lib.hid hlt
        have H65 := Lib.hid h65
        clear hrc hr c0 c1 c2 c3 c4 hx hvx hfx hlt h65
        cases r with
        | false =>
          have HN : Hid (¬ BatchW L) := Lib.hid (fun h => of_not_pb Hr.out (h.2.2 k _ Hlt.out Hx.out).1)
          go_wp2_with (first
            | (go_at_call 87; refine HRc.out.mono ?_; rintro e w6 ⟨rfl, hb6⟩; have HB6 := Lib.hid (bel_trans HB.out hb6); clear hb6)
            | fail)
          go_ret
          exact ⟨says_no HN.out, HB6.out⟩
        | true =>
          have HRt := Lib.hid (of_pb Hr.out)
          go_upto_region 7 with (first
            | (go_at_call 87; refine HRc.out.mono ?_; rintro e w6 ⟨rfl, hb6⟩; have HB6 := Lib.hid (bel_trans HB.out hb6); clear hb6)
            | fail)
          clear d0 d1 d2 d3 d4 HRc
          obtain ⟨wo, rfl⟩ : ∃ wo, wo = wr := ⟨_, rfl⟩
          have HN0 : Hid (∀ (j : Nat) y, j < 0 → L[j]? = some y → ¬ SameK y ⟨st, t, kd, n, tx, .slice sa st.length sc⟩) := Lib.hid (fun j y hj => by omega)
          go_loopw [4] (fun i wr => ∃ j : Nat, j ≤ k ∧ i = .int .i64 j ∧ Hid (∀ (j' : Nat) y, j' < j → L[j']? = some y → ¬ SameK y ⟨st, t, kd, n, tx, .slice sa st.length sc⟩) ∧ Hid (Below w.heap.size w wr)) (fun i _ => k - (intOf i).toNat)
          case atStart => exact ⟨0, by omega, rfl, HN0, HB6⟩
          case round =>
            clear HN0
            obtain ⟨j, hj, rfl, HN, HBj⟩ := hrel
            by_cases hjk : j < k
            · obtain ⟨y, hy⟩ : ∃ y, L[j]? = some y := ⟨L[j]'(by have := Hlt.out; omega), List.getElem?_eq_getElem _⟩
              obtain ⟨b2, o2, e2, hbl2, c0, c1, -, -, -⟩ := Hcell.out j y hy
              injection e2 with e2
              injection e2 with e2 e3
              subst e2 e3
              have hvy := HV.out.2 y (List.mem_of_getElem? hy)
              have Hy := Lib.hid hy
              obtain ⟨st2, t2, kd2, n2, tx2, sv2⟩ := y
              obtain ⟨sa2, sc2, hsv2, -⟩ := hvy.open
              simp only at hsv2 c0 c1 hvy
              subst hsv2
              have HVy := Lib.hid hvy
              have hHb := HBj.out
              have f0 : ∀ n, (wr.drewN n).cell? ⟨b, o + j * 5, none⟩ = some (.slice sa2 st2.length sc2) := fun n => (hHb.cell (p := ⟨b, _, none⟩) hbl2).trans c0
              have f1 : ∀ n, (wr.drewN n).cell? ⟨b, o + j * 5 + 1, none⟩ = some (.int .i64 t2) := fun n => (hHb.cell (p := ⟨b, _, none⟩) hbl2).trans c1
              have d0 : ∀ n, (wr.drewN n).cell? ⟨b, o + k * 5, none⟩ = some (.slice sa st.length sc) := fun n => (HCs.out _ hHb).1
              have d1 : ∀ n, (wr.drewN n).cell? ⟨b, o + k * 5 + 1, none⟩ = some (.int .i64 t) := fun n => (HCs.out _ hHb).2.1
              have hj1 : (0 : Int) ≤ (j : Int) := by omega
              have hj2 : (j : Int) < (L.length : Int) := by omega
              have hj3 : (j : Int) < (k : Int) := by omega
              have Hjk := Lib.hid hjk
              clear c0 c1 hy hvy hHb hjk
              by_cases ht : t2 = t
              · have hte : (t2 == t) = true := by simpa using ht
                by_cases hs : st2 = st
                · have HNo : Hid (¬ BatchW L) := Lib.hid (fun h => (h.2.2 k _ Hlt.out Hx.out).2 j _ Hjk.out Hy.out ⟨ht, hs⟩)
                  have HSm := Lib.hid (fun m => same_yes (.slice sa2 st2.length sc2) (.slice sa st.length sc) st2 (wr.drewN m) (HVy.out.below (bel_drewN HBj.out m)) (by rw [hs]; exact HVx.out.below (bel_drewN HBj.out m)))
                  clear ht hs
                  go_wp2_with fail
                  go_quiet ((go_at_call 81; exact Calls.quiet_of (HSm.out _)))
                  go_wp2_with fail
                  go_ret
                  exact ⟨says_no HNo.out, by repeat (first | exact HBj.out | apply bel_drewN)⟩
                · have HSm := Lib.hid (fun m => same_no (.slice sa2 st2.length sc2) (.slice sa st.length sc) st2 st (wr.drewN m) (HVy.out.below (bel_drewN HBj.out m)) (HVx.out.below (bel_drewN HBj.out m)) hs)
                  have HNn : Hid (∀ (j' : Nat) y, j' < j + 1 → L[j']? = some y → ¬ SameK y ⟨st, t, kd, n, tx, .slice sa st.length sc⟩) := Lib.hid (fun j' y h1 h2 => by
                    by_cases e : j' = j
                    · subst e
                      rw [Hy.out] at h2
                      injection h2 with h2
                      rw [← h2]
                      exact fun h3 => hs h3.2
                    · exact HN.out j' y (by omega) h2)
                  clear ht hs
                  go_wp2_with fail
                  go_quiet ((go_at_call 81; exact Calls.quiet_of (HSm.out _)))
                  go_wp2_with fail
                  go_roundw
                  case rel => exact ⟨j + 1, by have := Hjk.out; omega, by go_num, HNn, Lib.hid (by repeat (first | exact HBj.out | apply bel_drewN))⟩
                  case measure => have := Hjk.out; simp [intOf]; omega
              · have hte : (t2 == t) = false := bne_of ht
                have HNn : Hid (∀ (j' : Nat) y, j' < j + 1 → L[j']? = some y → ¬ SameK y ⟨st, t, kd, n, tx, .slice sa st.length sc⟩) := Lib.hid (fun j' y h1 h2 => by
                  by_cases e : j' = j
                  · subst e
                    rw [Hy.out] at h2
                    injection h2 with h2
                    rw [← h2]
                    exact fun h3 => ht h3.1
                  · exact HN.out j' y (by omega) h2)
                clear ht
                go_wp2_with fail
                go_quiet (fail)
                go_wp2_with fail
                go_roundw
                case rel => exact ⟨j + 1, by have := Hjk.out; omega, by go_num, HNn, Lib.hid (by repeat (first | exact HBj.out | apply bel_drewN))⟩
                case measure => have := Hjk.out; simp [intOf]; omega
            · obtain rfl : j = k := by omega
              have HGn : Hid (GoodTo L (j + 1)) := Lib.hid (good_next HG.out Hx.out HRt.out HN.out)
              go_wp2_with fail
              go_roundw
              case rel => exact ⟨j + 1, by have := Hlt.out; omega, by have := H65.out; omega, by go_num, HGn, HBj⟩
              case measure => have := Hlt.out; simp [intOf]; omega
      · obtain rfl : k = 65 := by omega
        have HN : Hid (¬ BatchW L) := Lib.hid (fun h => by have := h.2.1; omega)
        have q1 : decide ((L.length : Int) ≤ 64) = false := by simp only [decide_eq_false_iff_not]; omega
        have q2 : decide ((65 : Int) < (L.length : Int)) = true := by simp only [decide_eq_true_eq]; omega
        have q3 : decide ((1 : Int) ≤ (L.length : Int)) = true := by simp only [decide_eq_true_eq]; omega
        clear hlt hk h65
        go_wp2_with fail
        go_ret
        exact ⟨says_no HN.out, HB.out⟩
    · obtain rfl : k = L.length := by omega
      by_cases h1 : 1 ≤ L.length
      · by_cases h2 : L.length ≤ 64
        · have HY : Hid (BatchW L) := Lib.hid ⟨h1, h2, HG.out⟩
          have q1 : decide ((L.length : Int) ≤ 64) = true := by simp only [decide_eq_true_eq]; omega
          have q3 : decide ((1 : Int) ≤ (L.length : Int)) = true := by simp only [decide_eq_true_eq]; omega
          clear h1 h2
          go_wp2_with fail
          go_ret
          exact ⟨says_yes HY.out, HB.out⟩
        · have HN : Hid (¬ BatchW L) := Lib.hid (fun h => h2 h.2.1)
          have q1 : decide ((L.length : Int) ≤ 64) = false := by simp only [decide_eq_false_iff_not]; omega
          have q3 : decide ((1 : Int) ≤ (L.length : Int)) = true := by simp only [decide_eq_true_eq]; omega
          clear h1 h2
          go_wp2_with fail
          go_ret
          exact ⟨says_no HN.out, HB.out⟩
      · have HN : Hid (¬ BatchW L) := Lib.hid (fun h => h1 h.1)
        have q3 : decide ((1 : Int) ≤ (L.length : Int)) = false := by simp only [decide_eq_false_iff_not]; omega
        clear h1
        go_wp2_with fail
        go_ret
        exact ⟨says_no HN.out, HB.out⟩
end Go.Proofs.YtbaflgddpciadaaGreat
