/- The document's Stands (35). -/
import Derived.Test.YtokmiphgalpahaaV4
namespace Go.Proofs.Ytokmiphgalpahaa
open Go.RowKit Go.Kt
set_option maxRecDepth 100000
variable {w w' w0 W : World}

set_option maxHeartbeats 4000000 in
theorem refread_any (v : Value) (b : List UInt8) (w : World) (hv : Rd8 w v b) (hb : b.length ≤ 1000000000) :
    Calls Try.prog 35 #[v] w fun e w' => ReadIs w w' (standsW b) e ∧ Below w.heap.size w w' := by
  have hsw := scan_weigh b.length b (Nat.le_refl _)
  have HW : Hid (weigh (Fm.Fr.scan b).1 ≤ 1000000000 ∧ ∀ p ∈ (Fm.Fr.scan b).1, p.2.length ≤ 1048576) := Lib.hid ⟨by omega, hsw.2⟩
  have HS : Hid (Calls Try.prog 52 #[v] w fun e w' => ∃ v', e = .returned (.tuple #[v', .int .i64 ((Fm.Fr.scan b).2 : Int)]) ∧ Fm.OwnPcs 106 w w' v' (Fm.Fr.scan b).1 ∧ Below w.heap.size w w') := Lib.hid (Fm.refscan_any v b w hv hb)
  have Hst : Hid (standsW b = standsL (Fm.Fr.scan b).1) := Lib.hid rfl
  generalize (Fm.Fr.scan b).1 = ps at *
  generalize (Fm.Fr.scan b).2 = un at *
  clear hsw hv hb
  go_enter Try.func35, Try.ntmps35
  go_wp2_with fail
  refine HS.out.mono ?_
  rintro e w1 ⟨v1, rfl, ⟨T, hT, hO, hB, hM⟩, hb1⟩
  have HB1 := Lib.hid hb1
  obtain ⟨a, cap, rfl, hcap, hbig, hcell⟩ := Fm.rdPcs_open hO.rd
  have HM := Lib.hid hM
  have HC := Lib.hid hcell
  clear hcell hO hM hb1
  unfold maxLen at hbig
  cases T with
  | nil =>
    have hps : ps = [] := by rw [← hT]; rfl
    subst hps
    go_wp2_with fail
    try simp only [Exit.inBlock, Exit.then]
    refine bodyPost_ret (results_tmp4 rfl _ _ _) rfl ?_
    rw [Hst.out]
    exact ⟨rfl, HB1.out⟩
  | cons x0 T =>
    have hps : ps = (x0.1, x0.2.2) :: Fm.plain T := by rw [← hT]; rfl
    subst hps
    obtain ⟨bb, o, rfl, c1, c2⟩ := HC.out 0 x0 rfl
    have lb := World.block_lt_of_cell? w1 _ c1
    simp only [Nat.zero_mul, Nat.add_zero] at c1 c2
    have hn0 : (0 : Int) < ((T.length + 1 : Nat) : Int) := by omega
    simp only [List.length_cons] at hcap hbig ⊢
    have HX0 := Lib.hid (HM.out x0 (by simp))
    have hxl : x0.2.2.length ≤ 1048576 := HW.out.2 (x0.1, x0.2.2) (by simp)
    have HU : Hid (9 + x0.2.2.length + (tailF false (Fm.plain T)).2.1 ≤ 1000000000 ∧ T.length ≤ 1000000000) := Lib.hid (by
      have h1 := HW.out.1
      have h2 := (tailF_le false (Fm.plain T)).1
      have h3 := scan_len (Fm.plain T)
      rw [weigh_cons] at h1
      rw [Fm.plain_len] at h3
      simp only at h1
      omega)
    have HL : Hid (∀ y ∈ T, y.2.2.length ≤ 1048576) := Lib.hid (fun y hy => HW.out.2 (y.1, y.2.2) (by simp only [Fm.plain, List.mem_cons, List.mem_map]; exact .inr ⟨y, hy, rfl⟩))
    have hne := bne_u8 x0.1 2 (by omega) 2 rfl
    by_cases hk : x0.1 = 2
    · rw [show (x0.1 != UInt8.ofNat 2) = false by rw [hk]; rfl] at hne
      obtain ⟨xa, xc, hxv, hxc, hxb, -, -⟩ := HX0.out.rd.open
      rw [hxv] at c2 HX0
      unfold maxLen at hxb
      go_upto_block 0 with (fail)
      go_cut [8, 9, 10, 11] (fun uv sv rv _ wc => ∃ (recs : List (List UInt8)) (u : Nat) (sl : Nat) (ok : Bool), uv = .int .i64 u ∧ sv = .int .i64 sl ∧ Hid (sl = 0 ↔ ok = false) ∧ Hid (OwnBs (fun x => w.heap.size ≤ x) wc rv recs) ∧ Hid ((tailF false (Fm.plain T)).1 = recs ∧ 9 + x0.2.2.length + (tailF false (Fm.plain T)).2.1 = u ∧ (tailF false (Fm.plain T)).2.2 = ok) ∧ Hid (Below w1.heap.size w1 wc))
      case first =>
        go_wp2_with fail
        go_loopw [8, 9, 10, 11] (fun uv sv rv iv wr => ∃ (k : Nat) (recs : List (List UInt8)) (u : Nat) (sl : Nat) (ok : Bool), k ≤ T.length ∧ uv = .int .i64 u ∧ sv = .int .i64 sl ∧ sl ≤ 1 ∧ Hid (sl = 0 ↔ ok = false) ∧ iv = .int .i64 ((k : Int) + 1) ∧ recs.length ≤ k ∧ Hid (OwnBs (fun x => w.heap.size ≤ x) wr rv recs) ∧ Hid (∀ x, rv.ownBlock = some x → w1.heap.size ≤ x) ∧
          Hid ((tailF false (Fm.plain T)).1 = recs ++ (tailF ok ((Fm.plain T).drop k)).1 ∧ 9 + x0.2.2.length + (tailF false (Fm.plain T)).2.1 = u + (tailF ok ((Fm.plain T).drop k)).2.1 ∧ (tailF false (Fm.plain T)).2.2 = (tailF ok ((Fm.plain T).drop k)).2.2) ∧ Hid (Below w1.heap.size w1 wr)) (fun _ _ _ iv _ => T.length + 1 - (intOf iv).toNat)
        case atStart => exact ⟨0, [], 9 + x0.2.2.length, 0, false, by omega, by go_num, rfl, by omega, Lib.hid (by simp), rfl, by simp, Lib.hid (ownBs_nil _ _), Lib.hid (fun x hx => by cases hx), Lib.hid ⟨by simp, by simp, by simp⟩, Lib.hid (Below.refl _ _)⟩
        case round =>
          obtain ⟨k, recs, u, sl, ok, hk, rfl, rfl, hs1, Hsl, rfl, hrl, HR3, HG3, HS3, HB3⟩ := hrel
          by_cases hlt : k < T.length
          · obtain ⟨y, hy⟩ : ∃ y, T[k]? = some y := ⟨T[k], List.getElem?_eq_getElem hlt⟩
            obtain ⟨bb2, o2, e2, c1k, c2k⟩ := HC.out (k + 1) y (by simpa using hy)
            cases e2
            have lb2 := World.block_lt_of_cell? w1 _ c1k
            have c1' : wr.cell? ⟨bb, o + (k + 1) * 2, none⟩ = some (.int .u8 (y.1.toNat : Int)) := (HB3.out.cell (p := ⟨bb, o + (k + 1) * 2, none⟩) lb2).trans c1k
            have c2' : wr.cell? ⟨bb, o + (k + 1) * 2 + 1, none⟩ = some y.2.1 := (HB3.out.cell (p := ⟨bb, o + (k + 1) * 2 + 1, none⟩) lb2).trans c2k
            have Hdr : Hid ((Fm.plain T).drop k = (y.1, y.2.2) :: (Fm.plain T).drop (k + 1)) := Lib.hid (by
              obtain ⟨h1, h2⟩ := List.getElem?_eq_some_iff.1 (Fm.plain_get T k y hy)
              rw [List.drop_eq_getElem_cons h1, h2])
            have HY : Hid (In8 (fun x => w.heap.size ≤ x) w1 y.2.1 y.2.2) := Lib.hid ((in8_mine (HM.out y (by simp [List.mem_of_getElem? hy]))).more (fun x hx _ => hx.1))
            have hyl := HL.out y (List.mem_of_getElem? hy)
            have HYr := Lib.hid (HY.out.next HB3.out)
            have hsz : w.heap.size ≤ wr.heap.size := by have := HB1.out.size; have := HB3.out.size; omega
            have hsz2 : w1.heap.size ≤ wr.heap.size := HB3.out.size
            generalize y.2.2 = bo at *
            generalize y.2.1 = yv at *
            generalize y.1 = kk at *
            obtain ⟨ya, yc, rfl, hyc, hyb, -, -⟩ := HYr.out.rd.open
            unfold maxLen at hyb
            have hU := HU.out
            have ik : (0 : Int) ≤ (k : Int) + 1 := by omega
            have itn : ((k : Int) + 1).toNat = k + 1 := by omega
            clear c1k hy
            by_cases h1 : kk = 1
            · subst h1
              have d1 : wr.cell? ⟨bb, o + (k + 1) * 2, none⟩ = some (.int .u8 1) := c1'
              clear c1'
              have HSt : Hid (tailF ok ((Fm.plain T).drop k) = (bo :: (tailF ok ((Fm.plain T).drop (k + 1))).1, 9 + bo.length + (tailF ok ((Fm.plain T).drop (k + 1))).2.1, (tailF ok ((Fm.plain T).drop (k + 1))).2.2)) := Lib.hid (by rw [Hdr.out, tailF, if_pos rfl])
              have hu := HS3.out.2.1
              rw [HSt.out] at hu
              simp only at hu
              have d2 : ((sl : Int) == 2) = false := by rw [beq_eq_false_iff_ne]; omega
              go_wp2_with (at_builtin; apply Hold.mk)
              unfold Hold
              refine wpList_app_bs (K := fun x => w.heap.size ≤ x) rfl _ _ 24 rfl ok24 (by rfl) (by rfl) rfl HR3.out HYr.out (by omega) ?_
              intro v5 w5 ho5 ht5 hn5
              have hs5 := ht5.size
              have HB5 : Hid (Below w1.heap.size w1 w5) := Lib.hid (HB3.out.trans (ht5.bel hsz2 HG3.out))
              have HR5 : Hid (OwnBs (fun x => w.heap.size ≤ x) w5 v5 (recs ++ [bo])) := Lib.hid (ho5.more (fun x hx _ => by
                rcases hx with h | h
                · exact h
                · have := h.1; omega))
              have HG5 : Hid (∀ x, v5.ownBlock = some x → w1.heap.size ≤ x) := Lib.hid (fun x hx => by
                rcases hn5 x hx with h | h
                · exact HG3.out x h
                · omega)
              have g1 : w5.cell? ⟨bb, o + (k + 1) * 2 + 1, none⟩ = some (.slice ya bo.length yc) := (HB5.out.cell (p := ⟨bb, o + (k + 1) * 2 + 1, none⟩) lb2).trans c2k
              clear ho5 ht5 hn5 HR3 HG3 HYr d1 c2'
              go_wp2_with fail
              go_roundw
              case rel =>
                refine ⟨k + 1, recs ++ [bo], u + (9 + bo.length), sl, ok, by omega, by go_num, rfl, hs1, Hsl, by go_num, by simp; omega, HR5, HG5, Lib.hid ?_, HB5⟩
                obtain ⟨q1, q2, q3⟩ := HS3.out
                rw [HSt.out] at q1 q2 q3
                simp only at q1 q2 q3
                refine ⟨by rw [q1, List.append_assoc]; rfl, by omega, q3⟩
              case measure => simp [intOf]; omega
            · by_cases h2 : kk = 3 ∧ ok = false
              · obtain ⟨rfl, rfl⟩ := h2
                obtain rfl : sl = 0 := Hsl.out.2 rfl
                have d1 : wr.cell? ⟨bb, o + (k + 1) * 2, none⟩ = some (.int .u8 3) := c1'
                clear c1' h1
                have HSt : Hid (tailF false ((Fm.plain T).drop k) = ((tailF true ((Fm.plain T).drop (k + 1))).1, 9 + bo.length + (tailF true ((Fm.plain T).drop (k + 1))).2.1, (tailF true ((Fm.plain T).drop (k + 1))).2.2)) := Lib.hid (by rw [Hdr.out, tailF, if_neg (by simp), if_pos (by simp)])
                have hu := HS3.out.2.1
                rw [HSt.out] at hu
                simp only at hu
                go_wp2_with fail
                go_roundw
                case rel =>
                  refine ⟨k + 1, recs, u + (9 + bo.length), 1, true, by omega, by go_num, rfl, by omega, Lib.hid (by simp), by go_num, by omega, HR3, HG3, Lib.hid ?_, HB3⟩
                  obtain ⟨q1, q2, q3⟩ := HS3.out
                  rw [HSt.out] at q1 q2 q3
                  simp only at q1 q2 q3
                  exact ⟨q1, by omega, q3⟩
                case measure => simp [intOf]; omega
              · have HSt : Hid (tailF ok ((Fm.plain T).drop k) = ([], 0, ok)) := Lib.hid (by rw [Hdr.out, tailF, if_neg h1, if_neg h2])
                have Hq : Hid ((tailF false (Fm.plain T)).1 = recs ∧ 9 + x0.2.2.length + (tailF false (Fm.plain T)).2.1 = u ∧ (tailF false (Fm.plain T)).2.2 = ok) := Lib.hid (by
                    obtain ⟨q1, q2, q3⟩ := HS3.out
                    rw [HSt.out] at q1 q2 q3
                    simp only [List.append_nil, Nat.add_zero] at q1 q2 q3
                    exact ⟨q1, q2, q3⟩)
                have e1 := bne_u8 kk 1 (by omega) 1 rfl
                rw [show (kk != UInt8.ofNat 1) = true by simpa using h1] at e1
                by_cases h3 : kk = 3
                · subst h3
                  have hok : ok = true := by
                    cases ok with
                    | true => rfl
                    | false => exact (h2 ⟨rfl, rfl⟩).elim
                  subst hok
                  obtain rfl : sl = 1 := by
                    have := Hsl.out
                    simp at this
                    omega
                  have d1 : wr.cell? ⟨bb, o + (k + 1) * 2, none⟩ = some (.int .u8 3) := c1'
                  clear c1' e1
                  go_wp2_with fail
                  go_meet
                  exact ⟨recs, u, 2, true, rfl, rfl, Lib.hid (by simp), HR3, Hq, HB3⟩
                · have e3 : ((kk.toNat : Int) == 3) = false := by rw [beq_u8 kk 3 (by omega) 3 rfl]; simpa using h3
                  have e4 := bne_u8 kk 3 (by omega) 3 rfl
                  rw [show (kk != UInt8.ofNat 3) = true by simpa using h3] at e4
                  go_wp2_with fail
                  go_meet
                  exact ⟨recs, u, sl, ok, rfl, rfl, Hsl, HR3, Hq, HB3⟩
          · obtain rfl : k = T.length := by omega
            go_wp2_with fail
            go_meet
            exact ⟨recs, u, sl, ok, rfl, rfl, Hsl, HR3, Lib.hid (by
              have h := HS3.out
              rw [List.drop_of_length_le (by simp [Fm.plain])] at h
              simpa [tailF] using h), HB3⟩
      case rest =>
        obtain ⟨recs, u, sl, ok, rfl, rfl, Hsl, HR, HS4, HBc⟩ := hcut
        have HBw : Hid (Below w.heap.size w wc) := Lib.hid (bel_trans HB1.out HBc.out)
        cases ok with
        | false =>
          obtain rfl : sl = 0 := Hsl.out.2 rfl
          have Hn : Hid (standsW b = none) := Lib.hid (by
            rw [Hst.out, standsL]
            simp only
            rw [if_pos hk, if_neg (by rw [HS4.out.2.2]; simp)])
          go_wp2_with fail
          try simp only [Exit.inBlock, Exit.then]
          refine bodyPost_ret (results_tmp4 rfl _ _ _) rfl ?_
          rw [Hn.out]
          exact ⟨rfl, HBw.out⟩
        | true =>
          have ds : ((sl : Int) == 0) = false := by
            have := Hsl.out
            simp at this
            rw [beq_eq_false_iff_ne]
            omega
          have Hn : Hid (standsW b = some ⟨x0.2.2, recs, u⟩) := Lib.hid (by
            rw [Hst.out, standsL]
            simp only
            rw [if_pos hk, if_pos HS4.out.2.2, HS4.out.1, HS4.out.2.1])
          have HXc : Hid (Mine8 5 w wc (.slice xa x0.2.2.length xc) x0.2.2) := Lib.hid (HX0.out.below HBc.out)
          have d2 := (HBc.out.cell (p := ⟨bb, o + 1, none⟩) lb).trans c2
          go_wp2_with fail
          try simp only [Exit.inBlock, Exit.then]
          refine bodyPost_ret (results_tmp4 rfl _ _ _) rfl ?_
          rw [Hn.out]
          exact ⟨⟨_, _, rfl, HXc.out, HR.out⟩, HBw.out⟩
    · rw [show (x0.1 != UInt8.ofNat 2) = true by simpa using hk] at hne
      have Hn : Hid (standsW b = none) := Lib.hid (by rw [Hst.out, standsL]; simp only; rw [if_neg hk])
      go_wp2_with fail
      try simp only [Exit.inBlock, Exit.then]
      refine bodyPost_ret (results_tmp4 rfl _ _ _) rfl ?_
      rw [Hn.out]
      exact ⟨rfl, HB1.out⟩
end Go.Proofs.Ytokmiphgalpahaa
