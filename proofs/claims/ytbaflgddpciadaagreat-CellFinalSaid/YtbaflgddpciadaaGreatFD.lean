/- CellFinal (4). -/
import Derived.Test.YtbaflgddpciadaaGreatEW
import Derived.Test.YtbaflgddpciadaaGreatFC
set_option linter.unusedVariables false
set_option linter.unusedSimpArgs false
namespace Go.Proofs.YtbaflgddpciadaaGreat
open Go.RowKit Go.Kt Go.Ix Go.Sx Go.Cx
set_option maxRecDepth 100000
theorem seen_cells {w : World} {v : Value} {B : List Ss} (h : Kt.Own 73 7 w v B.length (flatS B)) : ∃ a c, v = .slice a B.length c ∧ ∀ (i : Nat) q, B[i]? = some q → ∃ g, a = some ⟨g, 0, none⟩ ∧ g < w.heap.size ∧
    w.cell? ⟨g, i * 7, none⟩ = some q.rv ∧ w.cell? ⟨g, i * 7 + 1, none⟩ = some (.int .i64 q.sn.fr) ∧ w.cell? ⟨g, i * 7 + 2, none⟩ = some (.int .i64 q.sn.to_) ∧ w.cell? ⟨g, i * 7 + 3, none⟩ = some (.int .i64 q.sn.at_.wall) ∧
    w.cell? ⟨g, i * 7 + 4, none⟩ = some (.int .u32 q.sn.at_.tick) ∧ w.cell? ⟨g, i * 7 + 5, none⟩ = some (.int .u32 q.sn.at_.mark) ∧ w.cell? ⟨g, i * 7 + 6, none⟩ = some q.pv := by
  obtain ⟨-, a, c, e, h1, h2, -, -⟩ := h.rd
  refine ⟨a, c, e, fun i q hq => ?_⟩
  have hil := (List.getElem?_eq_some_iff.1 hq).1
  have key : ∀ j, j < 7 → ∃ g, a = some ⟨g, 0, none⟩ ∧ w.cell? ⟨g, i * 7 + j, none⟩ = (scells q)[j]? := fun j hj => by
    obtain ⟨g, c', e', hc, -⟩ := own_place h (j := i * 7 + j) (by omega)
    rw [e] at e'
    injection e' with e' _ _
    exact ⟨g, e', by rw [hc, flatS_get B i q hq j hj]⟩
  obtain ⟨g, e0, k0⟩ := key 0 (by omega)
  have kk : ∀ j, j < 7 → w.cell? ⟨g, i * 7 + j, none⟩ = (scells q)[j]? := fun j hj => by
    obtain ⟨g', e', k⟩ := key j hj
    rw [e0] at e'
    injection e' with e'
    injection e' with e'
    subst e'
    exact k
  exact ⟨g, e0, World.block_lt_of_cell? w ⟨g, i * 7, none⟩ (u := q.rv) k0, k0, kk 1 (by omega), kk 2 (by omega), kk 3 (by omega), kk 4 (by omega), kk 5 (by omega), kk 6 (by omega)⟩
set_option maxHeartbeats 16000000 in
theorem final_any (v u : Value) (L : List Cw) (M : List Ak) (w : World) (hv : RdC w v L) (hu : RdA w u M) (hg : Glob w) : Calls Tryz.prog 4 #[v, u] w fun e w' => e = .returned (.bool true) ∧ Below w.heap.size w w' := by
  obtain ⟨la, lc, rfl, hcap, hbig, hcell⟩ := hv.open
  obtain ⟨ma, mc, rfl, hcap2, hbig2, hcell2⟩ := hu.open
  have Hcell := Lib.hid hcell
  have Hask := Lib.hid hcell2
  have HG := Lib.hid hg
  have HNw := Lib.hid (new_cel 2 ⟨by decide, by decide⟩ w)
  clear hcell hv hg hcell2 hu
  by_cases h40 : 40 < M.length
  · have q1 : decide ((40 : Int) < (M.length : Int)) = true := by simp only [decide_eq_true_eq]; omega
    clear h40
    go_enter Tryz.func4, Tryz.ntmps4
    go_upto_region 3 with (first
      | (go_at_call 14; refine HNw.out.mono ?_; rintro e w1 ⟨c, S0, rfl, hc, hS, hb⟩; have HC0 := Lib.hid hc; have HS0 := Lib.hid hS; have HB1 := Lib.hid hb; clear hc hS hb)
      | (go_at_call 15; refine (awake_any _ (HG.out.below HB1.out)).mono ?_; rintro e w2 ⟨rfl, hb2⟩; have HB2 := Lib.hid (bel_trans HB1.out hb2); clear hb2)
      | fail)
    go_wp2_with (first
      | (go_at_call 15; refine (awake_any _ (HG.out.below HB2.out)).mono ?_; rintro e w3 ⟨rfl, hb3⟩; have HB3 := Lib.hid (bel_trans HB2.out hb3); clear hb3)
      | fail)
    go_ret
    exact ⟨rfl, HB3.out⟩
  have q1 : decide ((40 : Int) < (M.length : Int)) = false := by simp only [decide_eq_false_iff_not]; omega
  have H40 : Hid (M.length ≤ 40) := Lib.hid (by omega)
  clear h40
  go_enter Tryz.func4, Tryz.ntmps4
  go_upto_region 4 with (first
    | (go_at_call 14; refine HNw.out.mono ?_; rintro e w1 ⟨c, S0, rfl, hc, hS, hb⟩; have HC0 := Lib.hid hc; have HS0 := Lib.hid hS; have HB1 := Lib.hid hb; clear hc hS hb)
    | (go_at_call 15; refine (awake_any _ (HG.out.below HB1.out)).mono ?_; rintro e w2 ⟨rfl, hb2⟩; have HB2 := Lib.hid hb2; clear hb2)
    | fail)
  clear q1
  go_upto_region 7 with fail
  have HR0 : Hid (Rf w (w2.alloc (.cells #[.int .i64 0, .int .u32 0, .int .u32 0] 44)) S0 c (newC 2) 0 w2.heap.size t0 t0 (.slice none 0 0) []) := Lib.hid (by
    have hlt := (HC0.out.next HB2.out).lt
    exact ⟨⟨(HC0.out.next HB2.out).next (below_alloc _ _), (by show (0 : Int) ≤ 0; decide), HS0.out, bel_alloc (bel_trans HB1.out HB2.out)⟩, Blk.new _ _ _, own_nil _ _ _, ⟨fun e => by have := hlt _ e; omega, (bel_trans HB1.out HB2.out).size⟩, (fun b e => by cases e), fin_new 2, (fun s hs => by cases hs)⟩)
  generalize w2.alloc (.cells #[.int .i64 0, .int .u32 0, .int .u32 0] 44) = w3 at HR0 ⊢
  generalize w2.heap.size = g8 at HR0 ⊢
  go_loopw [7, 9] (fun av iv wr => ∃ (k : Nat) (S : Nat → Prop) (C : Cl) (most : Tm) (A : List Ss), k ≤ L.length ∧ iv = .int .i64 k ∧ k ≤ 60 ∧ A.length ≤ 40 * k ∧ Hid (Rf w wr S c C k g8 most most av A)) (fun _ iv _ => L.length + 1 - (intOf iv).toNat)
  case atStart => exact ⟨0, _, _, _, [], by omega, rfl, by omega, by simp, HR0⟩
  case round =>
    clear HR0
    obtain ⟨k, S, C, most, A, hk, rfl, hk60, hA, HR⟩ := hrel
    obtain ⟨wo, rfl⟩ : ∃ wo, wo = wr := ⟨_, rfl⟩
    obtain ⟨-, va, vc, rfl, -⟩ := HR.out.row.rd
    have Hk := Lib.hid hk
    have H60 := Lib.hid hk60
    have e1 : decide ((k : Int) ≤ (L.length : Int)) = true := by simp only [decide_eq_true_eq]; omega
    have e2 : decide ((k : Int) ≤ 60) = true := by simp only [decide_eq_true_eq]; omega
    have hkz : (k : Int) < 1000 := by omega
    have HA : Hid (A.length ≤ 40 * k + 0) := Lib.hid (by omega)
    clear hk hk60 hA
    go_upto_region 10 with fail
    clear e1 e2
    go_loopw [7, 51] (fun av jv wr => ∃ (j : Nat) (most : Tm) (A : List Ss), j ≤ M.length ∧ jv = .int .i64 j ∧ Hid (A.length ≤ 40 * k + j) ∧ Hid (Rf w wr S c C k g8 most most av A)) (fun _ jv _ => M.length - (intOf jv).toNat)
    case atStart => exact ⟨0, _, _, by omega, rfl, HA, HR⟩
    case round =>
      clear HR HA
      obtain ⟨j, most, A, hj, rfl, HA, HR⟩ := hrel
      obtain ⟨wp, rfl⟩ : ∃ wp, wp = wr := ⟨_, rfl⟩
      obtain ⟨-, va, vc, rfl, -⟩ := HR.out.row.rd
      by_cases hjl : j < M.length
      · obtain ⟨a, ha⟩ : ∃ a, M[j]? = some a := ⟨M[j], List.getElem?_eq_getElem hjl⟩
        obtain ⟨har, b, off, rfl, hbl, c0, c1, c2, c3, c4, c5, c6⟩ := Hask.out j a ha
        obtain ⟨ra, rc, hrv, -⟩ := har.rd.open
        have HAr := Lib.hid har
        obtain ⟨bh, rl, rv, fr, to_, ⟨aw, at1, am⟩⟩ := a
        simp only at c0 c1 c2 c3 c4 c5 c6 hrv
        subst hrv
        have HRl : Hid (RdR w (.slice ra rl.length rc) rl ∧ rl.length ≤ 3518437208883 ∧ FitR rl) := Lib.hid ⟨HAr.out.rd, HAr.out.len, HAr.out.fit⟩
        have hB := HR.out.rn.bel
        have d0 : wp.cell? ⟨b, off + j * 7, none⟩ = some (.int .i64 bh) := (hB.cell (p := ⟨b, _, none⟩) hbl).trans c0
        have d1 : wp.cell? ⟨b, off + j * 7 + 1, none⟩ = some (.slice ra rl.length rc) := (hB.cell (p := ⟨b, _, none⟩) hbl).trans c1
        have d2 : wp.cell? ⟨b, off + j * 7 + 2, none⟩ = some (.int .i64 fr) := (hB.cell (p := ⟨b, _, none⟩) hbl).trans c2
        have d3 : wp.cell? ⟨b, off + j * 7 + 3, none⟩ = some (.int .i64 to_) := (hB.cell (p := ⟨b, _, none⟩) hbl).trans c3
        have d4 : wp.cell? ⟨b, off + j * 7 + 4, none⟩ = some (.int .i64 aw) := (hB.cell (p := ⟨b, _, none⟩) hbl).trans c4
        have d5 : wp.cell? ⟨b, off + j * 7 + 5, none⟩ = some (.int .u32 at1) := (hB.cell (p := ⟨b, _, none⟩) hbl).trans c5
        have d6 : wp.cell? ⟨b, off + j * 7 + 6, none⟩ = some (.int .u32 am) := (hB.cell (p := ⟨b, _, none⟩) hbl).trans c6
        have hj1 : (0 : Int) ≤ (j : Int) := by omega
        have hj2 : (j : Int) < (M.length : Int) := by omega
        have hj3 : (j : Int) < 1000 := by have := H40.out; omega
        have Hjl := Lib.hid hjl
        have HX4 := Lib.hid (Blk.new wp #[.int .i64 bh, .slice ra rl.length rc, .int .i64 fr, .int .i64 to_, .int .i64 aw, .int .u32 at1, .int .u32 am] 71)
        have HBx4 := Lib.hid (below_alloc wp (.cells #[.int .i64 bh, .slice ra rl.length rc, .int .i64 fr, .int .i64 to_, .int .i64 aw, .int .u32 at1, .int .u32 am] 71))
        clear c0 c1 c2 c3 c4 c5 c6 ha har hB hjl hj
        go_upto_region 12 with fail
        clear d0 d1 d2 d3 d4 d5 d6
        generalize wp.alloc (.cells #[.int .i64 bh, .slice ra rl.length rc, .int .i64 fr, .int .i64 to_, .int .i64 aw, .int .u32 at1, .int .u32 am] 71) = w4 at HX4 HBx4 ⊢
        generalize wp.heap.size = ga at HX4 ⊢
        have HR4 := Lib.hid (HR.out.next HBx4.out)
        have x0 : w4.cell? ⟨ga, 0, none⟩ = some (.int .i64 bh) := HX4.out.cell 0
        by_cases hbk : bh = (k : Int)
        · have e1 : (bh != (k : Int)) = false := by rw [hbk]; simp
          clear hbk
          go_upto_region 13 with fail
          clear x0 e1
          have HTo := Lib.hid (fun W (hW : Below w4.heap.size w4 W) => rto_any2 (.slice ra rl.length rc) rl W (HRl.out.1.below (bel_trans HR4.out.rn.bel hW)) HRl.out.2.1)
          have HT1 := Lib.hid (fun W => to_any1 ⟨aw, at1, am⟩ W)
          have HRe := Lib.hid (fun W (hW : Below w4.heap.size w4 W) (v : Value) (hv : RdR W v rl) => cel_read (HR4.out.rn.cel.next hW) (by have := H60.out; omega) v rl hv HRl.out.2.2 (HG.out.below (bel_trans HR4.out.rn.bel hW)) fr to_ ⟨aw, at1, am⟩)
          unfold Tm.val at HT1 HRe
          simp only at HT1 HRe
          have HKs : Hid (∀ W, Below w4.heap.size w4 W → W.cell? ⟨ga, 0, none⟩ = some (.int .i64 bh) ∧ W.cell? ⟨ga, 1, none⟩ = some (.slice ra rl.length rc) ∧ W.cell? ⟨ga, 2, none⟩ = some (.int .i64 fr) ∧ W.cell? ⟨ga, 3, none⟩ = some (.int .i64 to_) ∧ W.cell? ⟨ga, 4, none⟩ = some (.int .i64 aw) ∧ W.cell? ⟨ga, 5, none⟩ = some (.int .u32 at1) ∧ W.cell? ⟨ga, 6, none⟩ = some (.int .u32 am)) := Lib.hid (fun W hW => ⟨(HX4.out.next hW).cell 0, (HX4.out.next hW).cell 1, (HX4.out.next hW).cell 2, (HX4.out.next hW).cell 3, (HX4.out.next hW).cell 4, (HX4.out.next hW).cell 5, (HX4.out.next hW).cell 6⟩)
          obtain ⟨q0, q1, q2, q3, q4, q5, q6⟩ := HKs.out w4 (bel_refl w4)
          have hx0 := bel_refl w4
          have hgl : ga < w4.heap.size := HX4.out.lt
          go_region_held3 (fun W => W.cell? ⟨ga, 0, none⟩ = some (.int .i64 bh) ∧ W.cell? ⟨ga, 1, none⟩ = some (.slice ra rl.length rc) ∧ W.cell? ⟨ga, 2, none⟩ = some (.int .i64 fr) ∧ W.cell? ⟨ga, 3, none⟩ = some (.int .i64 to_) ∧ W.cell? ⟨ga, 4, none⟩ = some (.int .i64 aw) ∧ W.cell? ⟨ga, 5, none⟩ = some (.int .u32 at1) ∧ W.cell? ⟨ga, 6, none⟩ = some (.int .u32 am))
            (first | (with_reducible exact ⟨q0, q1, q2, q3, q4, q5, q6⟩) | (with_reducible refine HKs.out _ ?_; (repeat (first | assumption | apply bel_alloc | apply bel_drew)); done) | go_keep)
            (first
              | (go_simp; go_at_call 21; refine (HTo.out _ (by repeat (first | exact bel_refl _ | assumption | apply bel_alloc | apply bel_drew))).mono ?_; rintro e w5 ⟨v5, rfl, hm5⟩; obtain ⟨a5, c5, hv5, -⟩ := hm5.rd.open; subst hv5; have HM5 := Lib.hid hm5.rd; have hx5 : Below w4.heap.size w4 w5 := bel_trans (by repeat (first | exact bel_refl _ | assumption | apply bel_alloc | apply bel_drew)) hm5.2.2; clear hm5)
              | (go_simp; go_at_call 22; refine (HT1.out _).mono ?_; rintro e w6 ⟨rfl, hb6⟩; have hx6 : Below w4.heap.size w4 w6 := bel_trans (by repeat (first | exact bel_refl _ | assumption | apply bel_alloc | apply bel_drew)) hb6; have HM6 := Lib.hid (HM5.out.below (show Below w5.heap.size w5 w6 from bel_trans (by repeat (first | exact bel_refl _ | assumption | apply bel_alloc | apply bel_drew)) hb6)); clear hb6)
              | (go_simp; go_at_call 20; refine (HRe.out _ (by repeat (first | exact bel_refl _ | assumption | apply bel_alloc | apply bel_drew)) _ (HM6.out.below (by repeat (first | exact bel_refl _ | assumption | apply bel_alloc | apply bel_drew)))).mono ?_; rintro e w7 ⟨vQ, Q, er, rfl, her, hpt, htl, hb7⟩; obtain ⟨-, aQ, cQ, hvQ, -⟩ := hpt.row.rd; subst hvQ; have hx7 : Below w4.heap.size w4 w7 := bel_trans (by repeat (first | exact bel_refl _ | assumption | apply bel_alloc | apply bel_drew)) hb7; have HPt := Lib.hid hpt; have HEr := Lib.hid her; have HTl := Lib.hid htl; clear hb7 hpt her htl))
          have HRn : Hid (Rf w w7 S c C k g8 most most (.slice va A.length vc) A) := Lib.hid (HR4.out.next hx7)
          have HX7 := Lib.hid (HX4.out.next hx7)
          clear q0 q1 q2 q3 q4 q5 q6 HKs hx0 hgl HTo HRe HM5 HM6
          by_cases hez : er = 0
          · have e0 : (er == 0) = true := by rw [hez]; rfl
            have HEz := Lib.hid hez
            have HTs : Hid (Q.map Pn.told = scanL C.M (fun d => allB rl d) fr to_ ⟨aw, at1, am⟩) := Lib.hid (by rw [HTl.out, if_pos hez])
            have HQr := Lib.hid (cel_told HRn.out.rn.cel HTs.out)
            clear hez
            go_upto_region 15 with fail
            clear e0 HTl
            have HPo := Lib.hid (fun W (hW : Below w7.heap.size w7 W) => points_any (.slice aQ Q.length cQ) Q W (HPt.out.rd.below hW) HQr.out.1 HQr.out.2)
            have HKs : Hid (∀ W, Below w7.heap.size w7 W → W.cell? ⟨ga, 0, none⟩ = some (.int .i64 bh) ∧ W.cell? ⟨ga, 1, none⟩ = some (.slice ra rl.length rc) ∧ W.cell? ⟨ga, 2, none⟩ = some (.int .i64 fr) ∧ W.cell? ⟨ga, 3, none⟩ = some (.int .i64 to_) ∧ W.cell? ⟨ga, 4, none⟩ = some (.int .i64 aw) ∧ W.cell? ⟨ga, 5, none⟩ = some (.int .u32 at1) ∧ W.cell? ⟨ga, 6, none⟩ = some (.int .u32 am)) := Lib.hid (fun W hW => ⟨(HX7.out.next hW).cell 0, (HX7.out.next hW).cell 1, (HX7.out.next hW).cell 2, (HX7.out.next hW).cell 3, (HX7.out.next hW).cell 4, (HX7.out.next hW).cell 5, (HX7.out.next hW).cell 6⟩)
            obtain ⟨q0, q1, q2, q3, q4, q5, q6⟩ := HKs.out w7 (bel_refl w7)
            have hx0 := bel_refl w7
            have hgl : ga < w7.heap.size := HX7.out.lt
            have HLe : Hid (A.length + 1 ≤ 4000) := Lib.hid (by have := HA.out; have := H60.out; have := Hjl.out; have := H40.out; omega)
            obtain ⟨ok, hok⟩ : ∃ ok : Bool, ok = true ↔ RightR rl := ⟨@decide (RightR rl) (Classical.propDecidable _), by simp⟩
            have HOk := Lib.hid hok
            have HFin : Hid (∀ (P : List Pn) (pv : Value), P.map Pn.told = Q.map Pn.told → Go.Cx.Fin C (if most.lt ⟨aw, at1, am⟩ then ⟨aw, at1, am⟩ else most) ((A ++ [(⟨⟨ok, fun d => allB rl d, fr, to_, ⟨aw, at1, am⟩, P.map Pn.told⟩, rl, .slice ra rl.length rc, pv, P⟩ : Ss)]).map Ss.sn)) := Lib.hid (fun P pv hP => by
              rw [List.map_append]
              exact fin_read HRn.out.fin (s := ⟨ok, fun d => allB rl d, fr, to_, ⟨aw, at1, am⟩, P.map Pn.told⟩) (by rw [← HEr.out ok hok]; exact HEz.out) (by rw [← HTs.out, ← hP]))
            clear hok
            go_region_held3 (fun W => W.cell? ⟨ga, 0, none⟩ = some (.int .i64 bh) ∧ W.cell? ⟨ga, 1, none⟩ = some (.slice ra rl.length rc) ∧ W.cell? ⟨ga, 2, none⟩ = some (.int .i64 fr) ∧ W.cell? ⟨ga, 3, none⟩ = some (.int .i64 to_) ∧ W.cell? ⟨ga, 4, none⟩ = some (.int .i64 aw) ∧ W.cell? ⟨ga, 5, none⟩ = some (.int .u32 at1) ∧ W.cell? ⟨ga, 6, none⟩ = some (.int .u32 am))
              (first | (with_reducible exact ⟨q0, q1, q2, q3, q4, q5, q6⟩) | (with_reducible exact ⟨r0, r1, r2, r3, r4, r5, r6⟩) | (with_reducible refine HKs.out _ ?_; (repeat (first | assumption | apply bel_alloc | apply bel_drew)); done) | go_keep)
              (first
                | (go_simp; go_at_call 22; refine (HT1.out _).mono ?_; rintro e w8 ⟨rfl, hb8⟩; have hx8 : Below w7.heap.size w7 w8 := bel_trans (by repeat (first | exact bel_refl _ | assumption | apply bel_alloc | apply bel_drew)) hb8; clear hb8)
                | (go_simp; go_at_call 25; refine (HPo.out _ (by repeat (first | exact bel_refl _ | assumption | apply bel_alloc | apply bel_drew))).mono ?_; rintro e w9 ⟨vP, P, rfl, hp9, ht9⟩; obtain ⟨-, aP, cP, hvP, -⟩ := hp9.row.rd; subst hvP; have hx9 : Below w7.heap.size w7 w9 := bel_trans (by repeat (first | exact bel_refl _ | assumption | apply bel_alloc | apply bel_drew)) hp9.bel; have HP9 := Lib.hid hp9; have HT9 := Lib.hid ht9; have HSn : Hid (∀ W, Below w9.heap.size w9 W → Seen w W S ⟨⟨ok, fun d => allB rl d, fr, to_, ⟨aw, at1, am⟩, P.map Pn.told⟩, rl, .slice ra rl.length rc, .slice aP P.length cP, P⟩) := Lib.hid (fun W hW => seen_new HRn.out.rn.cel (by repeat (first | exact bel_refl _ | assumption | apply bel_alloc | apply bel_drew)) HRl.out.1 HRl.out.2.1 HRl.out.2.2 HOk.out (hp9.below hW)); clear hp9 ht9)
                | (refine step_app (by rfl) _ _ 69 (by rfl) okS (by rfl) (by rfl) (HRn.out.row.below' (by repeat (first | exact bel_refl _ | assumption | apply bel_alloc | apply bel_drew))) (own_lit_at (g := _) 73 7 #[.slice ra rl.length rc, .int .i64 fr, .int .i64 to_, .int .i64 aw, .int .u32 at1, .int .u32 am, .slice aP P.length cP] 1 (by simp [maxLen]) rfl (by simp)).rd (s7_one _ _ _ _ _ _ _ rfl rfl) (by have h1 := HLe.out; simp only [maxLen]; omega) (by have h1 := HLe.out; omega) ?_; intro v7 w17 ho7 hg7 hn7; obtain ⟨-, a7, c7, rfl, -⟩ := ho7.rd; have HR17 := Lib.hid (HRn.out.push (by repeat (first | exact bel_refl _ | assumption | apply bel_alloc | apply bel_drew)) (HSn.out _ (by repeat (first | exact bel_refl _ | assumption | apply bel_alloc | apply bel_drew))) ho7 hg7 hn7 (HFin.out P _ HT9.out)); have hb17 := Blk.grown (HX7.out.next (by repeat (first | exact bel_refl _ | assumption | apply bel_alloc | apply bel_drew))) hg7 (own_no_blk (HRn.out.row.below' (by repeat (first | exact bel_refl _ | assumption | apply bel_alloc | apply bel_drew))) (HX7.out.next (by repeat (first | exact bel_refl _ | assumption | apply bel_alloc | apply bel_drew))) (by decide)); have HX17 := Lib.hid hb17; have r0 : w17.cell? ⟨ga, 0, none⟩ = some (.int .i64 bh) := hb17.cell 0; have r1 : w17.cell? ⟨ga, 1, none⟩ = some (.slice ra rl.length rc) := hb17.cell 1; have r2 : w17.cell? ⟨ga, 2, none⟩ = some (.int .i64 fr) := hb17.cell 2; have r3 : w17.cell? ⟨ga, 3, none⟩ = some (.int .i64 to_) := hb17.cell 3; have r4 : w17.cell? ⟨ga, 4, none⟩ = some (.int .i64 aw) := hb17.cell 4; have r5 : w17.cell? ⟨ga, 5, none⟩ = some (.int .u32 at1) := hb17.cell 5; have r6 : w17.cell? ⟨ga, 6, none⟩ = some (.int .u32 am) := hb17.cell 6; clear ho7 hg7 hn7 hb17))
            clear q0 q1 q2 q3 q4 q5 q6 HKs hx0 hgl HPo
            clear r0 r1 r2 r3 r4 r5 r6
            obtain ⟨s, hs⟩ : ∃ s : Ss, s = ⟨⟨ok, fun d => allB rl d, fr, to_, ⟨aw, at1, am⟩, P.map Pn.told⟩, rl, .slice ra rl.length rc, .slice aP P.length cP, P⟩ := ⟨_, rfl⟩
            rw [← hs] at HR17
            obtain ⟨A2, hA2⟩ : ∃ A2 : List Ss, A2 = A ++ [s] := ⟨_, rfl⟩
            have hl2 : A2.length = A.length + 1 := by rw [hA2, List.length_append]; rfl
            obtain ⟨fm, hfm⟩ : ∃ fm : Tm, (if most.lt ⟨aw, at1, am⟩ then ⟨aw, at1, am⟩ else most) = fm := ⟨_, rfl⟩
            have HFm := Lib.hid hfm
            have HR18 : Hid (Rf w w17 S c C k g8 most fm (.slice a7 A2.length c7) A2) := Lib.hid (by rw [hl2, hA2, ← hfm]; exact HR17.out)
            have HA2 : Hid (A2.length ≤ 40 * k + (j + 1)) := Lib.hid (by have := HA.out; omega)
            rw [← hl2]
            clear hl2 hA2 HR17 hs hfm HFin
            go_upto_region 16 with fail
            have HMb17 := Lib.hid HR18.out.blk
            have HCm := Lib.hid (fun W => compare_any most ⟨aw, at1, am⟩ W)
            unfold Tm.val at HCm
            simp only at HCm
            have hlt1 : cmpT most ⟨aw, at1, am⟩ < 0 ↔ most.lt ⟨aw, at1, am⟩ := cmpT_lt
            have HLt := Lib.hid hlt1
            clear hlt1
            generalize cmpT most ⟨aw, at1, am⟩ = zc at HCm HLt
            have m0 : ∀ q : GrownOf w17, q.W.cell? ⟨g8, 0, none⟩ = some (.int .i64 most.wall) := fun q => (HMb17.out.next q.b).cell 0
            have m1 : ∀ q : GrownOf w17, q.W.cell? ⟨g8, 1, none⟩ = some (.int .u32 most.tick) := fun q => (HMb17.out.next q.b).cell 1
            have m2 : ∀ q : GrownOf w17, q.W.cell? ⟨g8, 2, none⟩ = some (.int .u32 most.mark) := fun q => (HMb17.out.next q.b).cell 2
            have p4 : ∀ q : GrownOf w17, q.W.cell? ⟨ga, 4, none⟩ = some (.int .i64 aw) := fun q => (HX17.out.next q.b).cell 4
            have p5 : ∀ q : GrownOf w17, q.W.cell? ⟨ga, 5, none⟩ = some (.int .u32 at1) := fun q => (HX17.out.next q.b).cell 5
            have p6 : ∀ q : GrownOf w17, q.W.cell? ⟨ga, 6, none⟩ = some (.int .u32 am) := fun q => (HX17.out.next q.b).cell 6
            by_cases hml : most.lt ⟨aw, at1, am⟩
            · have q8 : decide (zc < 0) = true := by simp only [decide_eq_true_eq]; exact HLt.out.2 hml
              have HFe : Hid (fm = ⟨aw, at1, am⟩) := Lib.hid (by rw [← HFm.out, if_pos hml])
              clear hml
              refine wp_region_grown (by kernel_rfl) (by kernel_rfl) ?_
              repeat (go_big_quiet_step (first
                | (go_at_call 22; refine (HT1.out _).mono ?_; rintro e w9 ⟨rfl, hb9⟩; exact ⟨rfl, ⟨w9, bel_trans (GrownOf.b _) hb9⟩, rfl⟩)
                | (go_at_call 26; refine (HCm.out _).mono ?_; rintro e w9 ⟨rfl, hb9⟩; exact ⟨rfl, ⟨w9, bel_trans (GrownOf.b _) hb9⟩, rfl⟩)))
              refine wpQuiet_nil ?_
              rintro w18 ⟨⟨_, hb18⟩, rfl⟩
              have HB18 := Lib.hid hb18
              clear hb18 m0 m1 m2 p4 p5 p6
              have HR19 := Lib.hid (HR18.out.next HB18.out)
              have HX19 := Lib.hid (HX17.out.next HB18.out)
              go_upto_region 17 with fail
              have p4 : w18.cell? ⟨ga, 4, none⟩ = some (.int .i64 aw) := HX19.out.cell 4
              have p5 : w18.cell? ⟨ga, 5, none⟩ = some (.int .u32 at1) := HX19.out.cell 5
              have p6 : w18.cell? ⟨ga, 6, none⟩ = some (.int .u32 am) := HX19.out.cell 6
              go_wp2_with (first
                | (go_at_call 22; refine (HT1.out _).mono ?_; rintro e w19 ⟨rfl, hb19⟩; have HR20 := Lib.hid (HR19.out.next hb19); have m0 : w19.cell? ⟨g8, 0, none⟩ = some (.int .i64 most.wall) := HR20.out.blk.cell 0; have f0 : w19.frozen? ⟨g8, 0, none⟩ = false := HR20.out.blk.free 0; have m1 : w19.cell? ⟨g8, 1, none⟩ = some (.int .u32 most.tick) := HR20.out.blk.cell 1; have f1 : w19.frozen? ⟨g8, 1, none⟩ = false := HR20.out.blk.free 1; have m2 : w19.cell? ⟨g8, 2, none⟩ = some (.int .u32 most.mark) := HR20.out.blk.cell 2; have f2 : w19.frozen? ⟨g8, 2, none⟩ = false := HR20.out.blk.free 2; clear hb19)
                | fail)
              have HR21 := Lib.hid (HR20.out.set)
              rw [HFe.out] at HR21
              go_roundw
              case rel => exact ⟨j + 1, _, _, by have := Hjl.out; omega, by go_num, HA2, HR21⟩
              case measure => have := Hjl.out; simp [intOf]; omega
            · have q8 : decide (zc < 0) = false := by simp only [decide_eq_false_iff_not]; exact fun h => hml (HLt.out.1 h)
              have HFe : Hid (fm = most) := Lib.hid (by rw [← HFm.out, if_neg hml])
              clear hml
              refine wp_region_grown (by kernel_rfl) (by kernel_rfl) ?_
              repeat (go_big_quiet_step (first
                | (go_at_call 22; refine (HT1.out _).mono ?_; rintro e w9 ⟨rfl, hb9⟩; exact ⟨rfl, ⟨w9, bel_trans (GrownOf.b _) hb9⟩, rfl⟩)
                | (go_at_call 26; refine (HCm.out _).mono ?_; rintro e w9 ⟨rfl, hb9⟩; exact ⟨rfl, ⟨w9, bel_trans (GrownOf.b _) hb9⟩, rfl⟩)))
              refine wpQuiet_nil ?_
              rintro w18 ⟨⟨_, hb18⟩, rfl⟩
              have HR19 := Lib.hid (HR18.out.next hb18)
              clear hb18 m0 m1 m2 p4 p5 p6
              rw [HFe.out] at HR19
              go_wp2_with fail
              go_roundw
              case rel => exact ⟨j + 1, _, _, by have := Hjl.out; omega, by go_num, HA2, HR19⟩
              case measure => have := Hjl.out; simp [intOf]; omega
          · have e0 : (er == 0) = false := bne_of hez
            clear hez
            go_wp2_with fail
            go_roundw
            case rel => exact ⟨j + 1, _, _, by have := Hjl.out; omega, by go_num, Lib.hid (by have := HA.out; omega), HRn⟩
            case measure => have := Hjl.out; simp [intOf]; omega
        · have e1 : (bh != (k : Int)) = true := by simpa using hbk
          clear hbk
          go_wp2_with fail
          go_roundw
          case rel => exact ⟨j + 1, _, _, by have := Hjl.out; omega, by go_num, Lib.hid (by have := HA.out; omega), HR4⟩
          case measure => have := Hjl.out; simp [intOf]; omega
      · obtain rfl : j = M.length := by omega
        clear hjl hj
        have HB0 := Lib.hid HR.out.rn.bel
        by_cases hkL : k = L.length
        · have e1 : ((k : Int) == (L.length : Int)) = true := by rw [hkL]; simp
          clear hkL
          go_wp2_with fail
          go_ret
          exact ⟨rfl, HB0.out⟩
        have e1 : ((k : Int) == (L.length : Int)) = false := by rw [beq_eq_false_iff_ne]; omega
        have Hlt : Hid (k < L.length) := Lib.hid (by have := Hk.out; omega)
        clear hkL
        by_cases hk6 : k = 60
        · have e2 : ((k : Int) == 60) = true := by rw [hk6]; rfl
          clear hk6
          go_wp2_with fail
          go_ret
          exact ⟨rfl, HB0.out⟩
        have e2 : ((k : Int) == 60) = false := by rw [beq_eq_false_iff_ne]; omega
        have H60k : Hid (k < 60) := Lib.hid (by have := H60.out; omega)
        clear hk6
        have H60 := H60k
        obtain ⟨o, ho⟩ : ∃ o, L[k]? = some o := ⟨L[k]'Hlt.out, List.getElem?_eq_getElem Hlt.out⟩
        obtain ⟨hcw, b, off, rfl, hbl, hcc⟩ := Hcell.out k o ho
        obtain ⟨ova, ovc, hov, -⟩ := hcw.rd.open
        have HCw := Lib.hid hcw
        obtain ⟨⟨kd, dd, ⟨aw, at1, am⟩, ys, tk, nn, id, ws⟩, ov, OT⟩ := o
        simp only at hcc hov
        subst hov
        have HCc := Lib.hid hcc
        have d0 : wp.cell? ⟨b, off + k * 10, none⟩ = some (.int .i64 kd) := (HB0.out.cell (p := ⟨b, _, none⟩) hbl).trans HCc.out.1
        have d1 : wp.cell? ⟨b, off + k * 10 + 1, none⟩ = some (.int .u32 dd) := (HB0.out.cell (p := ⟨b, _, none⟩) hbl).trans HCc.out.2.1
        have d2 : wp.cell? ⟨b, off + k * 10 + 2, none⟩ = some (.int .i64 aw) := (HB0.out.cell (p := ⟨b, _, none⟩) hbl).trans HCc.out.2.2.1
        have d3 : wp.cell? ⟨b, off + k * 10 + 3, none⟩ = some (.int .u32 at1) := (HB0.out.cell (p := ⟨b, _, none⟩) hbl).trans HCc.out.2.2.2.1
        have d4 : wp.cell? ⟨b, off + k * 10 + 4, none⟩ = some (.int .u32 am) := (HB0.out.cell (p := ⟨b, _, none⟩) hbl).trans HCc.out.2.2.2.2.1
        have d5 : wp.cell? ⟨b, off + k * 10 + 5, none⟩ = some (.bool ys) := (HB0.out.cell (p := ⟨b, _, none⟩) hbl).trans HCc.out.2.2.2.2.2.1
        have d6 : wp.cell? ⟨b, off + k * 10 + 6, none⟩ = some (.string tk) := (HB0.out.cell (p := ⟨b, _, none⟩) hbl).trans HCc.out.2.2.2.2.2.2.1
        have d7 : wp.cell? ⟨b, off + k * 10 + 7, none⟩ = some (.int .i64 nn) := (HB0.out.cell (p := ⟨b, _, none⟩) hbl).trans HCc.out.2.2.2.2.2.2.2.1
        have d8 : wp.cell? ⟨b, off + k * 10 + 8, none⟩ = some (.int .i64 id) := (HB0.out.cell (p := ⟨b, _, none⟩) hbl).trans HCc.out.2.2.2.2.2.2.2.2.1
        have d9 : wp.cell? ⟨b, off + k * 10 + 9, none⟩ = some (.slice ova OT.length ovc) := (HB0.out.cell (p := ⟨b, _, none⟩) hbl).trans HCc.out.2.2.2.2.2.2.2.2.2
        have hk1 : (0 : Int) ≤ (k : Int) := by omega
        have hk2 : (k : Int) < (L.length : Int) := by have := Hlt.out; omega
        clear ho hcw hcc
        have HLt := Lib.hid (light_any ⟨kd, dd, ⟨aw, at1, am⟩, ys, tk, nn, id, ws⟩ (.slice ova OT.length ovc) OT wp (HCw.out.rd.below HB0.out))
        unfold cmdV at HLt
        simp only at HLt
        have HR3 := Lib.hid HR.out.rn
        by_cases hl : LightW tk OT
        · have HL := Lib.hid hl
          clear hl
          go_upto_region 20 with (first
            | (go_at_call 16; refine HLt.out.mono ?_; rintro e w4 ⟨hs4, hb4⟩; obtain ⟨z, rfl, hz⟩ := says_out hs4; obtain rfl : z = true := hz.2 HL.out; have HB4 := Lib.hid hb4; clear hs4 hz hb4)
            | fail)
          clear d0 d1 d2 d3 d4 d5 d6 d7 d8 d9
          clear e1 e2
          have HR8 := Lib.hid (HR3.out.next HB4.out)
          have HR8f := Lib.hid (HR.out.next HB4.out)
          have HTo := Lib.hid (fun W (hW : Below w4.heap.size w4 W) => tocmd_any ⟨kd, dd, ⟨aw, at1, am⟩, ys, tk, nn, id, ws⟩ (.slice ova OT.length ovc) OT W (HCw.out.rd.below (bel_trans (bel_trans HR3.out.bel HB4.out) hW)) (by have := HL.out.1; omega) (fun x hx => (HCw.out.wr x hx).len))
          unfold cmdV at HTo
          simp only at HTo
          obtain ⟨z, hz⟩ : ∃ z, doC C ⟨kd, dd, ⟨aw, at1, am⟩, ys, tk, nn, id, ws⟩ = z := ⟨_, rfl⟩
          have Hz := Lib.hid hz
          have HDo : Hid (∀ W v' Q, Below w4.heap.size w4 W → CmdR W ⟨kd, dd, ⟨aw, at1, am⟩, ys, tk, nn, id, ws⟩ v' Q → Calls Tryz.prog 17 #[.pointer (some ⟨c, 0, none⟩), cmdV ⟨kd, dd, ⟨aw, at1, am⟩, ys, tk, nn, id, ws⟩ v'] W fun e w' => e = .returned (replyV z.1) ∧ ∃ S', Cel S' w' c z.2 (64 * k + 64) ∧ (∀ x, S' x → S x ∨ W.heap.size ≤ x) ∧ Turn S W w') := Lib.hid (fun W v' Q hW hm => by
            have := do_any ⟨kd, dd, ⟨aw, at1, am⟩, ys, tk, nn, id, ws⟩ v' Q W (HR8.out.cel.next hW) hm (by have := H60.out; omega) (by have := HR8.out.ticks; have := H60.out; omega) HCw.out.id
            rw [hz] at this
            exact this)
          obtain ⟨⟨ze, zd, zs, ⟨zw, zt, zm⟩⟩, C2⟩ := z
          unfold cmdV replyV replyA at HDo
          simp only at HDo
          clear hz
          have d0 : w4.cell? ⟨b, off + k * 10, none⟩ = some (.int .i64 kd) := (HR8.out.bel.cell (p := ⟨b, _, none⟩) hbl).trans HCc.out.1
          have d1 : w4.cell? ⟨b, off + k * 10 + 1, none⟩ = some (.int .u32 dd) := (HR8.out.bel.cell (p := ⟨b, _, none⟩) hbl).trans HCc.out.2.1
          have d2 : w4.cell? ⟨b, off + k * 10 + 2, none⟩ = some (.int .i64 aw) := (HR8.out.bel.cell (p := ⟨b, _, none⟩) hbl).trans HCc.out.2.2.1
          have d3 : w4.cell? ⟨b, off + k * 10 + 3, none⟩ = some (.int .u32 at1) := (HR8.out.bel.cell (p := ⟨b, _, none⟩) hbl).trans HCc.out.2.2.2.1
          have d4 : w4.cell? ⟨b, off + k * 10 + 4, none⟩ = some (.int .u32 am) := (HR8.out.bel.cell (p := ⟨b, _, none⟩) hbl).trans HCc.out.2.2.2.2.1
          have d5 : w4.cell? ⟨b, off + k * 10 + 5, none⟩ = some (.bool ys) := (HR8.out.bel.cell (p := ⟨b, _, none⟩) hbl).trans HCc.out.2.2.2.2.2.1
          have d6 : w4.cell? ⟨b, off + k * 10 + 6, none⟩ = some (.string tk) := (HR8.out.bel.cell (p := ⟨b, _, none⟩) hbl).trans HCc.out.2.2.2.2.2.2.1
          have d7 : w4.cell? ⟨b, off + k * 10 + 7, none⟩ = some (.int .i64 nn) := (HR8.out.bel.cell (p := ⟨b, _, none⟩) hbl).trans HCc.out.2.2.2.2.2.2.2.1
          have d8 : w4.cell? ⟨b, off + k * 10 + 8, none⟩ = some (.int .i64 id) := (HR8.out.bel.cell (p := ⟨b, _, none⟩) hbl).trans HCc.out.2.2.2.2.2.2.2.2.1
          have d9 : w4.cell? ⟨b, off + k * 10 + 9, none⟩ = some (.slice ova OT.length ovc) := (HR8.out.bel.cell (p := ⟨b, _, none⟩) hbl).trans HCc.out.2.2.2.2.2.2.2.2.2
          go_upto_region 21 with (first
            | (go_at_call 18; refine (HTo.out _ (bel_refl _)).mono ?_; rintro e w9 ⟨v', Q, rfl, hq, hpl, hb9⟩; obtain ⟨qa, qc, hqv, -⟩ := hq.open; subst hqv; have HB9 := Lib.hid hb9; have HCm := Lib.hid (to_cmdr (HCw.out.below (bel_trans HR8.out.bel hb9)) HL.out hq hpl); clear hq hpl hb9)
            | (go_at_call 17; refine (HDo.out _ _ _ HB9.out HCm.out).mono ?_; rintro e w10 ⟨rfl, S2, hc10, hS10, ht10⟩; have HC10 := Lib.hid hc10; have HS10 := Lib.hid hS10; have HT10 := Lib.hid ht10; clear hc10 hS10 ht10)
            | fail)
          clear d0 d1 d2 d3 d4 d5 d6 d7 d8 d9
          clear HLt HTo HDo
          have HR10 : Hid (Rf w w10 S2 c C2 (k + 1) g8 most most (.slice va A.length vc) A) := Lib.hid (by
            have h1 := HR8f.out.done HB9.out (m := ⟨kd, dd, ⟨aw, at1, am⟩, ys, tk, nn, id, ws⟩) (S' := S2) (W' := w10) HCw.out.ok (by rw [Hz.out]; exact HC10.out) HS10.out HT10.out
            rw [Hz.out] at h1
            exact h1)
          have HY11 := Lib.hid (Blk.new w10 #[.int .i64 ze, .int .u32 zd, .int .i64 zs, .int .i64 zw, .int .u32 zt, .int .u32 zm] 46)
          have HB11 := Lib.hid (below_alloc w10 (.cells #[.int .i64 ze, .int .u32 zd, .int .i64 zs, .int .i64 zw, .int .u32 zt, .int .u32 zm] 46))
          generalize w10.alloc (.cells #[.int .i64 ze, .int .u32 zd, .int .i64 zs, .int .i64 zw, .int .u32 zt, .int .u32 zm] 46) = w11 at HY11 HB11 ⊢
          generalize w10.heap.size = gr at HY11 ⊢
          have HR11 := Lib.hid (HR10.out.next HB11.out)
          have HFd : Hid (kd = 3 → zs = 1 → most.lt ⟨zw, zt, zm⟩) := Lib.hid (by
            have h1 := (fin_do HR8.out.cel.inv HR8f.out.fin ⟨kd, dd, ⟨aw, at1, am⟩, ys, tk, nn, id, ws⟩ HCw.out.ok).2
            rw [Hz.out] at h1
            exact h1)
          have d0 : w11.cell? ⟨b, off + k * 10, none⟩ = some (.int .i64 kd) := (HR11.out.rn.bel.cell (p := ⟨b, _, none⟩) hbl).trans HCc.out.1
          have y2 : w11.cell? ⟨gr, 2, none⟩ = some (.int .i64 zs) := HY11.out.cell 2
          go_cut [141] (fun bv wd => bv = .bool false ∧ Hid (Rf w wd S2 c C2 (k + 1) g8 most most (.slice va A.length vc) A))
          case first =>
            by_cases h3 : kd = 3
            · have e3 : (kd == 3) = true := by rw [h3]; rfl
              by_cases h1 : zs = 1
              · have e4 : (zs == 1) = true := by rw [h1]; rfl
                have HCm := Lib.hid (fun W => compare_any ⟨zw, zt, zm⟩ most W)
                unfold Tm.val at HCm
                simp only at HCm
                have q2 : decide (cmpT ⟨zw, zt, zm⟩ most ≤ 0) = false := cmpT_pos (HFd.out h3 h1)
                generalize cmpT ⟨zw, zt, zm⟩ most = zc at HCm q2
                have y3 : w11.cell? ⟨gr, 3, none⟩ = some (.int .i64 zw) := HY11.out.cell 3
                have y4 : w11.cell? ⟨gr, 4, none⟩ = some (.int .u32 zt) := HY11.out.cell 4
                have y5 : w11.cell? ⟨gr, 5, none⟩ = some (.int .u32 zm) := HY11.out.cell 5
                have m0 : w11.cell? ⟨g8, 0, none⟩ = some (.int .i64 most.wall) := HR11.out.blk.cell 0
                have m1 : w11.cell? ⟨g8, 1, none⟩ = some (.int .u32 most.tick) := HR11.out.blk.cell 1
                have m2 : w11.cell? ⟨g8, 2, none⟩ = some (.int .u32 most.mark) := HR11.out.blk.cell 2
                clear h3 h1
                go_wp2_with (first
                  | (go_at_call 26; refine (HCm.out _).mono ?_; rintro e w12 ⟨rfl, hb12⟩; have HR12 := Lib.hid (HR11.out.next hb12); clear hb12)
                  | fail)
                go_meet
                exact ⟨rfl, HR12⟩
              · have e4 : (zs == 1) = false := bne_of h1
                clear h3 h1
                go_wp2_with fail
                go_meet
                exact ⟨rfl, HR11⟩
            · have e3 : (kd == 3) = false := bne_of h3
              clear h3
              go_wp2_with fail
              go_meet
              exact ⟨rfl, HR11⟩
          case rest =>
            obtain ⟨rfl, HR12⟩ := hcut
            obtain ⟨wd, rfl⟩ : ∃ wd, wd = wc := ⟨_, rfl⟩
            clear d0 y2
            go_upto_region 24 with fail
            have HAl : Hid (A.length ≤ 40 * (k + 1)) := Lib.hid (by have := HA.out; have := H40.out; omega)
            go_loopw [144] (fun jv wq => ∃ j : Nat, j ≤ A.length ∧ jv = .int .i64 j ∧ Hid (Rf w wq S2 c C2 (k + 1) g8 most most (.slice va A.length vc) A)) (fun jv _ => A.length - (intOf jv).toNat)
            case atStart => exact ⟨0, by omega, rfl, HR12⟩
            case round =>
              obtain ⟨j, hj, rfl, HRq⟩ := hrel
              by_cases hjl : j < A.length
              · obtain ⟨s, hs⟩ : ∃ s, A[j]? = some s := ⟨A[j], List.getElem?_eq_getElem hjl⟩
                obtain ⟨a5, c5, e5, hsc⟩ := seen_cells HRq.out.row
                injection e5 with e5 _ e6
                subst e5 e6
                obtain ⟨sb, rfl, hsbl, k0, k1, k2, k3, k4, k5, k6⟩ := hsc j s hs
                have hseen := HRq.out.seen s (List.mem_of_getElem? hs)
                have hag := fin_again HRq.out.fin (List.mem_map_of_mem (List.mem_of_getElem? hs))
                obtain ⟨sa, sc, hrv, -⟩ := hseen.rd.open
                obtain ⟨-, pa, pc, hpv, -⟩ := hseen.own.rd
                have HSe := Lib.hid hseen
                have HAg := Lib.hid hag
                obtain ⟨⟨sok, sp, fr, to_, ⟨sw, st, sm⟩, spts⟩, rls, srv, spv, P⟩ := s
                simp only at k0 k1 k2 k3 k4 k5 k6 hrv hpv
                subst hrv hpv
                have HSr : Hid (RdR w (.slice sa rls.length sc) rls ∧ rls.length ≤ 3518437208883 ∧ FitR rls ∧ (sok = true ↔ RightR rls) ∧ sp = (fun d => allB rls d) ∧ P.map Pn.told = spts) := Lib.hid ⟨HSe.out.rd, HSe.out.len, HSe.out.fit, HSe.out.ok, HSe.out.p, HSe.out.told⟩
                have Hjl := Lib.hid hjl
                have hj1 : (0 : Int) ≤ (j : Int) := by omega
                have hj2 : (j : Int) < (A.length : Int) := by omega
                have hj3 : (j : Int) < 100000 := by have := HAl.out; have := H60.out; omega
                have HXs := Lib.hid (Blk.new wr #[.slice sa rls.length sc, .int .i64 fr, .int .i64 to_, .int .i64 sw, .int .u32 st, .int .u32 sm, .slice pa P.length pc] 73)
                have HBs := Lib.hid (below_alloc wr (.cells #[.slice sa rls.length sc, .int .i64 fr, .int .i64 to_, .int .i64 sw, .int .u32 st, .int .u32 sm, .slice pa P.length pc] 73))
                clear hs hsc hseen hag hjl
                go_upto_region 26 with fail
                clear k0 k1 k2 k3 k4 k5 k6
                generalize wr.alloc (.cells #[.slice sa rls.length sc, .int .i64 fr, .int .i64 to_, .int .i64 sw, .int .u32 st, .int .u32 sm, .slice pa P.length pc] 73) = w15 at HXs HBs ⊢
                generalize wr.heap.size = gs at HXs ⊢
                have HR15 := Lib.hid (HRq.out.next HBs.out)
                have HSn := Lib.hid (HSe.out.next HBs.out)
                have HTo := Lib.hid (fun W (hW : Below w15.heap.size w15 W) => rto_any2 (.slice sa rls.length sc) rls W (HSr.out.1.below (bel_trans HR15.out.rn.bel hW)) HSr.out.2.1)
                have HRe := Lib.hid (fun W (hW : Below w15.heap.size w15 W) (v : Value) (hv : RdR W v rls) => cel_read (HR15.out.rn.cel.next hW) (by have := H60.out; omega) v rls hv HSr.out.2.2.1 (HG.out.below (bel_trans HR15.out.rn.bel hW)) fr to_ ⟨sw, st, sm⟩)
                unfold Tm.val at HRe
                simp only at HRe
                have HKs : Hid (∀ W, Below w15.heap.size w15 W → W.cell? ⟨gs, 0, none⟩ = some (.slice sa rls.length sc) ∧ W.cell? ⟨gs, 1, none⟩ = some (.int .i64 fr) ∧ W.cell? ⟨gs, 2, none⟩ = some (.int .i64 to_) ∧ W.cell? ⟨gs, 3, none⟩ = some (.int .i64 sw) ∧ W.cell? ⟨gs, 4, none⟩ = some (.int .u32 st) ∧ W.cell? ⟨gs, 5, none⟩ = some (.int .u32 sm) ∧ W.cell? ⟨gs, 6, none⟩ = some (.slice pa P.length pc)) := Lib.hid (fun W hW => ⟨(HXs.out.next hW).cell 0, (HXs.out.next hW).cell 1, (HXs.out.next hW).cell 2, (HXs.out.next hW).cell 3, (HXs.out.next hW).cell 4, (HXs.out.next hW).cell 5, (HXs.out.next hW).cell 6⟩)
                obtain ⟨q0, q1, q2, q3, q4, q5, q6⟩ := HKs.out w15 (bel_refl w15)
                have hx0 := bel_refl w15
                have hgl : gs < w15.heap.size := HXs.out.lt
                go_region_held3 (fun W => W.cell? ⟨gs, 0, none⟩ = some (.slice sa rls.length sc) ∧ W.cell? ⟨gs, 1, none⟩ = some (.int .i64 fr) ∧ W.cell? ⟨gs, 2, none⟩ = some (.int .i64 to_) ∧ W.cell? ⟨gs, 3, none⟩ = some (.int .i64 sw) ∧ W.cell? ⟨gs, 4, none⟩ = some (.int .u32 st) ∧ W.cell? ⟨gs, 5, none⟩ = some (.int .u32 sm) ∧ W.cell? ⟨gs, 6, none⟩ = some (.slice pa P.length pc))
                  (first | (with_reducible exact ⟨q0, q1, q2, q3, q4, q5, q6⟩) | (with_reducible refine HKs.out _ ?_; (repeat (first | assumption | apply bel_alloc | apply bel_drew)); done) | go_keep)
                  (first
                    | (go_simp; go_at_call 21; refine (HTo.out _ (by repeat (first | exact bel_refl _ | assumption | apply bel_alloc | apply bel_drew))).mono ?_; rintro e w16 ⟨v5, rfl, hm5⟩; obtain ⟨a6, c6, hv5, -⟩ := hm5.rd.open; subst hv5; have HM5 := Lib.hid hm5.rd; have hx5 : Below w15.heap.size w15 w16 := bel_trans (by repeat (first | exact bel_refl _ | assumption | apply bel_alloc | apply bel_drew)) hm5.2.2; clear hm5)
                    | (go_simp; go_at_call 20; refine (HRe.out _ (by repeat (first | exact bel_refl _ | assumption | apply bel_alloc | apply bel_drew)) _ (HM5.out.below (by repeat (first | exact bel_refl _ | assumption | apply bel_alloc | apply bel_drew)))).mono ?_; rintro e w17 ⟨vQ, Q, er, rfl, her, hpt, htl, hb7⟩; obtain ⟨-, aQ, cQ, hvQ, -⟩ := hpt.row.rd; subst hvQ; have hx7 : Below w15.heap.size w15 w17 := bel_trans (by repeat (first | exact bel_refl _ | assumption | apply bel_alloc | apply bel_drew)) hb7; have HPt := Lib.hid hpt; have HEr := Lib.hid her; have HTl := Lib.hid htl; clear hb7 hpt her htl))
                clear q0 q1 q2 q3 q4 q5 q6 HKs hx0 hgl HTo HRe HM5
                have HR17 := Lib.hid (HR15.out.next hx7)
                have HX17 := Lib.hid (HXs.out.next hx7)
                have HS17 := Lib.hid (HSn.out.next hx7)
                go_upto_region 27 with fail
                have HErr : Hid (er = 100 ∨ (er = 0 ∧ Q.map Pn.told = P.map Pn.told)) := Lib.hid (by
                  have h1 := HEr.out sok HSr.out.2.2.2.1
                  rcases HAg.out with h2 | ⟨h2, h3⟩
                  · exact .inl (h1.trans h2)
                  · have h0 : er = 0 := h1.trans h2
                    refine .inr ⟨h0, ?_⟩
                    rw [HTl.out, if_pos h0, HSr.out.2.2.2.2.2]
                    rw [← HSr.out.2.2.2.2.1]
                    exact h3)
                by_cases h100 : er = 100
                · subst h100
                  refine wp_region_grown (by kernel_rfl) (by kernel_rfl) ?_
                  repeat (go_big_quiet_step (fail))
                  refine wpQuiet_nil ?_
                  rintro w18 ⟨⟨_, hb18⟩, rfl⟩
                  have HR18 := Lib.hid (HR17.out.next hb18)
                  clear hb18
                  go_wp2_with fail
                  go_roundw
                  case rel => exact ⟨j + 1, Hjl.out, by go_num, HR18⟩
                  case measure => have := Hjl.out; simp [intOf]; omega
                · have HE0 : Hid (er = 0 ∧ Q.map Pn.told = P.map Pn.told) := Lib.hid (HErr.out.resolve_left h100)
                  obtain rfl : er = 0 := HE0.out.1
                  have HTs : Hid (Q.map Pn.told = scanL C2.M sp fr to_ ⟨sw, st, sm⟩) := Lib.hid (by rw [HTl.out, if_pos rfl, HSr.out.2.2.2.2.1])
                  have HQr := Lib.hid (cel_told HR17.out.rn.cel HTs.out)
                  have HPo := Lib.hid (fun (W : World) (hW : Below w17.heap.size w17 W) => points_any (.slice aQ Q.length cQ) Q W (HPt.out.rd.below hW) HQr.out.1 HQr.out.2)
                  have HSp := Lib.hid (fun (W : World) (hW : Below w17.heap.size w17 W) (v' : Value) (P' : List Pn) (hv : RdN W v' P') (ht : P'.map Pn.told = P.map Pn.told) => samep_yes v' (.slice pa P.length pc) P' P W hv ((HS17.out.next hW).rdn) ht.symm)
                  clear h100
                  have HKs : Hid (∀ W, Below w17.heap.size w17 W → W.cell? ⟨gs, 0, none⟩ = some (.slice sa rls.length sc) ∧ W.cell? ⟨gs, 1, none⟩ = some (.int .i64 fr) ∧ W.cell? ⟨gs, 2, none⟩ = some (.int .i64 to_) ∧ W.cell? ⟨gs, 3, none⟩ = some (.int .i64 sw) ∧ W.cell? ⟨gs, 4, none⟩ = some (.int .u32 st) ∧ W.cell? ⟨gs, 5, none⟩ = some (.int .u32 sm) ∧ W.cell? ⟨gs, 6, none⟩ = some (.slice pa P.length pc)) := Lib.hid (fun W hW => ⟨(HX17.out.next hW).cell 0, (HX17.out.next hW).cell 1, (HX17.out.next hW).cell 2, (HX17.out.next hW).cell 3, (HX17.out.next hW).cell 4, (HX17.out.next hW).cell 5, (HX17.out.next hW).cell 6⟩)
                  obtain ⟨q0, q1, q2, q3, q4, q5, q6⟩ := HKs.out w17 (bel_refl w17)
                  have hx0 := bel_refl w17
                  have hgl : gs < w17.heap.size := HX17.out.lt
                  refine wp_region_noPanic ?_
                  refine wp_region_held_drew (S := (fun W => W.cell? ⟨gs, 0, none⟩ = some (.slice sa rls.length sc) ∧ W.cell? ⟨gs, 1, none⟩ = some (.int .i64 fr) ∧ W.cell? ⟨gs, 2, none⟩ = some (.int .i64 to_) ∧ W.cell? ⟨gs, 3, none⟩ = some (.int .i64 sw) ∧ W.cell? ⟨gs, 4, none⟩ = some (.int .u32 st) ∧ W.cell? ⟨gs, 5, none⟩ = some (.int .u32 sm) ∧ W.cell? ⟨gs, 6, none⟩ = some (.slice pa P.length pc))) (by kernel_rfl) ?hS0 (fun hHeld => ?_)
                  case hS0 => (try dsimp only); (first | (with_reducible exact ⟨q0, q1, q2, q3, q4, q5, q6⟩) | (with_reducible refine HKs.out _ ?_; (repeat (first | assumption | apply bel_alloc | apply bel_drew)); done) | go_keep)
                  refine wpAnyH_take (i := 0) (oi := ?o0) (v := ?v0) ?hi0 (by kernel_rfl) (by kernel_rfl) (by kernel_rfl) (fun _ _ _ h => h) (Or.inl ⟨?hw0, ?hy0⟩) (by assumption) ?rest0
                  case hi0 => (simp only [List.getElem?_toArray, List.getElem?_cons_succ, List.getElem?_cons_zero]; rfl)
                  case hw0 => rfl
                  case hy0 => (intro w hSw; (try dsimp only at hSw); go_simp; try (with_reducible rfl))
                  try simp only [Act.put, List.setIfInBounds_toArray, List.set_cons_zero, List.set_cons_succ]
                  refine wpAnyH_take (i := 1) (oi := ?o1) (v := ?v1) ?hi1 (by kernel_rfl) (by kernel_rfl) (by kernel_rfl) (fun _ _ _ h => h) (Or.inl ⟨?hw1, ?hy1⟩) (by assumption) ?rest1
                  case hi1 => (simp only [List.getElem?_toArray, List.getElem?_cons_succ, List.getElem?_cons_zero]; rfl)
                  case hw1 => rfl
                  case hy1 => (intro w hSw; (try dsimp only at hSw); go_simp; try (with_reducible rfl))
                  try simp only [Act.put, List.setIfInBounds_toArray, List.set_cons_zero, List.set_cons_succ]
                  refine wpAnyH_take (i := 2) (oi := ?o2) (v := ?v2) ?hi2 (by kernel_rfl) (by kernel_rfl) (by kernel_rfl) (fun _ _ _ h => h) (Or.inl ⟨?hw2, ?hy2⟩) (by assumption) ?rest2
                  case hi2 => (simp only [List.getElem?_toArray, List.getElem?_cons_succ, List.getElem?_cons_zero]; rfl)
                  case hw2 => rfl
                  case hy2 => (intro w hSw; (try dsimp only at hSw); go_simp; try (with_reducible rfl))
                  try simp only [Act.put, List.setIfInBounds_toArray, List.set_cons_zero, List.set_cons_succ]
                  refine wpAnyH_ready (rs := [3]) (by kernel_rfl) (by simp) ?_
                  refine AllReadyH.cons rfl (fun K hK => ?_) AllReadyH.nil
                  go_simp
                  refine hK.out _ _ ?hS3 (fun hHeld2 => ?_)
                  case hS3 => (try dsimp only); (first | (with_reducible exact ⟨q0, q1, q2, q3, q4, q5, q6⟩) | (with_reducible refine HKs.out _ ?_; (repeat (first | assumption | apply bel_alloc | apply bel_drew)); done) | go_keep)
                  clear hK K
                  try simp only [Act.put, List.setIfInBounds_toArray, List.set_cons_zero, List.set_cons_succ]
                  refine wpAnyH_ready (rs := [4]) (by kernel_rfl) (by simp) ?_
                  refine AllReadyH.cons rfl (fun K hK => ?_) AllReadyH.nil
                  go_simp
                  refine hK.out _ _ ?hS4 (fun hHeld2 => ?_)
                  case hS4 => (try dsimp only); (first | (with_reducible exact ⟨q0, q1, q2, q3, q4, q5, q6⟩) | (with_reducible refine HKs.out _ ?_; (repeat (first | assumption | apply bel_alloc | apply bel_drew)); done) | go_keep)
                  clear hK K
                  try simp only [Act.put, List.setIfInBounds_toArray, List.set_cons_zero, List.set_cons_succ]
                  refine wpAnyH_take (i := 5) (oi := ?o5) (v := ?v5) ?hi5 (by kernel_rfl) (by kernel_rfl) (by kernel_rfl) (fun _ _ _ h => h) (Or.inl ⟨?hw5, ?hy5⟩) (by assumption) ?rest5
                  case hi5 => (simp only [List.getElem?_toArray, List.getElem?_cons_succ, List.getElem?_cons_zero]; rfl)
                  case hw5 => rfl
                  case hy5 => (intro w hSw; (try dsimp only at hSw); go_simp; try (with_reducible rfl))
                  try simp only [Act.put, List.setIfInBounds_toArray, List.set_cons_zero, List.set_cons_succ]
                  refine wpAnyH_take (i := 6) (oi := ?o6) (v := ?v6) ?hi6 (by kernel_rfl) (by kernel_rfl) (by kernel_rfl) (fun _ _ _ h => h) (Or.inl ⟨?hw6, ?hy6⟩) (by assumption) ?rest6
                  case hi6 => (simp only [List.getElem?_toArray, List.getElem?_cons_succ, List.getElem?_cons_zero]; rfl)
                  case hw6 => rfl
                  case hy6 => (intro w hSw; (try dsimp only at hSw); go_simp; try (with_reducible rfl))
                  try simp only [Act.put, List.setIfInBounds_toArray, List.set_cons_zero, List.set_cons_succ]
                  refine wpAnyH_take (i := 7) (oi := ?o7) (v := ?v7) ?hi7 (by kernel_rfl) (by kernel_rfl) (by kernel_rfl) (fun _ _ _ h => h) (Or.inl ⟨?hw7, ?hy7⟩) (by assumption) ?rest7
                  case hi7 => (simp only [List.getElem?_toArray, List.getElem?_cons_succ, List.getElem?_cons_zero]; rfl)
                  case hw7 => rfl
                  case hy7 => (intro w hSw; (try dsimp only at hSw); go_simp; try (with_reducible rfl))
                  try simp only [Act.put, List.setIfInBounds_toArray, List.set_cons_zero, List.set_cons_succ]
                  refine wpAnyH_take (i := 8) (oi := ?o8) (v := ?v8) ?hi8 (by kernel_rfl) (by kernel_rfl) (by kernel_rfl) (fun _ _ _ h => h) (Or.inl ⟨?hw8, ?hy8⟩) (by assumption) ?rest8
                  case hi8 => (simp only [List.getElem?_toArray, List.getElem?_cons_succ, List.getElem?_cons_zero]; rfl)
                  case hw8 => rfl
                  case hy8 => (intro w hSw; (try dsimp only at hSw); go_simp; try (with_reducible rfl))
                  try simp only [Act.put, List.setIfInBounds_toArray, List.set_cons_zero, List.set_cons_succ]
                  refine wpAnyH_take (i := 9) (oi := ?o9) (v := ?v9) ?hi9 (by kernel_rfl) (by kernel_rfl) (by kernel_rfl) (fun _ _ _ h => h) (Or.inl ⟨?hw9, ?hy9⟩) (by assumption) ?rest9
                  case hi9 => (simp only [List.getElem?_toArray, List.getElem?_cons_succ, List.getElem?_cons_zero]; rfl)
                  case hw9 => rfl
                  case hy9 => (intro w hSw; (try dsimp only at hSw); go_simp; try (with_reducible rfl))
                  try simp only [Act.put, List.setIfInBounds_toArray, List.set_cons_zero, List.set_cons_succ]
                  refine wpAnyH_take (i := 10) (oi := ?o10) (v := ?v10) ?hi10 (by kernel_rfl) (by kernel_rfl) (by kernel_rfl) (fun _ _ _ h => h) (Or.inl ⟨?hw10, ?hy10⟩) (by assumption) ?rest10
                  case hi10 => (simp only [List.getElem?_toArray, List.getElem?_cons_succ, List.getElem?_cons_zero]; rfl)
                  case hw10 => rfl
                  case hy10 => (intro w hSw; (try dsimp only at hSw); go_simp; try (with_reducible rfl))
                  try simp only [Act.put, List.setIfInBounds_toArray, List.set_cons_zero, List.set_cons_succ]
                  refine wpAnyH_take (i := 12) (oi := ?o12) (v := ?v12) ?hi12 (by kernel_rfl) (by kernel_rfl) (by kernel_rfl) (fun _ _ _ h => h) (Or.inl ⟨?hw12, ?hy12⟩) (by assumption) ?rest12
                  case hi12 => (simp only [List.getElem?_toArray, List.getElem?_cons_succ, List.getElem?_cons_zero]; rfl)
                  case hw12 => rfl
                  case hy12 => (intro w hSw; (try dsimp only at hSw); go_simp; try (with_reducible rfl))
                  try simp only [Act.put, List.setIfInBounds_toArray, List.set_cons_zero, List.set_cons_succ]
                  refine wpAnyH_take (i := 13) (oi := ?o13) (v := ?v13) ?hi13 (by kernel_rfl) (by kernel_rfl) (by kernel_rfl) (fun _ _ _ h => h) (Or.inl ⟨?hw13, ?hy13⟩) (by assumption) ?rest13
                  case hi13 => (simp only [List.getElem?_toArray, List.getElem?_cons_succ, List.getElem?_cons_zero]; rfl)
                  case hw13 => rfl
                  case hy13 => (intro w hSw; (try dsimp only at hSw); go_simp; try (with_reducible rfl))
                  try simp only [Act.put, List.setIfInBounds_toArray, List.set_cons_zero, List.set_cons_succ]
                  refine wpAnyH_ready (rs := [11]) (by kernel_rfl) (by simp) ?_
                  refine AllReadyH.cons rfl (fun K hK => ?_) AllReadyH.nil
                  go_simp
                  (go_at_call 25; refine (HPo.out _ (by repeat (first | exact bel_refl _ | assumption | apply bel_alloc | apply bel_drew))).mono ?_; rintro e w18 ⟨vP, P', rfl, hp9, ht9⟩; obtain ⟨-, aP, cP, hvP, -⟩ := hp9.row.rd; subst hvP; have hx8 : Below w17.heap.size w17 w18 := bel_trans (by repeat (first | exact bel_refl _ | assumption | apply bel_alloc | apply bel_drew)) hp9.bel; have HP9 := Lib.hid hp9; have HT9 := Lib.hid (ht9.trans HE0.out.2); clear hp9 ht9)
                  try go_wp2_with fail
                  refine hK.out _ _ ?hS11 (fun hHeld2 => ?_)
                  case hS11 => (try dsimp only); (first | (with_reducible exact ⟨q0, q1, q2, q3, q4, q5, q6⟩) | (with_reducible refine HKs.out _ ?_; (repeat (first | assumption | apply bel_alloc | apply bel_drew)); done) | go_keep)
                  clear hK K
                  try simp only [Act.put, List.setIfInBounds_toArray, List.set_cons_zero, List.set_cons_succ]
                  refine wpAnyH_ready (rs := [14]) (by kernel_rfl) (by simp) ?_
                  refine AllReadyH.cons rfl (fun K hK => ?_) AllReadyH.nil
                  go_simp
                  (go_at_call 24; refine (HSp.out _ (by repeat (first | exact bel_refl _ | assumption | apply bel_alloc | apply bel_drew)) _ _ (HP9.out.rd.below (by repeat (first | exact bel_refl _ | assumption | apply bel_alloc | apply bel_drew))) HT9.out).mono ?_; rintro e w19 ⟨rfl, hb9⟩; have hx9 : Below w17.heap.size w17 w19 := bel_trans (by repeat (first | exact bel_refl _ | assumption | apply bel_alloc | apply bel_drew)) hb9; clear hb9)
                  try go_wp2_with fail
                  refine hK.out _ _ ?hS14 (fun hHeld2 => ?_)
                  case hS14 => (try dsimp only); (first | (with_reducible exact ⟨q0, q1, q2, q3, q4, q5, q6⟩) | (with_reducible refine HKs.out _ ?_; (repeat (first | assumption | apply bel_alloc | apply bel_drew)); done) | go_keep)
                  clear hK K
                  try simp only [Act.put, List.setIfInBounds_toArray, List.set_cons_zero, List.set_cons_succ]
                  refine wpAnyH_take (i := 15) (oi := ?o15) (v := ?v15) ?hi15 (by kernel_rfl) (by kernel_rfl) (by kernel_rfl) (fun _ _ _ h => h) (Or.inl ⟨?hw15, ?hy15⟩) (by assumption) ?rest15
                  case hi15 => (simp only [List.getElem?_toArray, List.getElem?_cons_succ, List.getElem?_cons_zero]; rfl)
                  case hw15 => rfl
                  case hy15 => (intro w hSw; (try dsimp only at hSw); go_simp; try (with_reducible rfl))
                  try simp only [Act.put, List.setIfInBounds_toArray, List.set_cons_zero, List.set_cons_succ]
                  refine wpAnyH_take (i := 16) (oi := ?o16) (v := ?v16) ?hi16 (by kernel_rfl) (by kernel_rfl) (by kernel_rfl) (fun _ _ _ h => h) (Or.inl ⟨?hw16, ?hy16⟩) (by assumption) ?rest16
                  case hi16 => (simp only [List.getElem?_toArray, List.getElem?_cons_succ, List.getElem?_cons_zero]; rfl)
                  case hw16 => rfl
                  case hy16 => (intro w hSw; (try dsimp only at hSw); go_simp; try (with_reducible rfl))
                  try simp only [Act.put, List.setIfInBounds_toArray, List.set_cons_zero, List.set_cons_succ]
                  refine wpAnyH_take (i := 17) (oi := ?o17) (v := ?v17) ?hi17 (by kernel_rfl) (by kernel_rfl) (by kernel_rfl) (fun _ _ _ h => h) (Or.inl ⟨?hw17, ?hy17⟩) (by assumption) ?rest17
                  case hi17 => (simp only [List.getElem?_toArray, List.getElem?_cons_succ, List.getElem?_cons_zero]; rfl)
                  case hw17 => rfl
                  case hy17 => (intro w hSw; (try dsimp only at hSw); go_simp; try (with_reducible rfl))
                  try simp only [Act.put, List.setIfInBounds_toArray, List.set_cons_zero, List.set_cons_succ]
                  refine wpAnyH_done (by kernel_rfl) ?_ _
                  refine NoPanic.normal ?_
                  have HR19 := Lib.hid (HR17.out.next hx9)
                  clear q0 q1 q2 q3 q4 q5 q6 HKs hx0 hgl
                  go_wp2_with fail
                  go_roundw
                  case rel => exact ⟨j + 1, Hjl.out, by go_num, HR19⟩
                  case measure => have := Hjl.out; simp [intOf]; omega
              · obtain rfl : j = A.length := by omega
                go_wp2_with fail
                go_roundw
                case rel => exact ⟨k + 1, S2, C2, most, A, by have := Hlt.out; omega, by go_num, by have := H60k.out; omega, HAl.out, HRq⟩
                case measure => have := Hlt.out; simp [intOf]; omega
        · go_wp2_with (first
            | (go_at_call 16; refine HLt.out.mono ?_; rintro e w4 ⟨hs4, hb4⟩; obtain ⟨z, rfl, hz⟩ := says_out hs4; have hzf : z = false := (by cases z with | false => rfl | true => exact absurd (hz.1 rfl) hl); subst hzf; have HB4 := Lib.hid hb4; clear hs4 hz hb4)
            | fail)
          go_ret
          exact ⟨rfl, bel_trans HB0.out HB4.out⟩
end Go.Proofs.YtbaflgddpciadaaGreat
