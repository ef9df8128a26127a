/- CellBatches (6). -/
import Derived.ChangeMaps5
import Derived.Test.YtbaflgddpciadaaGreatFA
set_option linter.unusedVariables false
set_option linter.unusedSimpArgs false
namespace Go.Proofs.YtbaflgddpciadaaGreat
open Go.RowKit Go.Kt Go.Ix Go.Sx Go.Cx Go.ChangeShapes Go.WideShapes
set_option maxRecDepth 100000
set_option maxHeartbeats 8000000 in
theorem tocmd_big (m : Cmd) (v : Value) (T : List Wr) (w : World) (hv : RdW w v T) (hlen : T.length ≤ 2199023255552) (hs : ∀ x ∈ T, x.st.length ≤ 4398046511104) :
    Calls Tryz.prog 18 #[cmdV m v] w fun e w' => ∃ v' Q, e = .returned (cmdV m v') ∧ RdW w' v' Q ∧ Q.map Wr.pl = T.map Wr.pl ∧ Below w.heap.size w w' := by
  obtain ⟨kd, dd, ⟨aw, at1, am⟩, ys, tk, nn, id, ws⟩ := m
  obtain ⟨va, vc, rfl, hcap, hbig, hcell⟩ := hv.open
  have Hcell := Lib.hid hcell
  have HV := Lib.hid hv
  have HLs := Lib.hid hs
  have HLn := Lib.hid hlen
  unfold cmdV
  simp only
  have HX := Lib.hid ((Blk.new w #[.int .i64 kd, .int .u32 dd, .int .i64 aw, .int .u32 at1, .int .u32 am, .bool ys, .string tk, .int .i64 nn, .int .i64 id, .slice va T.length vc] 42).next (below_alloc _ (.cells #[.int .i64 0, .int .u32 0, .int .i64 0, .int .u32 0, .int .u32 0, .bool false, .string ⟨#[]⟩, .int .i64 0, .int .i64 0, .slice none 0 0] 50)))
  have HY := Lib.hid (Blk.new (w.alloc (.cells #[.int .i64 kd, .int .u32 dd, .int .i64 aw, .int .u32 at1, .int .u32 am, .bool ys, .string tk, .int .i64 nn, .int .i64 id, .slice va T.length vc] 42)) #[.int .i64 0, .int .u32 0, .int .i64 0, .int .u32 0, .int .u32 0, .bool false, .string ⟨#[]⟩, .int .i64 0, .int .i64 0, .slice none 0 0] 50)
  have HB1 := Lib.hid (bel_alloc (o := .cells #[.int .i64 0, .int .u32 0, .int .i64 0, .int .u32 0, .int .u32 0, .bool false, .string ⟨#[]⟩, .int .i64 0, .int .i64 0, .slice none 0 0] 50) (below_alloc w (.cells #[.int .i64 kd, .int .u32 dd, .int .i64 aw, .int .u32 at1, .int .u32 am, .bool ys, .string tk, .int .i64 nn, .int .i64 id, .slice va T.length vc] 42)))
  rw [World.size_alloc] at HY
  clear hcell hv hs hlen
  go_enter Tryz.func18, Tryz.ntmps18
  go_upto_region 1 with fail
  generalize (w.alloc (.cells #[.int .i64 kd, .int .u32 dd, .int .i64 aw, .int .u32 at1, .int .u32 am, .bool ys, .string tk, .int .i64 nn, .int .i64 id, .slice va T.length vc] 42)).alloc (.cells #[.int .i64 0, .int .u32 0, .int .i64 0, .int .u32 0, .int .u32 0, .bool false, .string ⟨#[]⟩, .int .i64 0, .int .i64 0, .slice none 0 0] 50) = w1 at HX HY HB1 ⊢
  generalize hg : w.heap.size = g at HX HY ⊢
  have HT1 := Lib.hid (fun W => to_any1 ⟨aw, at1, am⟩ W)
  unfold Tm.val at HT1
  simp only at HT1
  have hgl : g < w1.heap.size := HX.out.lt
  have HKs : Hid (∀ W, Below w1.heap.size w1 W → W.cell? ⟨g, 0, none⟩ = some (.int .i64 kd) ∧ W.cell? ⟨g, 1, none⟩ = some (.int .u32 dd) ∧ W.cell? ⟨g, 2, none⟩ = some (.int .i64 aw) ∧ W.cell? ⟨g, 3, none⟩ = some (.int .u32 at1) ∧ W.cell? ⟨g, 4, none⟩ = some (.int .u32 am) ∧ W.cell? ⟨g, 5, none⟩ = some (.bool ys) ∧ W.cell? ⟨g, 6, none⟩ = some (.string tk) ∧ W.cell? ⟨g, 7, none⟩ = some (.int .i64 nn) ∧ W.cell? ⟨g, 8, none⟩ = some (.int .i64 id)) := Lib.hid (fun W hW => ⟨(HX.out.next hW).cell 0, (HX.out.next hW).cell 1, (HX.out.next hW).cell 2, (HX.out.next hW).cell 3, (HX.out.next hW).cell 4, (HX.out.next hW).cell 5, (HX.out.next hW).cell 6, (HX.out.next hW).cell 7, (HX.out.next hW).cell 8⟩)
  obtain ⟨q0, q1, q2, q3, q4, q5, q6, q7, q8⟩ := HKs.out w1 (bel_refl w1)
  go_cut [3] (fun pv wd => ∃ b, pv = .pointer (some ⟨b, 0, none⟩) ∧ Hid (Blk wd b #[.int .i64 kd, .int .u32 dd, .int .i64 aw, .int .u32 at1, .int .u32 am, .bool ys, .string tk, .int .i64 nn, .int .i64 id, .slice none 0 0] 50 ∧ w1.heap.size ≤ b ∧ Below w1.heap.size w1 wd))
  case first =>
    go_region_held3 (fun W => W.cell? ⟨g, 0, none⟩ = some (.int .i64 kd) ∧ W.cell? ⟨g, 1, none⟩ = some (.int .u32 dd) ∧ W.cell? ⟨g, 2, none⟩ = some (.int .i64 aw) ∧ W.cell? ⟨g, 3, none⟩ = some (.int .u32 at1) ∧ W.cell? ⟨g, 4, none⟩ = some (.int .u32 am) ∧ W.cell? ⟨g, 5, none⟩ = some (.bool ys) ∧ W.cell? ⟨g, 6, none⟩ = some (.string tk) ∧ W.cell? ⟨g, 7, none⟩ = some (.int .i64 nn) ∧ W.cell? ⟨g, 8, none⟩ = some (.int .i64 id))
      (first | (with_reducible exact ⟨q0, q1, q2, q3, q4, q5, q6, q7, q8⟩) | (with_reducible refine HKs.out _ ?_; (repeat (first | assumption | apply bel_alloc | apply bel_drew | refine bel_set ?_ (Nat.le_refl _))); done) | go_keep)
      (first
        | (go_simp; go_at_call 22; refine (HT1.out _).mono ?_; rintro e w5 ⟨rfl, hb5⟩; have hx5 : Below w1.heap.size w1 w5 := bel_trans (by repeat (first | exact bel_refl _ | assumption | apply bel_alloc | apply bel_drew)) hb5; have hgl5 : g < w5.heap.size := Nat.lt_of_lt_of_le hgl hx5.size; have hmf : Blk w5 w1.heap.size #[.int .i64 0, .int .u32 0, .int .i64 0, .int .u32 0, .int .u32 0, .bool false, .string ⟨#[]⟩, .int .i64 0, .int .i64 0, .slice none 0 0] 50 := Blk.next (by first | exact new_drew _ _ _ | exact drew_new _ _ _ | exact Blk.new _ _ _) hb5; have s0 : w5.cell? ⟨w1.heap.size, 0, none⟩ = some (.int .i64 0) := hmf.cell 0; have t0 : w5.frozen? ⟨w1.heap.size, 0, none⟩ = false := hmf.free 0; have s1 : w5.cell? ⟨w1.heap.size, 1, none⟩ = some (.int .u32 0) := hmf.cell 1; have t1 : w5.frozen? ⟨w1.heap.size, 1, none⟩ = false := hmf.free 1; have s2 : w5.cell? ⟨w1.heap.size, 2, none⟩ = some (.int .i64 0) := hmf.cell 2; have t2 : w5.frozen? ⟨w1.heap.size, 2, none⟩ = false := hmf.free 2; have s3 : w5.cell? ⟨w1.heap.size, 3, none⟩ = some (.int .u32 0) := hmf.cell 3; have t3 : w5.frozen? ⟨w1.heap.size, 3, none⟩ = false := hmf.free 3; have s4 : w5.cell? ⟨w1.heap.size, 4, none⟩ = some (.int .u32 0) := hmf.cell 4; have t4 : w5.frozen? ⟨w1.heap.size, 4, none⟩ = false := hmf.free 4; have s5 : w5.cell? ⟨w1.heap.size, 5, none⟩ = some (.bool false) := hmf.cell 5; have t5 : w5.frozen? ⟨w1.heap.size, 5, none⟩ = false := hmf.free 5; have s6 : w5.cell? ⟨w1.heap.size, 6, none⟩ = some (.string ⟨#[]⟩) := hmf.cell 6; have t6 : w5.frozen? ⟨w1.heap.size, 6, none⟩ = false := hmf.free 6; have s7 : w5.cell? ⟨w1.heap.size, 7, none⟩ = some (.int .i64 0) := hmf.cell 7; have t7 : w5.frozen? ⟨w1.heap.size, 7, none⟩ = false := hmf.free 7; have s8 : w5.cell? ⟨w1.heap.size, 8, none⟩ = some (.int .i64 0) := hmf.cell 8; have t8 : w5.frozen? ⟨w1.heap.size, 8, none⟩ = false := hmf.free 8; have s9 : w5.cell? ⟨w1.heap.size, 9, none⟩ = some (.slice none 0 0) := hmf.cell 9; have t9 : w5.frozen? ⟨w1.heap.size, 9, none⟩ = false := hmf.free 9; have HMf := Lib.hid hmf; clear hb5 hmf)
        | (go_simp; go_at_call 22; refine (HT1.out _).mono ?_; rintro e w5 ⟨rfl, hb5⟩; have hx5 : Below w1.heap.size w1 w5 := bel_trans (by repeat (first | exact bel_refl _ | assumption | apply bel_alloc | apply bel_drew)) hb5; have hgl5 : g < w5.heap.size := Nat.lt_of_lt_of_le hgl hx5.size; clear hb5))
    all_goals go_wp2_with fail
    all_goals go_meet
    · exact ⟨_, rfl, Lib.hid ⟨Blk.new _ _ _, hx5.size, bel_alloc hx5⟩⟩
    · exact ⟨_, rfl, Lib.hid ⟨set10 HMf.out _ _ _ _ _ _ _ _ _ _, Nat.le_refl _, bel10 hx5 (Nat.le_refl _)⟩⟩
  case rest =>
    obtain ⟨b9, rfl, HQ⟩ := hcut
    obtain ⟨wd, rfl⟩ : ∃ wd, wd = wc := ⟨_, rfl⟩
    have hwb : w.heap.size ≤ b9 := Nat.le_trans HB1.out.size HQ.out.2.1
    have hgb : g ≠ b9 := by have := HQ.out.2.1; omega
    have hgb1 : g + 1 ≠ b9 := by have := HQ.out.2.1; have := HY.out.lt; omega
    have HBd := Lib.hid HQ.out.2.2
    have HM0 : Hid (Mk w wd b9 #[.int .i64 kd, .int .u32 dd, .int .i64 aw, .int .u32 at1, .int .u32 am, .bool ys, .string tk, .int .i64 nn, .int .i64 id, .slice none 0 0] (.slice none 0 0) [] T 0) := Lib.hid ⟨HQ.out.1, own_nil _ _ _, (fun x h => by cases h), (fun x h => by cases h), rfl, rfl, bel_trans HB1.out HQ.out.2.2⟩
    have HY0 := Lib.hid (HY.out.next HBd.out)
    have x9 : wd.cell? ⟨g, 9, none⟩ = some (.slice va T.length vc) := (HX.out.next HBd.out).cell 9
    clear HQ q0 q1 q2 q3 q4 q5 q6 q7 q8 HKs hgl HT1
    go_upto_region 3 with fail
    clear x9
    go_loopw [25] (fun i wr => ∃ (k : Nat) (Q : List Wr) (v : Value), k ≤ T.length ∧ i = .int .i64 k ∧ Hid (Mk w wr b9 #[.int .i64 kd, .int .u32 dd, .int .i64 aw, .int .u32 at1, .int .u32 am, .bool ys, .string tk, .int .i64 nn, .int .i64 id, v] v Q T k) ∧ Hid (Blk wr (g + 1) #[.int .i64 0, .int .u32 0, .int .i64 0, .int .u32 0, .int .u32 0, .bool false, .string ⟨#[]⟩, .int .i64 0, .int .i64 0, .slice none 0 0] 50)) (fun i _ => T.length - (intOf i).toNat)
    case atStart => exact ⟨0, _, _, by omega, rfl, HM0, HY0⟩
    case round =>
      clear HM0 HY0
      obtain ⟨k, Q, v, hk, rfl, HM, HYr⟩ := hrel
      obtain ⟨-, qa, qc, rfl, -⟩ := HM.out.own.rd
      have HBw : Hid (Below w.heap.size w wr) := Lib.hid HM.out.bel
      by_cases hlt : k < T.length
      · skip
        obtain ⟨x, hx⟩ : ∃ x, T[k]? = some x := ⟨T[k], List.getElem?_eq_getElem hlt⟩
        obtain ⟨b, o, rfl, hbl, c0, c1, c2, c3, c4⟩ := Hcell.out k x hx
        have hrd := HV.out.2 x (List.mem_of_getElem? hx)
        obtain ⟨sa, sc, hsv, -⟩ := hrd.open
        have Hx := Lib.hid hx
        have Hrd := Lib.hid hrd
        obtain ⟨st, xt, xk, xn, xx, sv⟩ := x
        simp only at c0 c1 c2 c3 c4 hsv hrd
        subst hsv
        have d0 : wr.cell? ⟨b, o + k * 5, none⟩ = some (.slice sa st.length sc) := (HBw.out.cell (p := ⟨b, _, none⟩) hbl).trans c0
        have d1 : wr.cell? ⟨b, o + k * 5 + 1, none⟩ = some (.int .i64 xt) := (HBw.out.cell (p := ⟨b, _, none⟩) hbl).trans c1
        have d2 : wr.cell? ⟨b, o + k * 5 + 2, none⟩ = some (.int .i64 xk) := (HBw.out.cell (p := ⟨b, _, none⟩) hbl).trans c2
        have d3 : wr.cell? ⟨b, o + k * 5 + 3, none⟩ = some (.int .i64 xn) := (HBw.out.cell (p := ⟨b, _, none⟩) hbl).trans c3
        have d4 : wr.cell? ⟨b, o + k * 5 + 4, none⟩ = some (.string xx) := (HBw.out.cell (p := ⟨b, _, none⟩) hbl).trans c4
        have hk1 : (0 : Int) ≤ (k : Int) := by omega
        have hk2 : (k : Int) < (T.length : Int) := by omega
        have Hlt := Lib.hid hlt
        clear c0 c1 c2 c3 c4 hx hrd
        have HX5' := Lib.hid (Blk.new wr #[.slice sa st.length sc, .int .i64 xt, .int .i64 xk, .int .i64 xn, .string xx] 145)
        have HBx := Lib.hid (below_alloc wr (.cells #[.slice sa st.length sc, .int .i64 xt, .int .i64 xk, .int .i64 xn, .string xx] 145))
        have HLk : Hid (st.length ≤ 4398046511104) := Lib.hid (HLs.out _ (List.mem_of_getElem? Hx.out))
        go_upto_region 5 with fail
        clear d0 d1 d2 d3 d4
        generalize wr.alloc (.cells #[.slice sa st.length sc, .int .i64 xt, .int .i64 xk, .int .i64 xn, .string xx] 145) = w3 at HX5' HBx ⊢
        generalize wr.heap.size = g5 at HX5' ⊢
        have HX5 := HX5'
        have HMw := Lib.hid (HM.out.next HBx.out)
        have HYw := Lib.hid (HYr.out.next HBx.out)
        have HB3 := Lib.hid (bel_trans HBw.out HBx.out)
        have HTo : Hid (∀ W, Below w3.heap.size w3 W → Calls Tryz.prog 61 #[.agg #[.slice sa st.length sc, .int .i64 xt, .int .i64 xk, .int .i64 xn, .string xx]] W fun e w' => ∃ v3, e = .returned (.agg #[v3, .int .i64 xt, .int .i64 xk, .int .i64 xn, .string xx]) ∧ OwnP 104 w' v3 st ∧ Below W.heap.size W w') := Lib.hid (fun W hW => (wto_any ⟨st, xt, xk, xn, xx, .slice sa st.length sc⟩ W (Hrd.out.below (bel_trans HB3.out hW)) HLk.out).mono (fun e w' ⟨v3, h1, h2, h3⟩ => ⟨v3, h1, h2, h3⟩))
        have hbl9 : b9 < w3.heap.size := HMw.out.blk.lt
        have hgl5 : g5 < w3.heap.size := HX5.out.lt
        have HKs : Hid (∀ W, Below w3.heap.size w3 W → W.cell? ⟨b9, 9, none⟩ = some (.slice qa Q.length qc) ∧ W.cell? ⟨g5, 0, none⟩ = some (.slice sa st.length sc) ∧ W.cell? ⟨g5, 1, none⟩ = some (.int .i64 xt) ∧ W.cell? ⟨g5, 2, none⟩ = some (.int .i64 xk) ∧ W.cell? ⟨g5, 3, none⟩ = some (.int .i64 xn) ∧ W.cell? ⟨g5, 4, none⟩ = some (.string xx)) := Lib.hid (fun W hW => ⟨(HMw.out.blk.next hW).cell 9, (HX5.out.next hW).cell 0, (HX5.out.next hW).cell 1, (HX5.out.next hW).cell 2, (HX5.out.next hW).cell 3, (HX5.out.next hW).cell 4⟩)
        obtain ⟨p0, p1, p2, p3, p4, p5⟩ := HKs.out w3 (bel_refl w3)
        have hx0 := bel_refl w3
        have HQl : Hid (Q.length + 1 ≤ 2199023255552) := Lib.hid (by have := HM.out.len; have := Hlt.out; have := HLn.out; omega)
        have hb95 : b9 ≠ g5 := fun e => by have h1 := HMw.out.blk; have h2 := HX5.out; rw [e] at h1; unfold Blk at h1 h2; rw [h2] at h1; cases h1
        go_region_law
          (first
            | (refine step_app (by rfl) _ _ 48 (by rfl) ok48 (by rfl) (by rfl) (HMw.out.own.below' (by repeat (first | exact bel_refl _ | assumption | apply bel_alloc | apply bel_drew))) (own_lit_at (g := _) 87 5 #[.slice a3 st.length c3, .int .i64 xt, .int .i64 xk, .int .i64 xn, .string xx] 1 (by simp [maxLen]) rfl (by simp)).rd (w5_one _ _ _ _ _ rfl) (by have := HQl.out; simp only [maxLen]; omega) (by have := HQl.out; omega) ?_; intro v7 w7 ho7 hg7 hn7; obtain ⟨-, a7, c7, rfl, -⟩ := ho7.rd; have hm7 := HMw.out.push (sv := .slice a3 st.length c3) Hx.out (Own.below' HO3.out (by repeat (first | exact bel_refl _ | assumption | apply bel_alloc | apply bel_drew))) (by repeat (first | exact bel_refl _ | assumption | apply bel_alloc | apply bel_drew)) hwb ho7 hg7 hn7; have hB7 := ((HMw.out.next (by repeat (first | exact bel_refl _ | assumption | apply bel_alloc | apply bel_drew))).blk).grown hg7 (own_no_blk (HMw.out.next (by repeat (first | exact bel_refl _ | assumption | apply bel_alloc | apply bel_drew))).own (HMw.out.next (by repeat (first | exact bel_refl _ | assumption | apply bel_alloc | apply bel_drew))).blk (by decide)); have k9 : w7.cell? ⟨b9, 9, none⟩ = some (.slice qa Q.length qc) := hB7.cell 9; have f9 : w7.frozen? ⟨b9, 9, none⟩ = false := hB7.free 9; have HM7 := Lib.hid hm7; have HY7 := Lib.hid ((HYw.out.next (show Below w3.heap.size w3 _ from (by repeat (first | exact bel_refl _ | assumption | apply bel_alloc | apply bel_drew)))).grown hg7 (own_no_blk (HMw.out.next (by repeat (first | exact bel_refl _ | assumption | apply bel_alloc | apply bel_drew))).own (HYw.out.next (by repeat (first | exact bel_refl _ | assumption | apply bel_alloc | apply bel_drew))) (by decide))); clear ho7 hg7 hn7 hm7 hB7)
            | (go_simp; go_at_call 61; refine (HTo.out _ (by repeat (first | exact bel_refl _ | assumption | apply bel_alloc | apply bel_drew))).mono ?_; rintro e w4 ⟨v3, rfl, ho3, hb4⟩; obtain ⟨a3, c3, hv3, -⟩ := ho3.rd.open; subst hv3; have HO3 := Lib.hid ho3; have hx4 : Below w3.heap.size w3 w4 := bel_trans (by repeat (first | exact bel_refl _ | assumption | apply bel_alloc | apply bel_drew)) hb4; obtain ⟨r0, r1, r2, r3, r4, r5⟩ := HKs.out w4 hx4; have hbl94 : b9 < w4.heap.size := Nat.lt_of_lt_of_le hbl9 hx4.size; have hgl54 : g5 < w4.heap.size := Nat.lt_of_lt_of_le hgl5 hx4.size; clear ho3 hb4))
        all_goals go_wp2_with fail
        all_goals go_roundw
        all_goals first
          | exact ⟨k + 1, _, _, Hlt.out, by go_num, Lib.hid (HM7.out.next (by repeat (first | exact bel_refl _ | apply bel_drew))), Lib.hid ((HY7.out.other hgb1 _).next (by repeat (first | exact bel_refl _ | apply bel_drew)))⟩
          | (have h1 := Hlt.out; simp [intOf]; omega)
      · obtain rfl : k = T.length := by omega
        have HMe := HM
        have HYe := HYr
        have b0 : wr.cell? ⟨b9, 0, none⟩ = some (.int .i64 kd) := HMe.out.blk.cell 0
        have b1 : wr.cell? ⟨b9, 1, none⟩ = some (.int .u32 dd) := HMe.out.blk.cell 1
        have b2 : wr.cell? ⟨b9, 2, none⟩ = some (.int .i64 aw) := HMe.out.blk.cell 2
        have b3 : wr.cell? ⟨b9, 3, none⟩ = some (.int .u32 at1) := HMe.out.blk.cell 3
        have b4 : wr.cell? ⟨b9, 4, none⟩ = some (.int .u32 am) := HMe.out.blk.cell 4
        have b5 : wr.cell? ⟨b9, 5, none⟩ = some (.bool ys) := HMe.out.blk.cell 5
        have b6 : wr.cell? ⟨b9, 6, none⟩ = some (.string tk) := HMe.out.blk.cell 6
        have b7 : wr.cell? ⟨b9, 7, none⟩ = some (.int .i64 nn) := HMe.out.blk.cell 7
        have b8 : wr.cell? ⟨b9, 8, none⟩ = some (.int .i64 id) := HMe.out.blk.cell 8
        have b9 : wr.cell? ⟨b9, 9, none⟩ = some (.slice qa Q.length qc) := HMe.out.blk.cell 9
        have y0 : wr.cell? ⟨g + 1, 0, none⟩ = some (.int .i64 0) := HYe.out.cell 0
        have f0 : wr.frozen? ⟨g + 1, 0, none⟩ = false := HYe.out.free 0
        have y1 : wr.cell? ⟨g + 1, 1, none⟩ = some (.int .u32 0) := HYe.out.cell 1
        have f1 : wr.frozen? ⟨g + 1, 1, none⟩ = false := HYe.out.free 1
        have y2 : wr.cell? ⟨g + 1, 2, none⟩ = some (.int .i64 0) := HYe.out.cell 2
        have f2 : wr.frozen? ⟨g + 1, 2, none⟩ = false := HYe.out.free 2
        have y3 : wr.cell? ⟨g + 1, 3, none⟩ = some (.int .u32 0) := HYe.out.cell 3
        have f3 : wr.frozen? ⟨g + 1, 3, none⟩ = false := HYe.out.free 3
        have y4 : wr.cell? ⟨g + 1, 4, none⟩ = some (.int .u32 0) := HYe.out.cell 4
        have f4 : wr.frozen? ⟨g + 1, 4, none⟩ = false := HYe.out.free 4
        have y5 : wr.cell? ⟨g + 1, 5, none⟩ = some (.bool false) := HYe.out.cell 5
        have f5 : wr.frozen? ⟨g + 1, 5, none⟩ = false := HYe.out.free 5
        have y6 : wr.cell? ⟨g + 1, 6, none⟩ = some (.string ⟨#[]⟩) := HYe.out.cell 6
        have f6 : wr.frozen? ⟨g + 1, 6, none⟩ = false := HYe.out.free 6
        have y7 : wr.cell? ⟨g + 1, 7, none⟩ = some (.int .i64 0) := HYe.out.cell 7
        have f7 : wr.frozen? ⟨g + 1, 7, none⟩ = false := HYe.out.free 7
        have y8 : wr.cell? ⟨g + 1, 8, none⟩ = some (.int .i64 0) := HYe.out.cell 8
        have f8 : wr.frozen? ⟨g + 1, 8, none⟩ = false := HYe.out.free 8
        have y9 : wr.cell? ⟨g + 1, 9, none⟩ = some (.slice none 0 0) := HYe.out.cell 9
        have f9 : wr.frozen? ⟨g + 1, 9, none⟩ = false := HYe.out.free 9
        go_wp2_with fail
        have hY := set10 HYe.out (.int .i64 kd) (.int .u32 dd) (.int .i64 aw) (.int .u32 at1) (.int .u32 am) (.bool ys) (.string tk) (.int .i64 nn) (.int .i64 id) (.slice qa Q.length qc)
        have z0 : ((((((((((wr.setCell ⟨g + 1, 0, none⟩ (.int .i64 kd)).setCell ⟨g + 1, 1, none⟩ (.int .u32 dd)).setCell ⟨g + 1, 2, none⟩ (.int .i64 aw)).setCell ⟨g + 1, 3, none⟩ (.int .u32 at1)).setCell ⟨g + 1, 4, none⟩ (.int .u32 am)).setCell ⟨g + 1, 5, none⟩ (.bool ys)).setCell ⟨g + 1, 6, none⟩ (.string tk)).setCell ⟨g + 1, 7, none⟩ (.int .i64 nn)).setCell ⟨g + 1, 8, none⟩ (.int .i64 id)).setCell ⟨g + 1, 9, none⟩ (.slice qa Q.length qc)).cell? ⟨g + 1, 0, none⟩ = some (.int .i64 kd) := hY.cell 0
        have z1 : ((((((((((wr.setCell ⟨g + 1, 0, none⟩ (.int .i64 kd)).setCell ⟨g + 1, 1, none⟩ (.int .u32 dd)).setCell ⟨g + 1, 2, none⟩ (.int .i64 aw)).setCell ⟨g + 1, 3, none⟩ (.int .u32 at1)).setCell ⟨g + 1, 4, none⟩ (.int .u32 am)).setCell ⟨g + 1, 5, none⟩ (.bool ys)).setCell ⟨g + 1, 6, none⟩ (.string tk)).setCell ⟨g + 1, 7, none⟩ (.int .i64 nn)).setCell ⟨g + 1, 8, none⟩ (.int .i64 id)).setCell ⟨g + 1, 9, none⟩ (.slice qa Q.length qc)).cell? ⟨g + 1, 1, none⟩ = some (.int .u32 dd) := hY.cell 1
        have z2 : ((((((((((wr.setCell ⟨g + 1, 0, none⟩ (.int .i64 kd)).setCell ⟨g + 1, 1, none⟩ (.int .u32 dd)).setCell ⟨g + 1, 2, none⟩ (.int .i64 aw)).setCell ⟨g + 1, 3, none⟩ (.int .u32 at1)).setCell ⟨g + 1, 4, none⟩ (.int .u32 am)).setCell ⟨g + 1, 5, none⟩ (.bool ys)).setCell ⟨g + 1, 6, none⟩ (.string tk)).setCell ⟨g + 1, 7, none⟩ (.int .i64 nn)).setCell ⟨g + 1, 8, none⟩ (.int .i64 id)).setCell ⟨g + 1, 9, none⟩ (.slice qa Q.length qc)).cell? ⟨g + 1, 2, none⟩ = some (.int .i64 aw) := hY.cell 2
        have z3 : ((((((((((wr.setCell ⟨g + 1, 0, none⟩ (.int .i64 kd)).setCell ⟨g + 1, 1, none⟩ (.int .u32 dd)).setCell ⟨g + 1, 2, none⟩ (.int .i64 aw)).setCell ⟨g + 1, 3, none⟩ (.int .u32 at1)).setCell ⟨g + 1, 4, none⟩ (.int .u32 am)).setCell ⟨g + 1, 5, none⟩ (.bool ys)).setCell ⟨g + 1, 6, none⟩ (.string tk)).setCell ⟨g + 1, 7, none⟩ (.int .i64 nn)).setCell ⟨g + 1, 8, none⟩ (.int .i64 id)).setCell ⟨g + 1, 9, none⟩ (.slice qa Q.length qc)).cell? ⟨g + 1, 3, none⟩ = some (.int .u32 at1) := hY.cell 3
        have z4 : ((((((((((wr.setCell ⟨g + 1, 0, none⟩ (.int .i64 kd)).setCell ⟨g + 1, 1, none⟩ (.int .u32 dd)).setCell ⟨g + 1, 2, none⟩ (.int .i64 aw)).setCell ⟨g + 1, 3, none⟩ (.int .u32 at1)).setCell ⟨g + 1, 4, none⟩ (.int .u32 am)).setCell ⟨g + 1, 5, none⟩ (.bool ys)).setCell ⟨g + 1, 6, none⟩ (.string tk)).setCell ⟨g + 1, 7, none⟩ (.int .i64 nn)).setCell ⟨g + 1, 8, none⟩ (.int .i64 id)).setCell ⟨g + 1, 9, none⟩ (.slice qa Q.length qc)).cell? ⟨g + 1, 4, none⟩ = some (.int .u32 am) := hY.cell 4
        have z5 : ((((((((((wr.setCell ⟨g + 1, 0, none⟩ (.int .i64 kd)).setCell ⟨g + 1, 1, none⟩ (.int .u32 dd)).setCell ⟨g + 1, 2, none⟩ (.int .i64 aw)).setCell ⟨g + 1, 3, none⟩ (.int .u32 at1)).setCell ⟨g + 1, 4, none⟩ (.int .u32 am)).setCell ⟨g + 1, 5, none⟩ (.bool ys)).setCell ⟨g + 1, 6, none⟩ (.string tk)).setCell ⟨g + 1, 7, none⟩ (.int .i64 nn)).setCell ⟨g + 1, 8, none⟩ (.int .i64 id)).setCell ⟨g + 1, 9, none⟩ (.slice qa Q.length qc)).cell? ⟨g + 1, 5, none⟩ = some (.bool ys) := hY.cell 5
        have z6 : ((((((((((wr.setCell ⟨g + 1, 0, none⟩ (.int .i64 kd)).setCell ⟨g + 1, 1, none⟩ (.int .u32 dd)).setCell ⟨g + 1, 2, none⟩ (.int .i64 aw)).setCell ⟨g + 1, 3, none⟩ (.int .u32 at1)).setCell ⟨g + 1, 4, none⟩ (.int .u32 am)).setCell ⟨g + 1, 5, none⟩ (.bool ys)).setCell ⟨g + 1, 6, none⟩ (.string tk)).setCell ⟨g + 1, 7, none⟩ (.int .i64 nn)).setCell ⟨g + 1, 8, none⟩ (.int .i64 id)).setCell ⟨g + 1, 9, none⟩ (.slice qa Q.length qc)).cell? ⟨g + 1, 6, none⟩ = some (.string tk) := hY.cell 6
        have z7 : ((((((((((wr.setCell ⟨g + 1, 0, none⟩ (.int .i64 kd)).setCell ⟨g + 1, 1, none⟩ (.int .u32 dd)).setCell ⟨g + 1, 2, none⟩ (.int .i64 aw)).setCell ⟨g + 1, 3, none⟩ (.int .u32 at1)).setCell ⟨g + 1, 4, none⟩ (.int .u32 am)).setCell ⟨g + 1, 5, none⟩ (.bool ys)).setCell ⟨g + 1, 6, none⟩ (.string tk)).setCell ⟨g + 1, 7, none⟩ (.int .i64 nn)).setCell ⟨g + 1, 8, none⟩ (.int .i64 id)).setCell ⟨g + 1, 9, none⟩ (.slice qa Q.length qc)).cell? ⟨g + 1, 7, none⟩ = some (.int .i64 nn) := hY.cell 7
        have z8 : ((((((((((wr.setCell ⟨g + 1, 0, none⟩ (.int .i64 kd)).setCell ⟨g + 1, 1, none⟩ (.int .u32 dd)).setCell ⟨g + 1, 2, none⟩ (.int .i64 aw)).setCell ⟨g + 1, 3, none⟩ (.int .u32 at1)).setCell ⟨g + 1, 4, none⟩ (.int .u32 am)).setCell ⟨g + 1, 5, none⟩ (.bool ys)).setCell ⟨g + 1, 6, none⟩ (.string tk)).setCell ⟨g + 1, 7, none⟩ (.int .i64 nn)).setCell ⟨g + 1, 8, none⟩ (.int .i64 id)).setCell ⟨g + 1, 9, none⟩ (.slice qa Q.length qc)).cell? ⟨g + 1, 8, none⟩ = some (.int .i64 id) := hY.cell 8
        have z9 : ((((((((((wr.setCell ⟨g + 1, 0, none⟩ (.int .i64 kd)).setCell ⟨g + 1, 1, none⟩ (.int .u32 dd)).setCell ⟨g + 1, 2, none⟩ (.int .i64 aw)).setCell ⟨g + 1, 3, none⟩ (.int .u32 at1)).setCell ⟨g + 1, 4, none⟩ (.int .u32 am)).setCell ⟨g + 1, 5, none⟩ (.bool ys)).setCell ⟨g + 1, 6, none⟩ (.string tk)).setCell ⟨g + 1, 7, none⟩ (.int .i64 nn)).setCell ⟨g + 1, 8, none⟩ (.int .i64 id)).setCell ⟨g + 1, 9, none⟩ (.slice qa Q.length qc)).cell? ⟨g + 1, 9, none⟩ = some (.slice qa Q.length qc) := hY.cell 9
        refine bodyPost_ret (v := .agg #[.int .i64 kd, .int .u32 dd, .int .i64 aw, .int .u32 at1, .int .u32 am, .bool ys, .string tk, .int .i64 nn, .int .i64 id, .slice qa Q.length qc]) (by simp [results, Tryz.results18, go_sem, z0, z1, z2, z3, z4, z5, z6, z7, z8, z9]) rfl ?_
        refine ⟨_, Q, rfl, ⟨?_, fun x hx => ?_⟩, by rw [HMe.out.pl, List.take_length], bel10 HMe.out.bel (by omega)⟩
        · exact (own_keep (own10 wr (g + 1)) HMe.out.own (fun b hb e => own_no_blk HMe.out.own HYe.out (by decide) (by rw [hb, e]))).rd
        · exact (own_keep (own10 wr (g + 1)) (HMe.out.sets x hx) (fun b hb e => own_no_blk (HMe.out.sets x hx) HYe.out (by decide) (by rw [hb, e]))).rd
theorem field50 (a b c d e : Int) (f : Bool) (s : ByteArray) (g h : Int) (x : Option Addr) (n m : Nat) (w : World) : (Instr.field 50 (.agg #[.int .i64 a, .int .u32 b, .int .i64 c, .int .u32 d, .int .u32 e, .bool f, .string s, .int .i64 g, .int .i64 h, .slice x n m]) 7).run Tryz.prog w = .ok (.slice x n m) w := by kernel_rfl
theorem fit_pl {Q T : List Wr} (h : Q.map Wr.pl = T.map Wr.pl) (hf : FitWs T) : FitWs Q := fun x hx => by
  have : x.pl ∈ T.map Wr.pl := by rw [← h]; exact List.mem_map_of_mem hx
  obtain ⟨y, hy, e⟩ := List.mem_map.1 this
  have e1 : y.st = x.st := congrArg Wp.st e
  have e2 : y.x = x.x := congrArg Wp.x e
  rw [← e1, ← e2]
  exact hf y hy
theorem batch_same {Q T : List Wr} (h : Q.map Wr.pl = T.map Wr.pl) : pb (BatchW Q) = pb (BatchW T) := by
  unfold pb
  exact decide_eq_decide.2 ((batch_pl h).trans (batch_pl rfl).symm)
set_option maxHeartbeats 8000000 in
theorem batches_any (v : Value) (L : List Wr) (s : ByteArray) (w : World) (hv : RdW w v L) (hwr : ∀ x ∈ L, WrR w x) (hlen : L.length ≤ 2199023255552) (hs : s.size ≤ maxLen) (hg : Glob w) : Calls Tryz.prog 6 #[v, .string s] w fun e w' => e = .returned (.bool true) ∧ Below w.heap.size w w' := by
  obtain ⟨va, vc, rfl, -⟩ := hv.open
  have HV := Lib.hid hv
  have HG := Lib.hid hg
  have HWr := Lib.hid hwr
  have HLn := Lib.hid hlen
  have HFt : Hid (FitWs L) := Lib.hid (fun x hx => ⟨(hwr x hx).fit, (hwr x hx).text⟩)
  have hfd := field50
  clear hv hg hwr hlen
  go_enter Tryz.func6, Tryz.ntmps6
  go_upto_region 2 with fail
  have HX := Lib.hid (Blk.new w #[.int .i64 0, .int .u32 0, .int .i64 0, .int .u32 0, .int .u32 0, .bool false, .string ⟨#[]⟩, .int .i64 0, .int .i64 0, .slice va L.length vc] 42)
  have HB1 := Lib.hid (below_alloc w (.cells #[.int .i64 0, .int .u32 0, .int .i64 0, .int .u32 0, .int .u32 0, .bool false, .string ⟨#[]⟩, .int .i64 0, .int .i64 0, .slice va L.length vc] 42))
  generalize w.alloc (.cells #[.int .i64 0, .int .u32 0, .int .i64 0, .int .u32 0, .int .u32 0, .bool false, .string ⟨#[]⟩, .int .i64 0, .int .i64 0, .slice va L.length vc] 42) = w1 at HX HB1 ⊢
  generalize w.heap.size = g at HX ⊢
  have HTo := Lib.hid (fun W (hW : Below w.heap.size w W) => tocmd_big ⟨0, 0, ⟨0, 0, 0⟩, false, ⟨#[]⟩, 0, 0, []⟩ (.slice va L.length vc) L W (HV.out.below hW) HLn.out (fun x hx => (HWr.out x hx).len))
  unfold cmdV at HTo
  simp only at HTo
  obtain ⟨z, hz⟩ : ∃ z, pb (BatchW L) = z := ⟨_, rfl⟩
  have Hz := Lib.hid hz
  clear hz
  obtain ⟨y, hy⟩ : ∃ y, pb (Token s) = y := ⟨_, rfl⟩
  have Hy := Lib.hid hy
  clear hy
  have HRb := Lib.hid (fun W (hW : Below w.heap.size w W) => refBatch_any (.slice va L.length vc) L W (HV.out.below hW) HFt.out)
  have HT1 := Lib.hid (fun W => isToken_any s W hs)
  have HT2 := Lib.hid (fun W => refisToken_any s W hs)
  go_wp2_with (first
    | (go_at_call 15; refine (awake_any _ (HG.out.below HB1.out)).mono ?_; rintro e w2 ⟨rfl, hb2⟩; have HB2 := Lib.hid (bel_trans HB1.out hb2); have x0 : w2.cell? ⟨g, 0, none⟩ = some (.int .i64 0) := (HX.out.next hb2).cell 0; have x1 : w2.cell? ⟨g, 1, none⟩ = some (.int .u32 0) := (HX.out.next hb2).cell 1; have x2 : w2.cell? ⟨g, 2, none⟩ = some (.int .i64 0) := (HX.out.next hb2).cell 2; have x3 : w2.cell? ⟨g, 3, none⟩ = some (.int .u32 0) := (HX.out.next hb2).cell 3; have x4 : w2.cell? ⟨g, 4, none⟩ = some (.int .u32 0) := (HX.out.next hb2).cell 4; have x5 : w2.cell? ⟨g, 5, none⟩ = some (.bool false) := (HX.out.next hb2).cell 5; have x6 : w2.cell? ⟨g, 6, none⟩ = some (.string ⟨#[]⟩) := (HX.out.next hb2).cell 6; have x7 : w2.cell? ⟨g, 7, none⟩ = some (.int .i64 0) := (HX.out.next hb2).cell 7; have x8 : w2.cell? ⟨g, 8, none⟩ = some (.int .i64 0) := (HX.out.next hb2).cell 8; have x9 : w2.cell? ⟨g, 9, none⟩ = some (.slice va L.length vc) := (HX.out.next hb2).cell 9; clear hb2)
    | (go_at_call 18; refine (HTo.out _ HB2.out).mono ?_; rintro e w3 ⟨v', Q, rfl, hq, hpl, hb3⟩; obtain ⟨qa, qc, hqv, -⟩ := hq.open; subst hqv; have HB3 := Lib.hid (bel_trans HB2.out hb3); have HBt := Lib.hid (rightBatch_any _ Q _ hq (fit_pl hpl HFt.out)); have HPl := Lib.hid hpl; clear hq hpl hb3)
    | (go_at_call 27; refine HBt.out.mono ?_; rintro e w4 ⟨hs4, hb4⟩; have hs5 := says_pb hs4; rw [batch_same HPl.out, Hz.out] at hs5; subst hs5; have HB4 := Lib.hid (bel_trans HB3.out hb4); clear hs4 hb4)
    | (go_at_call 28; refine (HRb.out _ HB4.out).mono ?_; rintro e w5 ⟨hs4, hb5⟩; have hs5 := says_pb hs4; rw [Hz.out] at hs5; subst hs5; have HB5 := Lib.hid (bel_trans HB4.out hb5); clear hs4 hb5)
    | (go_at_call 29; refine (HT1.out _).mono ?_; rintro e w6 ⟨hs4, rfl⟩; have hs5 := says_pb hs4; rw [Hy.out] at hs5; subst hs5; clear hs4)
    | (go_at_call 30; refine (HT2.out _).mono ?_; rintro e w7 ⟨hs4, rfl⟩; have hs5 := says_pb hs4; rw [Hy.out] at hs5; subst hs5; clear hs4)
    | fail)
  go_ret
  exact ⟨rfl, HB5.out⟩
theorem bytes145 : Tryz.prog.bytesOf 145 = 64 := by kernel_rfl
variable {H : Type} {enc : TypeId × Value → H}
theorem open_writesv {w : World} {base : Nat} {v : Value} {d : DataW H} {ps : List MemPlace} (hval : Value.okWide Tryz.prog w .any base 40 v) (h : DataW.Trod enc Tryz.prog w 0 (fun _ => true) true 40 v d ps) (hs : Small 40 d) : ∃ T : List Wr, RdW w v T ∧ (∀ x ∈ T, WrR w x) ∧ T.length ≤ 2199023255552 := by
  obtain ⟨a0, len0, cap0, rfl⟩ := okWide_slice Tryz.underlying40 hval
  obtain ⟨fuel, hf⟩ := h
  have hf' : DataW.trod enc Tryz.prog w 0 (fun _ => true) true fuel 40 [.slice a0 len0 cap0] = some (d, ps) := by simpa [Value.cells] using hf
  obtain ⟨v, css, xs, hv, hrow, hcs, hlen, hall, hd⟩ := open_row Tryz.underlying40 (by rw [cells145]; omega) hf'
  injection hv with hv
  subst hv
  have hsm : ∀ y ∈ xs, Small 145 y.1 := fun z hz => by
    rcases hd with ⟨_, e⟩ | ⟨spare, e⟩
    · rw [e] at hlen
      rw [List.eq_nil_of_length_eq_zero hlen] at hz
      cases hz
    · have e' : d = .slice (xs.map (·.1)) spare := e
      rw [e'] at hs
      exact small_elem Tryz.underlying40 hs (List.mem_map.2 ⟨z, hz, rfl⟩)
  obtain ⟨T, h1, h2, h3⟩ := open_write_list css xs hlen hall hsm
  rw [cells145, ← h1, h2] at hrow
  refine ⟨T, ⟨hrow, fun m hm => (h3 m hm).set⟩, h3, ?_⟩
  rcases hd with ⟨_, e⟩ | ⟨spare, e⟩
  · rw [e] at h1
    have : T = [] := List.eq_nil_of_length_eq_zero h1
    rw [this]
    exact Nat.zero_le _
  · have e' : d = .slice (xs.map (·.1)) spare := e
    rw [e'] at hs
    have := small_len Tryz.underlying40 hs
    rw [bytes145, List.length_map] at this
    unfold reachBytes at this
    have hx : T.length = css.length := h1
    omega
end Go.Proofs.YtbaflgddpciadaaGreat
