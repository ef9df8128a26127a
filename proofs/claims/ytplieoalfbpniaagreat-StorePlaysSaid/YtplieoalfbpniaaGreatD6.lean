/- The document's Kept (31). -/
import Derived.Test.YtplieoalfbpniaaGreatD5
set_option linter.unusedVariables false
set_option linter.unusedSimpArgs false
namespace Go.Proofs.YtplieoalfbpniaaGreat
open Go.RowKit Go.Kt Go.Ix Go.Sx
set_option maxRecDepth 100000
theorem flatN_snoc (T : List Pn) (x : Pn) : flatN (T ++ [x]) = flatN T ++ pcells x := by
  induction T with
  | nil => simp [flatN]
  | cons y t ih => simp only [List.cons_append, flatN, ih, List.append_assoc]
theorem toldI_take {Q : List Itm} {k : Nat} {x : Itm} (h : Q[k]? = some x) : toldI (Q.take (k + 1)) = toldI (Q.take k) ++ [x.it] := by
  obtain ⟨hk, rfl⟩ := List.getElem?_eq_some_iff.1 h
  rw [List.take_succ_eq_append_getElem hk, toldI, List.map_append]; rfl
set_option maxHeartbeats 16000000 in
theorem rkept_any {F : Nat → Prop} (v : Value) (Q : List Itm) (w : World) (h : RSt F w v Q) (hl : lenL (toldI Q) ≤ 65536) :
    Calls Tryz.prog 31 #[.agg #[v]] w fun e w' => ∃ v' R, e = .returned v' ∧ RdN w' v' R ∧ R.map Pn.told = keptL (toldI Q) ∧ Below w.heap.size w w' := by
  obtain ⟨a, cap, rfl, hcap, hbig, hcell⟩ := h.open
  have Hcell := Lib.hid hcell
  have HL := Lib.hid hl
  clear hcell h hl
  have HX := Lib.hid (Blk.new w #[.slice a Q.length cap] 67)
  have HBa := Lib.hid (below_alloc w (.cells #[.slice a Q.length cap] 67))
  go_enter Tryz.func31, Tryz.ntmps31
  go_wp2_with fail
  generalize w.alloc (.cells #[.slice a Q.length cap] 67) = w1 at HX HBa ⊢
  have HM0 : Hid (Mine 112 8 w1 w1 (.slice none 0 0) ([] : List Pn).length (flatN [])) := Lib.hid (mine_nil 112 8 w1)
  have HS0 : Hid (([] : List Pn).map Pn.told = keptL (toldI (Q.take 0)) ∧ ∀ q ∈ ([] : List Pn), RdP w q.sv q.st) := Lib.hid ⟨rfl, fun q hq => by cases hq⟩
  go_loopw [3, 4] (fun ov i wr => ∃ (k : Nat) (R : List Pn), k ≤ Q.length ∧ i = .int .i64 k ∧ Hid (Mine 112 8 w1 wr ov R.length (flatN R)) ∧ Hid (R.map Pn.told = keptL (toldI (Q.take k)) ∧ ∀ q ∈ R, RdP w q.sv q.st)) (fun _ i _ => Q.length - (intOf i).toNat)
  case atStart => exact ⟨0, [], by omega, rfl, HM0, HS0⟩
  case round =>
    clear HM0 HS0
    obtain ⟨k, R, hk, rfl, HM, HS⟩ := hrel
    have x0 : wr.cell? ⟨w.heap.size, 0, none⟩ = some (.slice a Q.length cap) := (HX.out.next HM.out.2.2).cell 0
    by_cases hlt : k < Q.length
    · obtain ⟨x, hx⟩ : ∃ x, Q[k]? = some x := ⟨Q[k], List.getElem?_eq_getElem hlt⟩
      obtain ⟨hr, b, o, rfl, hbl, c0, c1, c2⟩ := Hcell.out k x hx
      have HTk : Hid (keptL (toldI (Q.take (k + 1))) = keptL (toldI (Q.take k)) ++ x.it.l.map (fun v => (x.it.set, x.it.time, v))) := Lib.hid (by rw [toldI_take hx, keptL_one])
      have HLk : Hid (lenL (toldI (Q.take (k + 1))) ≤ 65536) := Lib.hid (Nat.le_trans (lenL_sub ((List.take_sublist _ _).map _)) HL.out)
      obtain ⟨⟨xs, xt, xl⟩, sv, lv⟩ := x
      obtain ⟨sa, sc, hsv, -⟩ := hr.set.open
      obtain ⟨la, lc, hlv, hvc, hvm, -⟩ := hr.ver.open
      simp only at hsv hlv hvc hvm
      subst hsv hlv
      simp only at c0 c1 c2 HTk
      have HR := Lib.hid hr.set
      have HV := Lib.hid hr.ver
      simp only at HR HV
      have HC : Hid (∀ W, Below w1.heap.size w1 W → W.cell? ⟨w.heap.size, 0, none⟩ = some (.slice (some ⟨b, o, none⟩) Q.length cap) ∧ W.cell? ⟨b, o + k * 3, none⟩ = some (.slice sa xs.length sc) ∧ W.cell? ⟨b, o + k * 3 + 1, none⟩ = some (.int .i64 xt) ∧ W.cell? ⟨b, o + k * 3 + 2, none⟩ = some (.slice la xl.length lc)) :=
        Lib.hid (fun W hW => by
          have hB := bel_trans HBa.out hW
          exact ⟨(HX.out.next hW).cell 0, (hB.cell (p := ⟨b, _, none⟩) hbl).trans c0, (hB.cell (p := ⟨b, _, none⟩) hbl).trans c1, (hB.cell (p := ⟨b, _, none⟩) hbl).trans c2⟩)
      have hk1 : (0 : Int) ≤ (k : Int) := by omega
      have hk2 : (k : Int) < (Q.length : Int) := by omega
      have hbw : b < w1.heap.size := Nat.lt_of_lt_of_le hbl HBa.out.size
      clear c0 c1 c2 hx hr
      go_wp2_with fail
      have HM1 := HM
      have HS1 : Hid (R.map Pn.told = keptL (toldI (Q.take k)) ++ (xl.take 0).map (fun v => (xs, xt, v)) ∧ ∀ q ∈ R, RdP w q.sv q.st) := Lib.hid ⟨by rw [HS.out.1]; simp, HS.out.2⟩
      clear x0 HM HS
      go_loopw [3, 5] (fun ov i wq => ∃ (p : Nat) (R : List Pn), p ≤ xl.length ∧ i = .int .i64 p ∧ Hid (Mine 112 8 w1 wq ov R.length (flatN R)) ∧ Hid (R.map Pn.told = keptL (toldI (Q.take k)) ++ (xl.take p).map (fun v => (xs, xt, v)) ∧ ∀ q ∈ R, RdP w q.sv q.st)) (fun _ i _ => xl.length - (intOf i).toNat)
      case atStart => exact ⟨0, R, by omega, rfl, HM1, HS1⟩
      case round =>
        clear HM1 HS1
        obtain ⟨p, R, hp, rfl, HM, HS⟩ := hrel
        obtain ⟨x0, x1, x2, x3⟩ := HC.out _ HM.out.2.2
        by_cases hpl : p < xl.length
        · obtain ⟨vx, hvx⟩ : ∃ vx, xl[p]? = some vx := ⟨xl[p], List.getElem?_eq_getElem hpl⟩
          obtain ⟨vb, vo, rfl, hvb, e0, e1, e2, e3, e4, e5⟩ := rdV_cells HV.out p vx hvx
          have hB := bel_trans HBa.out HM.out.2.2
          have HSn : Hid ((xl.take (p + 1)).map (fun v => (xs, xt, v)) = (xl.take p).map (fun v => (xs, xt, v)) ++ [(xs, xt, vx)]) := Lib.hid (by
            obtain ⟨hp', e⟩ := List.getElem?_eq_some_iff.1 hvx
            rw [List.take_succ_eq_append_getElem hp', List.map_append, e]; rfl)
          have hRl : R.length + 1 ≤ 65536 := by
            have h1 := congrArg List.length HS.out.1
            have h2 := congrArg List.length HTk.out
            rw [List.length_map, List.length_append, List.length_map, List.length_take] at h1
            rw [keptL_len, List.length_append, List.length_map] at h2
            have h3 := HLk.out
            omega
          obtain ⟨⟨vw, vt, vm⟩, vk, vn, vt2⟩ := vx
          simp only at e0 e1 e2 e3 e4 e5
          have d0 : wr.cell? ⟨vb, vo + p * 6, none⟩ = some (.int .i64 vw) := (hB.cell (p := ⟨vb, _, none⟩) hvb).trans e0
          have d1 : wr.cell? ⟨vb, vo + p * 6 + 1, none⟩ = some (.int .u32 vt) := (hB.cell (p := ⟨vb, _, none⟩) hvb).trans e1
          have d2 : wr.cell? ⟨vb, vo + p * 6 + 2, none⟩ = some (.int .u32 vm) := (hB.cell (p := ⟨vb, _, none⟩) hvb).trans e2
          have d3 : wr.cell? ⟨vb, vo + p * 6 + 3, none⟩ = some (.int .i64 vk) := (hB.cell (p := ⟨vb, _, none⟩) hvb).trans e3
          have d4 : wr.cell? ⟨vb, vo + p * 6 + 4, none⟩ = some (.int .i64 vn) := (hB.cell (p := ⟨vb, _, none⟩) hvb).trans e4
          have d5 : wr.cell? ⟨vb, vo + p * 6 + 5, none⟩ = some (.string vt2) := (hB.cell (p := ⟨vb, _, none⟩) hvb).trans e5
          have hp1 : (0 : Int) ≤ (p : Int) := by omega
          have hp2 : (p : Int) < (xl.length : Int) := by omega
          have HXn := Lib.hid (Blk.new wr #[.int .i64 vw, .int .u32 vt, .int .u32 vm, .int .i64 vk, .int .i64 vn, .string vt2] 127)
          have HBn := Lib.hid (below_alloc wr (.cells #[.int .i64 vw, .int .u32 vt, .int .u32 vm, .int .i64 vk, .int .i64 vn, .string vt2] 127))
          clear e0 e1 e2 e3 e4 e5 hvx hB
          go_upto_region 9 with fail
          generalize wr.alloc (.cells #[.int .i64 vw, .int .u32 vt, .int .u32 vm, .int .i64 vk, .int .i64 vn, .string vt2] 127) = w5 at HXn HBn ⊢
          clear x0 x1 x2 x3 d0 d1 d2 d3 d4 d5
          have HM5 := Lib.hid (HM.out.below HBn.out)
          obtain ⟨x0, x1, x2, x3⟩ := HC.out _ HM5.out.2.2
          have hg5 := HXn.out.lt
          have q0 : w5.cell? ⟨wr.heap.size, 0, none⟩ = some (.int .i64 vw) := HXn.out.cell 0
          have q1 : w5.cell? ⟨wr.heap.size, 1, none⟩ = some (.int .u32 vt) := HXn.out.cell 1
          have q2 : w5.cell? ⟨wr.heap.size, 2, none⟩ = some (.int .u32 vm) := HXn.out.cell 2
          have q3 : w5.cell? ⟨wr.heap.size, 3, none⟩ = some (.int .i64 vk) := HXn.out.cell 3
          have q4 : w5.cell? ⟨wr.heap.size, 4, none⟩ = some (.int .i64 vn) := HXn.out.cell 4
          have q5 : w5.cell? ⟨wr.heap.size, 5, none⟩ = some (.string vt2) := HXn.out.cell 5
          have HKs : Hid (∀ W, Below w5.heap.size w5 W → W.cell? ⟨w.heap.size, 0, none⟩ = some (.slice (some ⟨b, o, none⟩) Q.length cap) ∧ W.cell? ⟨b, o + k * 3, none⟩ = some (.slice sa xs.length sc) ∧ W.cell? ⟨b, o + k * 3 + 1, none⟩ = some (.int .i64 xt) ∧ W.cell? ⟨wr.heap.size, 0, none⟩ = some (.int .i64 vw) ∧ W.cell? ⟨wr.heap.size, 1, none⟩ = some (.int .u32 vt) ∧ W.cell? ⟨wr.heap.size, 2, none⟩ = some (.int .u32 vm) ∧ W.cell? ⟨wr.heap.size, 3, none⟩ = some (.int .i64 vk) ∧ W.cell? ⟨wr.heap.size, 4, none⟩ = some (.int .i64 vn) ∧ W.cell? ⟨wr.heap.size, 5, none⟩ = some (.string vt2)) :=
            Lib.hid (fun W hW => by
              obtain ⟨h1, h2, h3, -⟩ := HC.out W (bel_trans HM5.out.2.2 hW)
              have hy := HXn.out.next hW
              exact ⟨h1, h2, h3, hy.cell 0, hy.cell 1, hy.cell 2, hy.cell 3, hy.cell 4, hy.cell 5⟩)
          have hx5 := bel_refl w5
          go_region_held3 (fun W => W.cell? ⟨w.heap.size, 0, none⟩ = some (.slice (some ⟨b, o, none⟩) Q.length cap) ∧ W.cell? ⟨b, o + k * 3, none⟩ = some (.slice sa xs.length sc) ∧ W.cell? ⟨b, o + k * 3 + 1, none⟩ = some (.int .i64 xt) ∧ W.cell? ⟨wr.heap.size, 0, none⟩ = some (.int .i64 vw) ∧ W.cell? ⟨wr.heap.size, 1, none⟩ = some (.int .u32 vt) ∧ W.cell? ⟨wr.heap.size, 2, none⟩ = some (.int .u32 vm) ∧ W.cell? ⟨wr.heap.size, 3, none⟩ = some (.int .i64 vk) ∧ W.cell? ⟨wr.heap.size, 4, none⟩ = some (.int .i64 vn) ∧ W.cell? ⟨wr.heap.size, 5, none⟩ = some (.string vt2))
            (first | (with_reducible exact ⟨x0, x1, x2, q0, q1, q2, q3, q4, q5⟩) | (with_reducible exact ⟨z0, z1, z2, y0, y1, y2, y3, y4, y5⟩) | (with_reducible refine HKs.out _ ?_; (repeat (first | assumption | apply bel_alloc | apply bel_drew)); done) | go_keep)
            (first
              | (refine step_app (by rfl) _ _ 53 (by rfl) ok53 (by rfl) (by rfl) (HM5.out.1.below' (by repeat (first | exact bel_refl _ | assumption | apply bel_alloc | apply bel_drew))) (own_lit_at (g := _) 112 8 #[.slice sa xs.length sc, .int .i64 xt, .int .i64 vk, .int .i64 vn, .string vt2, .int .i64 vw, .int .u32 vt, .int .u32 vm] 1 (by simp [maxLen]) rfl (by simp)).rd (pcells_one ⟨xs, xt, ⟨⟨vw, vt, vm⟩, vk, vn, vt2⟩, .slice sa xs.length sc⟩ rfl) (by simp only [maxLen]; omega) (by omega) ?_; intro v8 w8 ho8 hg8 hn8; obtain ⟨-, b8, c8, rfl, -⟩ := ho8.rd; have hM8 := mine_grown (HM5.out.below (by repeat (first | exact bel_refl _ | assumption | apply bel_alloc | apply bel_drew))) ho8 hg8 hn8; have hy := box_push HXn.out (by repeat (first | exact bel_refl _ | assumption | apply bel_alloc | apply bel_drew)) hg8 (HM5.out.1.below' (by repeat (first | exact bel_refl _ | assumption | apply bel_alloc | apply bel_drew))) (by decide); have y0 : w8.cell? ⟨wr.heap.size, 0, none⟩ = some (.int .i64 vw) := hy.cell 0; have y1 : w8.cell? ⟨wr.heap.size, 1, none⟩ = some (.int .u32 vt) := hy.cell 1; have y2 : w8.cell? ⟨wr.heap.size, 2, none⟩ = some (.int .u32 vm) := hy.cell 2; have y3 : w8.cell? ⟨wr.heap.size, 3, none⟩ = some (.int .i64 vk) := hy.cell 3; have y4 : w8.cell? ⟨wr.heap.size, 4, none⟩ = some (.int .i64 vn) := hy.cell 4; have y5 : w8.cell? ⟨wr.heap.size, 5, none⟩ = some (.string vt2) := hy.cell 5; obtain ⟨z0, z1, z2, -⟩ := HC.out w8 hM8.2.2; have HM8 := Lib.hid hM8; clear hy ho8 hg8 hn8 hM8))
          have HMn : Hid (Mine 112 8 w1 w8 (.slice b8 (R.length + 1) c8) (R ++ [(⟨xs, xt, ⟨⟨vw, vt, vm⟩, vk, vn, vt2⟩, .slice sa xs.length sc⟩ : Pn)]).length (flatN (R ++ [(⟨xs, xt, ⟨⟨vw, vt, vm⟩, vk, vn, vt2⟩, .slice sa xs.length sc⟩ : Pn)]))) := Lib.hid (by
            rw [List.length_append, flatN_snoc]
            exact HM8.out)
          have HSm : Hid ((R ++ [(⟨xs, xt, ⟨⟨vw, vt, vm⟩, vk, vn, vt2⟩, .slice sa xs.length sc⟩ : Pn)]).map Pn.told = keptL (toldI (Q.take k)) ++ (xl.take (p + 1)).map (fun v => (xs, xt, v)) ∧ ∀ q ∈ R ++ [(⟨xs, xt, ⟨⟨vw, vt, vm⟩, vk, vn, vt2⟩, .slice sa xs.length sc⟩ : Pn)], RdP w q.sv q.st) := Lib.hid ⟨by
            rw [List.map_append, HS.out.1, HSn.out, List.append_assoc]; rfl, fun q hq => by
            rcases List.mem_append.1 hq with hq | hq
            · exact HS.out.2 q hq
            · rw [List.mem_singleton.1 hq]; exact HR.out⟩
          go_wp2_with fail
          go_roundw
          case rel => exact ⟨p + 1, _, by omega, by go_num, HMn, HSm⟩
          case measure => simp [intOf]; omega
        · obtain rfl : p = xl.length := by omega
          have HSk : Hid (R.map Pn.told = keptL (toldI (Q.take (k + 1))) ∧ ∀ q ∈ R, RdP w q.sv q.st) := Lib.hid ⟨by rw [HS.out.1, List.take_length, HTk.out], HS.out.2⟩
          go_wp2_with fail
          go_roundw
          case rel => exact ⟨k + 1, R, by omega, by go_num, HM, HSk⟩
          case measure => simp [intOf]; omega
    · obtain rfl : k = Q.length := by omega
      rw [List.take_length] at HS
      go_wp2_with fail
      go_ret
      exact ⟨_, R, rfl, ⟨HM.out.rd, fun q hq => (HS.out.2 q hq).below (bel_trans HBa.out HM.out.2.2)⟩, HS.out.1, bel_trans HBa.out HM.out.2.2⟩
end Go.Proofs.YtplieoalfbpniaaGreat
