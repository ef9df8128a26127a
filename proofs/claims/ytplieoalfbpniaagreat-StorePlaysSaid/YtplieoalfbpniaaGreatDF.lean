/- The document's Put of a chain (49). -/
import Derived.Test.YtplieoalfbpniaaGreatDE
set_option linter.unusedVariables false
set_option linter.unusedSimpArgs false
namespace Go.Proofs.YtplieoalfbpniaaGreat
open Go.RowKit Go.Kt Go.Ix Go.Sx
set_option maxRecDepth 100000
theorem mineW_snoc {w0 w : World} {v : Value} {l : List Ver} {x : Ver} (h : Mine 127 6 w0 w v (l.length + 1) (flatV l ++ vcells x)) : MineW w0 w v (l ++ [x]) := by
  unfold MineW
  rw [List.length_append, flatV_snoc]
  exact h
theorem mine_nil_since {w w' : World} (hb : Below w.heap.size w w') : MineW w w' (.slice none 0 0) [] := ⟨own_nil w' 127 6, (fun b hb => by cases hb), hb⟩
set_option maxHeartbeats 16000000 in
theorem rput_any (v : Value) (l : List Ver) (x : Ver) (w : World) (hv : RdV w v l) (hc : Chain l) (hl : l.length ≤ 65536) (hs : x.text.size ≤ maxLen) :
    Calls Tryz.prog 49 #[v, x.val] w fun e w' => ∃ v', e = .returned (.tuple #[v', .int .i64 (putC l x).1]) ∧ MineW w w' v' (putC l x).2 := by
  obtain ⟨a, cap, rfl, hcap, hbig, -⟩ := hv.open
  have HV := Lib.hid hv
  have HRt := Lib.hid (fun W => rverR_any x W hs)
  by_cases hr : verR x
  · have hd : decide (verR x) = true := by simpa using hr
    rw [hd] at HRt
    have HPC := Lib.hid (fun hn => putC_filter (v := x) hc hr hn)
    have HPH : Hid (has l x.at_ = true → putC l x = (7, [])) := Lib.hid (fun h => by unfold putC; rw [if_neg (by simpa using hr), if_pos h])
    obtain ⟨⟨vw, vt, vm⟩, vk, vn, vx⟩ := x
    unfold Ver.val at HRt ⊢
    simp only at HRt HPC HPH ⊢
    generalize putC l ⟨⟨vw, vt, vm⟩, vk, vn, vx⟩ = P at HPC HPH ⊢
    clear hv hc hr hd
    have HX := Lib.hid (Blk.new w #[.int .i64 vw, .int .u32 vt, .int .u32 vm, .int .i64 vk, .int .i64 vn, .string vx] 127)
    have HBa := Lib.hid (below_alloc w (.cells #[.int .i64 vw, .int .u32 vt, .int .u32 vm, .int .i64 vk, .int .i64 vn, .string vx] 127))
    have HL := Lib.hid hl
    go_enter Tryz.func49, Tryz.ntmps49
    go_wp2_with (first
      | (go_at_call 53; refine (HRt.out _).mono ?_; rintro e w2 ⟨rfl, hb2⟩; have HB2 := Lib.hid (bel_trans HBa.out hb2); have HX2 := Lib.hid (HX.out.next hb2); clear hb2)
      | fail)
    have HM0 : Hid (MineW w2 w2 (.slice none 0 0) ((l.take 0).filter fun y => decide (y.at_.lt (⟨vw, vt, vm⟩ : Tm)))) := Lib.hid (mine_nil 127 6 w2)
    have HN0 : Hid (∀ y ∈ l.take 0, y.at_ ≠ (⟨vw, vt, vm⟩ : Tm)) := Lib.hid (fun y hy => by simp at hy)
    go_loopw [6, 7] (fun ov i wr => ∃ k : Nat, k ≤ l.length ∧ i = .int .i64 k ∧ Hid (MineW w2 wr ov ((l.take k).filter fun y => decide (y.at_.lt (⟨vw, vt, vm⟩ : Tm)))) ∧ Hid (∀ y ∈ l.take k, y.at_ ≠ (⟨vw, vt, vm⟩ : Tm))) (fun _ i _ => l.length - (intOf i).toNat)
    case atStart => exact ⟨0, by omega, rfl, HM0, HN0⟩
    case round =>
      clear HM0 HN0
      obtain ⟨k, hk, rfl, HM, HN⟩ := hrel
      by_cases hlt : k < l.length
      · obtain ⟨y, hy⟩ : ∃ y, l[k]? = some y := ⟨l[k], List.getElem?_eq_getElem hlt⟩
        obtain ⟨b, o, rfl, hbl, c0, c1, c2, c3, c4, c5⟩ := rdV_cells HV.out k y hy
        have HFt := Lib.hid (fun p => filter_take hy p)
        have Hy := Lib.hid hy
        have HOf := Lib.hid (fun t => has_of (t := t) hy)
        obtain ⟨⟨xw, xt, xm⟩, xk, xn, xx⟩ := y
        simp only at c0 c1 c2 c3 c4 c5 HOf
        have hB := bel_trans HB2.out HM.out.2.2
        have d0 : wr.cell? ⟨b, o + k * 6, none⟩ = some (.int .i64 xw) := (hB.cell (p := ⟨b, _, none⟩) hbl).trans c0
        have d1 : wr.cell? ⟨b, o + k * 6 + 1, none⟩ = some (.int .u32 xt) := (hB.cell (p := ⟨b, _, none⟩) hbl).trans c1
        have d2 : wr.cell? ⟨b, o + k * 6 + 2, none⟩ = some (.int .u32 xm) := (hB.cell (p := ⟨b, _, none⟩) hbl).trans c2
        have d3 : wr.cell? ⟨b, o + k * 6 + 3, none⟩ = some (.int .i64 xk) := (hB.cell (p := ⟨b, _, none⟩) hbl).trans c3
        have d4 : wr.cell? ⟨b, o + k * 6 + 4, none⟩ = some (.int .i64 xn) := (hB.cell (p := ⟨b, _, none⟩) hbl).trans c4
        have d5 : wr.cell? ⟨b, o + k * 6 + 5, none⟩ = some (.string xx) := (hB.cell (p := ⟨b, _, none⟩) hbl).trans c5
        have g0 : wr.cell? ⟨w.heap.size, 0, none⟩ = some (.int .i64 vw) := (HX2.out.next HM.out.2.2).cell 0
        have g1 : wr.cell? ⟨w.heap.size, 1, none⟩ = some (.int .u32 vt) := (HX2.out.next HM.out.2.2).cell 1
        have g2 : wr.cell? ⟨w.heap.size, 2, none⟩ = some (.int .u32 vm) := (HX2.out.next HM.out.2.2).cell 2
        have hk1 : (0 : Int) ≤ (k : Int) := by omega
        have hk2 : (k : Int) < (l.length : Int) := by omega
        clear c0 c1 c2 c3 c4 c5 hy hB
        by_cases heq : (⟨xw, xt, xm⟩ : Tm) = ⟨vw, vt, vm⟩
        · have HP7 := Lib.hid (HPH.out (HOf.out _ heq))
          injection heq with e1 e2 e3
          subst e1 e2 e3
          go_wp2_with fail
          go_quiet (fail)
          go_wp2_with fail
          go_ret2
          exact ⟨_, (by rw [HP7.out]; rfl), by rw [HP7.out]; exact mine_nil_since (by repeat (first | exact bel_trans HB2.out HM.out.2.2 | apply bel_drewN | apply bel_drew))⟩
        · have HNq := Lib.hid heq
          clear heq
          have hlb := hbl
          have HKs : Hid (∀ W, Below wr.heap.size wr W → W.cell? ⟨b, o + k * 6, none⟩ = some (.int .i64 xw) ∧ W.cell? ⟨b, o + k * 6 + 1, none⟩ = some (.int .u32 xt) ∧ W.cell? ⟨b, o + k * 6 + 2, none⟩ = some (.int .u32 xm) ∧ W.cell? ⟨b, o + k * 6 + 3, none⟩ = some (.int .i64 xk) ∧ W.cell? ⟨b, o + k * 6 + 4, none⟩ = some (.int .i64 xn) ∧ W.cell? ⟨b, o + k * 6 + 5, none⟩ = some (.string xx) ∧ W.cell? ⟨w.heap.size, 0, none⟩ = some (.int .i64 vw) ∧ W.cell? ⟨w.heap.size, 1, none⟩ = some (.int .u32 vt) ∧ W.cell? ⟨w.heap.size, 2, none⟩ = some (.int .u32 vm)) := Lib.hid (fun W hW => by
            have hz := (HX2.out.next HM.out.2.2).next hW
            have hbr : b < wr.heap.size := World.block_lt_of_cell? wr ⟨b, o + k * 6, none⟩ d0
            exact ⟨(hW.cell (p := ⟨b, _, none⟩) hbr).trans d0, (hW.cell (p := ⟨b, _, none⟩) hbr).trans d1, (hW.cell (p := ⟨b, _, none⟩) hbr).trans d2, (hW.cell (p := ⟨b, _, none⟩) hbr).trans d3, (hW.cell (p := ⟨b, _, none⟩) hbr).trans d4, (hW.cell (p := ⟨b, _, none⟩) hbr).trans d5, hz.cell 0, hz.cell 1, hz.cell 2⟩)
          go_upto_region 7 with fail
          go_cut [25] (fun b wc => b = .bool false ∧ Hid (Below wr.heap.size wr wc))
          case first =>
            by_cases e1 : xw = vw
            · have h1 : (xw == vw) = true := by simp [e1]
              by_cases e2 : xt = vt
              · have h2 : (xt == vt) = true := by simp [e2]
                have h3 : (xm == vm) = false := bne_of (fun e3 => HNq.out (by rw [e1, e2, e3]))
                clear e1 e2
                go_wp2_with fail
                go_quiet (fail)
                go_wp2_with fail
                go_meet
                case rel => exact ⟨rfl, Lib.hid (by repeat (first | exact bel_refl _ | apply bel_drewN | apply bel_drew))⟩
              · have h2 : (xt == vt) = false := bne_of e2
                clear e1 e2
                go_wp2_with fail
                go_quiet (fail)
                go_wp2_with fail
                go_meet
                case rel => exact ⟨rfl, Lib.hid (by repeat (first | exact bel_refl _ | apply bel_drewN | apply bel_drew))⟩
            · have h1 : (xw == vw) = false := bne_of e1
              clear e1
              go_wp2_with fail
              go_quiet (fail)
              go_wp2_with fail
              go_meet
              case rel => exact ⟨rfl, Lib.hid (by repeat (first | exact bel_refl _ | apply bel_drewN | apply bel_drew))⟩
          case rest =>
            obtain ⟨rfl, HBc⟩ := hcut
            clear d0 d1 d2 d3 d4 d5 g0 g1 g2
            obtain ⟨q0, q1, q2, q3, q4, q5, q6, q7, q8⟩ := HKs.out wc HBc.out
            have HKc : Hid (∀ W, Below wc.heap.size wc W → W.cell? ⟨b, o + k * 6, none⟩ = some (.int .i64 xw) ∧ W.cell? ⟨b, o + k * 6 + 1, none⟩ = some (.int .u32 xt) ∧ W.cell? ⟨b, o + k * 6 + 2, none⟩ = some (.int .u32 xm) ∧ W.cell? ⟨b, o + k * 6 + 3, none⟩ = some (.int .i64 xk) ∧ W.cell? ⟨b, o + k * 6 + 4, none⟩ = some (.int .i64 xn) ∧ W.cell? ⟨b, o + k * 6 + 5, none⟩ = some (.string xx) ∧ W.cell? ⟨w.heap.size, 0, none⟩ = some (.int .i64 vw) ∧ W.cell? ⟨w.heap.size, 1, none⟩ = some (.int .u32 vt) ∧ W.cell? ⟨w.heap.size, 2, none⟩ = some (.int .u32 vm)) := Lib.hid (fun W hW => HKs.out W (bel_trans HBc.out hW))
            have hbl2 := fun W => below_any ⟨xw, xt, xm⟩ ⟨vw, vt, vm⟩ W
            unfold Tm.val at hbl2
            obtain ⟨lt, hlt2⟩ : ∃ lt, decide ((⟨xw, xt, xm⟩ : Tm).lt ⟨vw, vt, vm⟩) = lt := ⟨_, rfl⟩
            have HLt := Lib.hid hlt2
            rw [hlt2] at hbl2
            have HBl := Lib.hid hbl2
            have hxc := bel_refl wc
            have hgl : w.heap.size < wc.heap.size := (HX2.out.next (bel_trans HM.out.2.2 HBc.out)).lt
            have hbc : b < wc.heap.size := World.block_lt_of_cell? wc ⟨b, o + k * 6, none⟩ q0
            have hNn : Hid (∀ y ∈ l.take (k + 1), y.at_ ≠ ⟨vw, vt, vm⟩) := Lib.hid (fun y hy => by
              obtain ⟨hk', e⟩ := List.getElem?_eq_some_iff.1 Hy.out
              rw [List.take_succ_eq_append_getElem hk', e] at hy
              rcases List.mem_append.1 hy with hy | hy
              · exact HN.out y hy
              · rw [List.mem_singleton.1 hy]; exact HNq.out)
            clear hlt2 hbl2
            go_upto_region 9 with fail
            go_region_held3 (fun W => W.cell? ⟨b, o + k * 6, none⟩ = some (.int .i64 xw) ∧ W.cell? ⟨b, o + k * 6 + 1, none⟩ = some (.int .u32 xt) ∧ W.cell? ⟨b, o + k * 6 + 2, none⟩ = some (.int .u32 xm) ∧ W.cell? ⟨b, o + k * 6 + 3, none⟩ = some (.int .i64 xk) ∧ W.cell? ⟨b, o + k * 6 + 4, none⟩ = some (.int .i64 xn) ∧ W.cell? ⟨b, o + k * 6 + 5, none⟩ = some (.string xx) ∧ W.cell? ⟨w.heap.size, 0, none⟩ = some (.int .i64 vw) ∧ W.cell? ⟨w.heap.size, 1, none⟩ = some (.int .u32 vt) ∧ W.cell? ⟨w.heap.size, 2, none⟩ = some (.int .u32 vm))
              (first | (with_reducible exact ⟨q0, q1, q2, q3, q4, q5, q6, q7, q8⟩) | (with_reducible refine HKc.out _ ?_; (repeat (first | assumption | apply bel_alloc | apply bel_drew)); done) | go_keep)
              (first
                | (go_simp; go_at_call 12; refine (HBl.out _).mono ?_; rintro e w7 ⟨rfl, hb7⟩; have hx7 : Below wc.heap.size wc w7 := bel_trans (by repeat (first | exact bel_refl _ | assumption | apply bel_alloc | apply bel_drew)) hb7; clear hb7))
            have HB7 := Lib.hid (bel_trans HBc.out hx7)
            clear q0 q1 q2 q3 q4 q5 q6 q7 q8
            obtain ⟨q0, q1, q2, q3, q4, q5, -, -, -⟩ := HKc.out w7 hx7
            clear HKc hxc hx7 hgl hbc
            have hRl : ((l.take k).filter fun y => decide (y.at_.lt (⟨vw, vt, vm⟩ : Tm))).length ≤ 65536 := Nat.le_trans (List.length_filter_le _ _) (by rw [List.length_take]; have := HL.out; omega)
            have HM7 := Lib.hid (HM.out.below HB7.out)
            cases lt with
            | true =>
              have HE : Hid ((l.take (k + 1)).filter (fun y => decide (y.at_.lt (⟨vw, vt, vm⟩ : Tm))) = (l.take k).filter (fun y => decide (y.at_.lt (⟨vw, vt, vm⟩ : Tm))) ++ [⟨⟨xw, xt, xm⟩, xk, xn, xx⟩]) := Lib.hid (by rw [HFt.out, if_pos HLt.out])
              go_wp2_with (at_builtin; apply Hold.mk)
              unfold Hold
              refine wpList_app rfl _ _ 121 rfl ok121 (by rfl) (by rfl) (HM7.out.1.below' (below_alloc _ _)) (by exact rd_lit 6 #[.int .i64 xw, .int .u32 xt, .int .u32 xm, .int .i64 xk, .int .i64 xn, .string xx] 1 (by simp) one_le rfl) (by intro u hu; simp only [List.mem_cons, List.not_mem_nil, or_false] at hu; rcases hu with rfl | rfl | rfl | rfl | rfl | rfl <;> rfl) (by simp only [maxLen]; omega) (by omega) ?_
              intro v9 w9 ho9 hg9 hn9
              have HM9 : Hid (MineW w2 w9 v9 ((l.take (k + 1)).filter (fun y => decide (y.at_.lt (⟨vw, vt, vm⟩ : Tm))))) := Lib.hid (by
                rw [HE.out]
                have h2 := mine_grown (HM7.out.below (below_alloc w7 (.cells #[.int .i64 xw, .int .u32 xt, .int .u32 xm, .int .i64 xk, .int .i64 xn, .string xx] 127))) ho9 hg9 hn9
                unfold MineW
                rw [List.length_append, flatV_snoc]
                exact h2)
              clear ho9 hg9 hn9
              go_wp2_with fail
              go_roundw
              case rel => exact ⟨k + 1, by omega, by go_num, HM9, hNn⟩
              case measure => simp [intOf]; omega
            | false =>
              have HE : Hid ((l.take (k + 1)).filter (fun y => decide (y.at_.lt (⟨vw, vt, vm⟩ : Tm))) = (l.take k).filter (fun y => decide (y.at_.lt (⟨vw, vt, vm⟩ : Tm)))) := Lib.hid (by rw [HFt.out, if_neg (by rw [HLt.out]; simp), List.append_nil])
              go_wp2_with fail
              go_roundw
              case rel => exact ⟨k + 1, by omega, by go_num, Lib.hid (by rw [HE.out]; exact HM7.out), hNn⟩
              case measure => simp [intOf]; omega
      · obtain rfl : k = l.length := by omega
        rw [List.take_length] at HM HN
        obtain ⟨wo, rfl⟩ : ∃ wo, wo = wr := ⟨_, rfl⟩
        have HPe := Lib.hid (HPC.out HN.out)
        have hz := HX2.out.next HM.out.2.2
        have g0 : wo.cell? ⟨w.heap.size, 0, none⟩ = some (.int .i64 vw) := hz.cell 0
        have g1 : wo.cell? ⟨w.heap.size, 1, none⟩ = some (.int .u32 vt) := hz.cell 1
        have g2 : wo.cell? ⟨w.heap.size, 2, none⟩ = some (.int .u32 vm) := hz.cell 2
        have g3 : wo.cell? ⟨w.heap.size, 3, none⟩ = some (.int .i64 vk) := hz.cell 3
        have g4 : wo.cell? ⟨w.heap.size, 4, none⟩ = some (.int .i64 vn) := hz.cell 4
        have g5 : wo.cell? ⟨w.heap.size, 5, none⟩ = some (.string vx) := hz.cell 5
        have hRl : (l.filter fun y => decide (y.at_.lt (⟨vw, vt, vm⟩ : Tm))).length ≤ 65536 := Nat.le_trans (List.length_filter_le _ _) HL.out
        clear hz HPC HPH HN
        go_wp2_with (at_builtin; apply Hold.mk)
        unfold Hold
        refine wpList_app rfl _ _ 121 rfl ok121 (by rfl) (by rfl) (HM.out.1.below' (below_alloc _ _)) (by exact rd_lit 6 #[.int .i64 vw, .int .u32 vt, .int .u32 vm, .int .i64 vk, .int .i64 vn, .string vx] 1 (by simp) one_le rfl) (by intro u hu; simp only [List.mem_cons, List.not_mem_nil, or_false] at hu; rcases hu with rfl | rfl | rfl | rfl | rfl | rfl <;> rfl) (by simp only [maxLen]; omega) (by omega) ?_
        intro v9 w9 ho9 hg9 hn9
        have HM9 : Hid (MineW w2 w9 v9 ((l.filter fun y => decide (y.at_.lt (⟨vw, vt, vm⟩ : Tm))) ++ (⟨⟨vw, vt, vm⟩, vk, vn, vx⟩ : Ver) :: (l.take 0).filter fun y => decide ((⟨vw, vt, vm⟩ : Tm).lt y.at_))) := Lib.hid (by
          have h2 := mine_grown (HM.out.below (below_alloc wo (.cells #[.int .i64 vw, .int .u32 vt, .int .u32 vm, .int .i64 vk, .int .i64 vn, .string vx] 127))) ho9 hg9 hn9
          show MineW w2 w9 v9 ((l.filter fun y => decide (y.at_.lt (⟨vw, vt, vm⟩ : Tm))) ++ [(⟨⟨vw, vt, vm⟩, vk, vn, vx⟩ : Ver)])
          unfold MineW
          rw [List.length_append, flatV_snoc]
          exact h2)
        clear ho9 hg9 hn9 g0 g1 g2 g3 g4 g5 HM
        go_wp2_with fail
        go_loopw [6, 8] (fun ov i wr => ∃ k : Nat, k ≤ l.length ∧ i = .int .i64 k ∧ Hid (MineW w2 wr ov ((l.filter fun y => decide (y.at_.lt (⟨vw, vt, vm⟩ : Tm))) ++ (⟨⟨vw, vt, vm⟩, vk, vn, vx⟩ : Ver) :: (l.take k).filter fun y => decide ((⟨vw, vt, vm⟩ : Tm).lt y.at_)))) (fun _ i _ => l.length - (intOf i).toNat)
        case atStart => exact ⟨0, by omega, rfl, HM9⟩
        case round =>
          clear HM9
          obtain ⟨k, hk, rfl, HM⟩ := hrel
          by_cases hlt : k < l.length
          · obtain ⟨y, hy⟩ : ∃ y, l[k]? = some y := ⟨l[k], List.getElem?_eq_getElem hlt⟩
            obtain ⟨b, o, rfl, hbl, c0, c1, c2, c3, c4, c5⟩ := rdV_cells HV.out k y hy
            have HFt := Lib.hid (fun p => filter_take hy p)
            obtain ⟨⟨xw, xt, xm⟩, xk, xn, xx⟩ := y
            simp only at c0 c1 c2 c3 c4 c5 HFt
            have HKs : Hid (∀ W, Below wr.heap.size wr W → W.cell? ⟨b, o + k * 6, none⟩ = some (.int .i64 xw) ∧ W.cell? ⟨b, o + k * 6 + 1, none⟩ = some (.int .u32 xt) ∧ W.cell? ⟨b, o + k * 6 + 2, none⟩ = some (.int .u32 xm) ∧ W.cell? ⟨b, o + k * 6 + 3, none⟩ = some (.int .i64 xk) ∧ W.cell? ⟨b, o + k * 6 + 4, none⟩ = some (.int .i64 xn) ∧ W.cell? ⟨b, o + k * 6 + 5, none⟩ = some (.string xx) ∧ W.cell? ⟨w.heap.size, 0, none⟩ = some (.int .i64 vw) ∧ W.cell? ⟨w.heap.size, 1, none⟩ = some (.int .u32 vt) ∧ W.cell? ⟨w.heap.size, 2, none⟩ = some (.int .u32 vm)) := Lib.hid (fun W hW => by
              have hz := (HX2.out.next HM.out.2.2).next hW
              have hB := bel_trans (bel_trans HB2.out HM.out.2.2) hW
              exact ⟨(hB.cell (p := ⟨b, _, none⟩) hbl).trans c0, (hB.cell (p := ⟨b, _, none⟩) hbl).trans c1, (hB.cell (p := ⟨b, _, none⟩) hbl).trans c2, (hB.cell (p := ⟨b, _, none⟩) hbl).trans c3, (hB.cell (p := ⟨b, _, none⟩) hbl).trans c4, (hB.cell (p := ⟨b, _, none⟩) hbl).trans c5, hz.cell 0, hz.cell 1, hz.cell 2⟩)
            have hk1 : (0 : Int) ≤ (k : Int) := by omega
            have hk2 : (k : Int) < (l.length : Int) := by omega
            clear c0 c1 c2 c3 c4 c5 hy
            obtain ⟨q0, q1, q2, q3, q4, q5, q6, q7, q8⟩ := HKs.out wr (bel_refl wr)
            have hbl2 := fun W => below_any (⟨vw, vt, vm⟩ : Tm) ⟨xw, xt, xm⟩ W
            unfold Tm.val at hbl2
            obtain ⟨lt, hlt2⟩ : ∃ lt, decide ((⟨vw, vt, vm⟩ : Tm).lt ⟨xw, xt, xm⟩) = lt := ⟨_, rfl⟩
            have HLt := Lib.hid hlt2
            rw [hlt2] at hbl2
            have HBl := Lib.hid hbl2
            have hxc := bel_refl wr
            have hgl : w.heap.size < wr.heap.size := (HX2.out.next HM.out.2.2).lt
            have hbc : b < wr.heap.size := World.block_lt_of_cell? wr ⟨b, o + k * 6, none⟩ q0
            clear hlt2 hbl2
            go_wp2_with fail
            go_region_held3 (fun W => W.cell? ⟨b, o + k * 6, none⟩ = some (.int .i64 xw) ∧ W.cell? ⟨b, o + k * 6 + 1, none⟩ = some (.int .u32 xt) ∧ W.cell? ⟨b, o + k * 6 + 2, none⟩ = some (.int .u32 xm) ∧ W.cell? ⟨b, o + k * 6 + 3, none⟩ = some (.int .i64 xk) ∧ W.cell? ⟨b, o + k * 6 + 4, none⟩ = some (.int .i64 xn) ∧ W.cell? ⟨b, o + k * 6 + 5, none⟩ = some (.string xx) ∧ W.cell? ⟨w.heap.size, 0, none⟩ = some (.int .i64 vw) ∧ W.cell? ⟨w.heap.size, 1, none⟩ = some (.int .u32 vt) ∧ W.cell? ⟨w.heap.size, 2, none⟩ = some (.int .u32 vm))
              (first | (with_reducible exact ⟨q0, q1, q2, q3, q4, q5, q6, q7, q8⟩) | (with_reducible refine HKs.out _ ?_; (repeat (first | assumption | apply bel_alloc | apply bel_drew)); done) | go_keep)
              (first
                | (go_simp; go_at_call 12; refine (HBl.out _).mono ?_; rintro e w7 ⟨rfl, hb7⟩; have hx7 : Below wr.heap.size wr w7 := bel_trans (by repeat (first | exact bel_refl _ | assumption | apply bel_alloc | apply bel_drew)) hb7; clear hb7))
            have HB7 := Lib.hid hx7
            clear q0 q1 q2 q3 q4 q5 q6 q7 q8
            obtain ⟨q0, q1, q2, q3, q4, q5, -, -, -⟩ := HKs.out w7 hx7
            clear HKs hxc hx7 hgl hbc
            have hRl : ((l.filter fun y => decide (y.at_.lt (⟨vw, vt, vm⟩ : Tm))) ++ (⟨⟨vw, vt, vm⟩, vk, vn, vx⟩ : Ver) :: (l.take k).filter fun y => decide ((⟨vw, vt, vm⟩ : Tm).lt y.at_)).length ≤ 131073 := by
              have h1 := List.length_filter_le (fun y => decide (y.at_.lt (⟨vw, vt, vm⟩ : Tm))) l
              have h2 := List.length_filter_le (fun y => decide ((⟨vw, vt, vm⟩ : Tm).lt y.at_)) (l.take k)
              have h3 := List.length_take_le k l
              have := HL.out
              rw [List.length_append, List.length_cons]; omega
            have HM7 := Lib.hid (HM.out.below HB7.out)
            cases lt with
            | true =>
              have HE : Hid (((l.filter fun y => decide (y.at_.lt (⟨vw, vt, vm⟩ : Tm))) ++ (⟨⟨vw, vt, vm⟩, vk, vn, vx⟩ : Ver) :: (l.take (k + 1)).filter fun y => decide ((⟨vw, vt, vm⟩ : Tm).lt y.at_)) = ((l.filter fun y => decide (y.at_.lt (⟨vw, vt, vm⟩ : Tm))) ++ (⟨⟨vw, vt, vm⟩, vk, vn, vx⟩ : Ver) :: (l.take k).filter fun y => decide ((⟨vw, vt, vm⟩ : Tm).lt y.at_)) ++ [⟨⟨xw, xt, xm⟩, xk, xn, xx⟩]) := Lib.hid (by rw [HFt.out, if_pos HLt.out, List.append_assoc, List.cons_append])
              go_wp2_with (at_builtin; apply Hold.mk)
              unfold Hold
              refine wpList_app rfl _ _ 121 rfl ok121 (by rfl) (by rfl) (HM7.out.1.below' (below_alloc _ _)) (by exact rd_lit 6 #[.int .i64 xw, .int .u32 xt, .int .u32 xm, .int .i64 xk, .int .i64 xn, .string xx] 1 (by simp) one_le rfl) (by intro u hu; simp only [List.mem_cons, List.not_mem_nil, or_false] at hu; rcases hu with rfl | rfl | rfl | rfl | rfl | rfl <;> rfl) (by simp only [maxLen]; omega) (by omega) ?_
              intro v9 w9 ho9 hg9 hn9
              have HM9 : Hid (MineW w2 w9 v9 ((l.filter fun y => decide (y.at_.lt (⟨vw, vt, vm⟩ : Tm))) ++ (⟨⟨vw, vt, vm⟩, vk, vn, vx⟩ : Ver) :: (l.take (k + 1)).filter fun y => decide ((⟨vw, vt, vm⟩ : Tm).lt y.at_))) := Lib.hid (by
                rw [HE.out]
                have h2 := mine_grown (HM7.out.below (below_alloc w7 (.cells #[.int .i64 xw, .int .u32 xt, .int .u32 xm, .int .i64 xk, .int .i64 xn, .string xx] 127))) ho9 hg9 hn9
                exact mineW_snoc h2)
              clear ho9 hg9 hn9
              go_wp2_with fail
              go_roundw
              case rel => exact ⟨k + 1, by omega, by go_num, HM9⟩
              case measure => simp [intOf]; omega
            | false =>
              have HE : Hid (((l.filter fun y => decide (y.at_.lt (⟨vw, vt, vm⟩ : Tm))) ++ (⟨⟨vw, vt, vm⟩, vk, vn, vx⟩ : Ver) :: (l.take (k + 1)).filter fun y => decide ((⟨vw, vt, vm⟩ : Tm).lt y.at_)) = ((l.filter fun y => decide (y.at_.lt (⟨vw, vt, vm⟩ : Tm))) ++ (⟨⟨vw, vt, vm⟩, vk, vn, vx⟩ : Ver) :: (l.take k).filter fun y => decide ((⟨vw, vt, vm⟩ : Tm).lt y.at_))) := Lib.hid (by rw [HFt.out, if_neg (by rw [HLt.out]; simp), List.append_nil])
              go_wp2_with fail
              go_roundw
              case rel => exact ⟨k + 1, by omega, by go_num, Lib.hid (by rw [HE.out]; exact HM7.out)⟩
              case measure => simp [intOf]; omega
          · obtain rfl : k = l.length := by omega
            rw [List.take_length] at HM
            go_wp2_with fail
            go_ret2
            exact ⟨_, (by rw [HPe.out]; rfl), by rw [HPe.out]; exact ⟨HM.out.1, fun b hb => Nat.le_trans HB2.out.size (HM.out.2.1 b hb), bel_trans HB2.out HM.out.2.2⟩⟩
  · have e : putC l x = (1, []) := by unfold putC; rw [if_pos hr]
    rw [e]
    have hd : decide (verR x) = false := by simpa using hr
    rw [hd] at HRt
    obtain ⟨⟨vw, vt, vm⟩, vk, vn, vx⟩ := x
    unfold Ver.val at HRt ⊢
    simp only at HRt ⊢
    clear hv hc hr hd e
    have HX := Lib.hid (Blk.new w #[.int .i64 vw, .int .u32 vt, .int .u32 vm, .int .i64 vk, .int .i64 vn, .string vx] 127)
    have HBa := Lib.hid (below_alloc w (.cells #[.int .i64 vw, .int .u32 vt, .int .u32 vm, .int .i64 vk, .int .i64 vn, .string vx] 127))
    go_enter Tryz.func49, Tryz.ntmps49
    go_wp2_with (first
      | (go_at_call 53; refine (HRt.out _).mono ?_; rintro e w2 ⟨rfl, hb2⟩; have HB2 := Lib.hid (bel_trans HBa.out hb2); clear hb2)
      | fail)
    go_ret2
    exact ⟨_, rfl, mine_nil_since HB2.out⟩
end Go.Proofs.YtplieoalfbpniaaGreat
