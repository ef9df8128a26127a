/- The document's Scan (29). -/
import Derived.Test.YtplieoalfbpniaaGreatD9
set_option linter.unusedVariables false
set_option linter.unusedSimpArgs false
namespace Go.Proofs.YtplieoalfbpniaaGreat
open Go.RowKit Go.Kt Go.Ix Go.Sx
set_option maxRecDepth 100000
theorem scanL_one (A : List It) (x : It) (p : List Pr → Bool) (a b : Int) (t : Tm) : scanL (A ++ [x]) p a b t = scanL A p a b t ++ (if p x.set = true then tell x a b t else none).toList := by
  unfold scanL
  rw [List.filterMap_append]
  congr 1
set_option maxHeartbeats 16000000 in
theorem rscan_any {F : Nat → Prop} (v : Value) (Q : List Itm) (rv : Value) (rules : List Rl) (fr to_ : Int) (t : Tm) (w : World) (h : RSt F w v Q) (hr : RdR w rv rules) (hl : Q.length ≤ 65536) (hq : ∀ x ∈ Q, Chain x.it.l ∧ x.it.l.length ≤ 65536) (hrt : ∀ x ∈ Q, RightP x.it.set)
    (hall : ∀ (W : World) (x : Itm), x ∈ Q → Below w.heap.size w W → Calls Tryz.prog 56 #[rv, x.sv] W fun e w' => e = .returned (.bool (allB rules x.it.set)) ∧ Below W.heap.size W w') :
    Calls Tryz.prog 29 #[.agg #[v], rv, .int .i64 fr, .int .i64 to_, t.val] w fun e w' => ∃ v' R, e = .returned v' ∧ RdN w' v' R ∧ R.map Pn.told = scanL (toldI Q) (fun d => allB rules d) fr to_ t ∧ Below w.heap.size w w' := by
  obtain ⟨a, cap, rfl, hcap, hbig, hcell⟩ := h.open
  have Hcell := Lib.hid hcell
  have HL := Lib.hid hl
  have HQ := Lib.hid hq
  have HA := Lib.hid hall
  clear hcell h hl hq hall hrt hr
  obtain ⟨tw, tt, tm⟩ := t
  have HX := Lib.hid ((Blk.new w #[.slice a Q.length cap] 67).next (below_alloc _ (.cells #[.int .i64 tw, .int .u32 tt, .int .u32 tm] 25)))
  have HZ := Lib.hid (Blk.new (w.alloc (.cells #[.slice a Q.length cap] 67)) #[.int .i64 tw, .int .u32 tt, .int .u32 tm] 25)
  rw [World.size_alloc] at HZ
  have HBa := Lib.hid (bel_alloc (o := .cells #[.int .i64 tw, .int .u32 tt, .int .u32 tm] 25) (below_alloc w (.cells #[.slice a Q.length cap] 67)))
  unfold Tm.val
  simp only
  go_enter Tryz.func29, Tryz.ntmps29
  go_wp2_with fail
  generalize (w.alloc (.cells #[.slice a Q.length cap] 67)).alloc (.cells #[.int .i64 tw, .int .u32 tt, .int .u32 tm] 25) = w1 at HX HZ HBa ⊢
  have HM0 : Hid (Mine 112 8 w1 w1 (.slice none 0 0) ([] : List Pn).length (flatN [])) := Lib.hid (mine_nil 112 8 w1)
  have HS0 : Hid (([] : List Pn).map Pn.told = scanL (toldI (Q.take 0)) (fun d => allB rules d) fr to_ ⟨tw, tt, tm⟩ ∧ (∀ q ∈ ([] : List Pn), RdP w q.sv q.st) ∧ ([] : List Pn).length ≤ 0) := Lib.hid ⟨rfl, (fun q hq => by cases hq), Nat.le_refl _⟩
  go_loopw [11, 12] (fun ov i wr => ∃ (k : Nat) (R : List Pn), k ≤ Q.length ∧ i = .int .i64 k ∧ Hid (Mine 112 8 w1 wr ov R.length (flatN R)) ∧ Hid (R.map Pn.told = scanL (toldI (Q.take k)) (fun d => allB rules d) fr to_ ⟨tw, tt, tm⟩ ∧ (∀ q ∈ R, RdP w q.sv q.st) ∧ R.length ≤ k)) (fun _ i _ => Q.length - (intOf i).toNat)
  case atStart => exact ⟨0, [], by omega, rfl, HM0, HS0⟩
  case round =>
    clear HM0 HS0
    obtain ⟨k, R, hk, rfl, HM, HS⟩ := hrel
    have x0 : wr.cell? ⟨w.heap.size, 0, none⟩ = some (.slice a Q.length cap) := (HX.out.next HM.out.2.2).cell 0
    by_cases hlt : k < Q.length
    · obtain ⟨x, hx⟩ : ∃ x, Q[k]? = some x := ⟨Q[k], List.getElem?_eq_getElem hlt⟩
      obtain ⟨hr, b, o, rfl, hbl, c0, c1, c2⟩ := Hcell.out k x hx
      have hqx := HQ.out x (List.mem_of_getElem? hx)
      have hax := fun W => HA.out W x (List.mem_of_getElem? hx)
      have HTk := Lib.hid (show scanL (toldI (Q.take (k + 1))) (fun d => allB rules d) fr to_ ⟨tw, tt, tm⟩ = _ by rw [toldI_take hx, scanL_one])
      obtain ⟨⟨xs, xt, xl⟩, sv, lv⟩ := x
      obtain ⟨sa, sc, hsv, -⟩ := hr.set.open
      obtain ⟨la, lc, hlv, -⟩ := hr.ver.open
      simp only at hsv hlv
      subst hsv hlv
      simp only at c0 c1 c2 hqx HTk hax
      have HR := Lib.hid hr.set
      have HV := Lib.hid hr.ver
      simp only at HR HV
      have HAx := Lib.hid hax
      have hB := bel_trans HBa.out HM.out.2.2
      have d0 : wr.cell? ⟨b, o + k * 3, none⟩ = some (.slice sa xs.length sc) := (hB.cell (p := ⟨b, _, none⟩) hbl).trans c0
      have d1 : wr.cell? ⟨b, o + k * 3 + 1, none⟩ = some (.int .i64 xt) := (hB.cell (p := ⟨b, _, none⟩) hbl).trans c1
      have d2 : wr.cell? ⟨b, o + k * 3 + 2, none⟩ = some (.slice la xl.length lc) := (hB.cell (p := ⟨b, _, none⟩) hbl).trans c2
      have hk1 : (0 : Int) ≤ (k : Int) := by omega
      have hk2 : (k : Int) < (Q.length : Int) := by omega
      have HXn := Lib.hid (Blk.new wr #[.slice sa xs.length sc, .int .i64 xt, .slice la xl.length lc] 123)
      have HBn := Lib.hid (below_alloc wr (.cells #[.slice sa xs.length sc, .int .i64 xt, .slice la xl.length lc] 123))
      have hRl : R.length + 1 ≤ 65537 := by have := HS.out.2.2; have := HL.out; omega
      have Hqx := Lib.hid hqx
      have HB := Lib.hid hB
      clear c0 c1 c2 hx hr hB hqx hax
      go_upto_region 6 with fail
      generalize wr.alloc (.cells #[.slice sa xs.length sc, .int .i64 xt, .slice la xl.length lc] 123) = w5 at HXn HBn ⊢
      have hz5 := (HZ.out.next HM.out.2.2).next HBn.out
      have z0 : w5.cell? ⟨w.heap.size + 1, 0, none⟩ = some (.int .i64 tw) := hz5.cell 0
      have z1 : w5.cell? ⟨w.heap.size + 1, 1, none⟩ = some (.int .u32 tt) := hz5.cell 1
      have z2 : w5.cell? ⟨w.heap.size + 1, 2, none⟩ = some (.int .u32 tm) := hz5.cell 2
      have y2 : w5.cell? ⟨wr.heap.size, 2, none⟩ = some (.slice la xl.length lc) := HXn.out.cell 2
      have HG := Lib.hid (rget_any (.slice la xl.length lc) xl ⟨tw, tt, tm⟩ w5 (HV.out.below (bel_trans HB.out HBn.out)) Hqx.out.1 Hqx.out.2)
      unfold Tm.val Ver.val at HG
      simp only at HG
      clear d0 d1 d2 hz5
      go_upto_region 7 with (first
        | (go_at_call 55; refine HG.out.mono ?_; rintro e w7 ⟨⟨⟨vw, vt, vm⟩, vk, vn, vx⟩, ok, rfl, hg, hb7⟩; have Hg := Lib.hid hg; have HX7 := Lib.hid (HXn.out.next hb7); have HB7 := Lib.hid (bel_trans HBn.out hb7); clear hg hb7)
        | fail)
      have HXv := Lib.hid (Blk.new w7 #[.int .i64 vw, .int .u32 vt, .int .u32 vm, .int .i64 vk, .int .i64 vn, .string vx] 127)
      have hbv := below_alloc w7 (.cells #[.int .i64 vw, .int .u32 vt, .int .u32 vm, .int .i64 vk, .int .i64 vn, .string vx] 127)
      have HX8 := Lib.hid (HX7.out.next hbv)
      have HB8 := Lib.hid (bel_trans HB7.out hbv)
      clear hbv z0 z1 z2 y2 HG
      generalize w7.alloc (.cells #[.int .i64 vw, .int .u32 vt, .int .u32 vm, .int .i64 vk, .int .i64 vn, .string vx] 127) = w8 at HXv HX8 HB8 ⊢
      have q0 : w8.cell? ⟨wr.heap.size, 0, none⟩ = some (.slice sa xs.length sc) := HX8.out.cell 0
      have q1 : w8.cell? ⟨wr.heap.size, 1, none⟩ = some (.int .i64 xt) := HX8.out.cell 1
      have HAc := Lib.hid (HAx.out w8 (bel_trans HB.out HB8.out))
      cases ok with
      | false =>
        have hno : True := trivial
        have HTe : Hid (scanL (toldI (Q.take (k + 1))) (fun d => allB rules d) fr to_ ⟨tw, tt, tm⟩ = scanL (toldI (Q.take k)) (fun d => allB rules d) fr to_ ⟨tw, tt, tm⟩) := Lib.hid (by rw [HTk.out]; unfold tell; simp only [Hg.out]; simp [hno])
        have HB9 := Lib.hid (bel_refl w8)
        go_wp2_with fail
        go_roundw
        case rel => exact ⟨k + 1, R, by omega, by go_num, Lib.hid ((HM.out.below HB8.out).below HB9.out), Lib.hid ⟨by rw [HTe.out]; exact HS.out.1, HS.out.2.1, Nat.le_succ_of_le HS.out.2.2⟩⟩
        case measure => simp [intOf]; omega
      | true =>
        by_cases h1 : fr ≤ xt
        · have e1 : decide (fr ≤ xt) = true := by simpa using h1
          by_cases h2 : xt < to_
          · have e2 : decide (xt < to_) = true := by simpa using h2
            cases h3 : allB rules xs with
            | false =>
              have H3 := Lib.hid h3
              rw [h3] at HAc
              clear h3
              have HTe : Hid (scanL (toldI (Q.take (k + 1))) (fun d => allB rules d) fr to_ ⟨tw, tt, tm⟩ = scanL (toldI (Q.take k)) (fun d => allB rules d) fr to_ ⟨tw, tt, tm⟩) := Lib.hid (by rw [HTk.out]; unfold tell; simp only [Hg.out]; simp [H3.out])
              go_wp2_with (first | (go_at_call 56; refine HAc.out.mono ?_; rintro e w9 ⟨rfl, hb9⟩; have HB9 := Lib.hid hb9; clear hb9) | fail)
              go_roundw
              case rel => exact ⟨k + 1, R, by omega, by go_num, Lib.hid ((HM.out.below HB8.out).below HB9.out), Lib.hid ⟨by rw [HTe.out]; exact HS.out.1, HS.out.2.1, Nat.le_succ_of_le HS.out.2.2⟩⟩
              case measure => simp [intOf]; omega
            | true =>
              have HTe : Hid (scanL (toldI (Q.take (k + 1))) (fun d => allB rules d) fr to_ ⟨tw, tt, tm⟩ = scanL (toldI (Q.take k)) (fun d => allB rules d) fr to_ ⟨tw, tt, tm⟩ ++ [(xs, xt, ⟨⟨vw, vt, vm⟩, vk, vn, vx⟩)]) := Lib.hid (by rw [HTk.out]; unfold tell; simp only [Hg.out]; simp [h1, h2, h3])
              rw [h3] at HAc
              clear h3
              go_wp2_with (first
                | (go_at_call 56; refine HAc.out.mono ?_; rintro e w9 ⟨rfl, hb9⟩; have HB9 := Lib.hid hb9; have p0 : w9.cell? ⟨wr.heap.size, 0, none⟩ = some (.slice sa xs.length sc) := (HX8.out.next hb9).cell 0; have p1 : w9.cell? ⟨wr.heap.size, 1, none⟩ = some (.int .i64 xt) := (HX8.out.next hb9).cell 1; have v0 : w9.cell? ⟨w7.heap.size, 0, none⟩ = some (.int .i64 vw) := (HXv.out.next hb9).cell 0; have v1 : w9.cell? ⟨w7.heap.size, 1, none⟩ = some (.int .u32 vt) := (HXv.out.next hb9).cell 1; have v2 : w9.cell? ⟨w7.heap.size, 2, none⟩ = some (.int .u32 vm) := (HXv.out.next hb9).cell 2; have v3 : w9.cell? ⟨w7.heap.size, 3, none⟩ = some (.int .i64 vk) := (HXv.out.next hb9).cell 3; have v4 : w9.cell? ⟨w7.heap.size, 4, none⟩ = some (.int .i64 vn) := (HXv.out.next hb9).cell 4; have v5 : w9.cell? ⟨w7.heap.size, 5, none⟩ = some (.string vx) := (HXv.out.next hb9).cell 5; clear hb9)
                | (at_builtin; apply Hold.mk))
              unfold Hold
              refine wpList_app rfl _ _ 53 rfl ok53 (by rfl) (by rfl) (((HM.out.1.below' HB8.out).below' HB9.out).below' (below_alloc _ _)) (by exact rd_lit 8 #[.slice sa xs.length sc, .int .i64 xt, .int .i64 vk, .int .i64 vn, .string vx, .int .i64 vw, .int .u32 vt, .int .u32 vm] 1 (by simp) one_le rfl) (pcells_one ⟨xs, xt, ⟨⟨vw, vt, vm⟩, vk, vn, vx⟩, .slice sa xs.length sc⟩ rfl) (by simp only [maxLen]; omega) (by omega) ?_
              intro vA wA hoA hgA hnA
              have HMA : Hid (Mine 112 8 w1 wA vA (R ++ [(⟨xs, xt, ⟨⟨vw, vt, vm⟩, vk, vn, vx⟩, .slice sa xs.length sc⟩ : Pn)]).length (flatN (R ++ [(⟨xs, xt, ⟨⟨vw, vt, vm⟩, vk, vn, vx⟩, .slice sa xs.length sc⟩ : Pn)]))) := Lib.hid (by
                have h2 := mine_grown (((HM.out.below HB8.out).below HB9.out).below (below_alloc _ _)) hoA hgA hnA
                rw [List.length_append, flatN_snoc]
                exact h2)
              clear hoA hgA hnA
              go_wp2_with fail
              go_roundw
              case rel => exact ⟨k + 1, _, by omega, by go_num, HMA, Lib.hid ⟨by rw [HTe.out, List.map_append, HS.out.1]; rfl, fun q hq => by
                rcases List.mem_append.1 hq with hq | hq
                · exact HS.out.2.1 q hq
                · rw [List.mem_singleton.1 hq]; exact HR.out, by rw [List.length_append]; have := HS.out.2.2; simp; omega⟩⟩
              case measure => simp [intOf]; omega
          · have e2 : decide (xt < to_) = false := by simpa using h2
            have HTe : Hid (scanL (toldI (Q.take (k + 1))) (fun d => allB rules d) fr to_ ⟨tw, tt, tm⟩ = scanL (toldI (Q.take k)) (fun d => allB rules d) fr to_ ⟨tw, tt, tm⟩) := Lib.hid (by rw [HTk.out]; unfold tell; simp only [Hg.out]; simp [h2])
            have HB9 := Lib.hid (bel_refl w8)
            go_wp2_with fail
            go_roundw
            case rel => exact ⟨k + 1, R, by omega, by go_num, Lib.hid ((HM.out.below HB8.out).below HB9.out), Lib.hid ⟨by rw [HTe.out]; exact HS.out.1, HS.out.2.1, Nat.le_succ_of_le HS.out.2.2⟩⟩
            case measure => simp [intOf]; omega
        · have e1 : decide (fr ≤ xt) = false := by simpa using h1
          have HTe : Hid (scanL (toldI (Q.take (k + 1))) (fun d => allB rules d) fr to_ ⟨tw, tt, tm⟩ = scanL (toldI (Q.take k)) (fun d => allB rules d) fr to_ ⟨tw, tt, tm⟩) := Lib.hid (by rw [HTk.out]; unfold tell; simp only [Hg.out]; simp [h1])
          have HB9 := Lib.hid (bel_refl w8)
          go_wp2_with fail
          go_roundw
          case rel => exact ⟨k + 1, R, by omega, by go_num, Lib.hid ((HM.out.below HB8.out).below HB9.out), Lib.hid ⟨by rw [HTe.out]; exact HS.out.1, HS.out.2.1, Nat.le_succ_of_le HS.out.2.2⟩⟩
          case measure => simp [intOf]; omega
    · obtain rfl : k = Q.length := by omega
      rw [List.take_length] at HS
      go_wp2_with fail
      go_ret
      exact ⟨_, R, rfl, ⟨HM.out.rd, fun q hq => (HS.out.2.1 q hq).below (bel_trans HBa.out HM.out.2.2)⟩, HS.out.1, bel_trans HBa.out HM.out.2.2⟩
end Go.Proofs.YtplieoalfbpniaaGreat
