/- Chains: Cut (46). -/
import Derived.Test.YtplieoalfbpniaaGreatS4
namespace Go.Proofs.YtplieoalfbpniaaGreat
open Go.RowKit Go.Kt Go.Ix Go.Sx
set_option maxRecDepth 100000

set_option maxHeartbeats 4000000 in
theorem cutc_any (v : Value) (l : List Ver) (t : Tm) (w : World) (hv : RdV w v l) (hl : Chain l) (hn : l.length ≤ 1048576) :
    Calls Tryz.prog 46 #[v, t.val] w fun e w' => ∃ v', e = .returned v' ∧ MineV w w' v' (cutC l t) := by
  have hu := upto_place (t := t) hl
  have hpl := place_le l t
  have hul := upto_le l t
  obtain ⟨a, cap, rfl, -⟩ := hv.open
  have HV := Lib.hid hv
  have HS := Lib.hid (fun (W : World) (hW : Below w.heap.size w W) => place_any (.slice a l.length cap) l t W (hv.below hW) hl hn)
  have HG : Hid (cutAt l t = match upto l t with
    | 0 => 0
    | i + 1 => match l[i]? with
      | some v => if v.kind = 3 then i + 1 else i
      | none => 0) := Lib.hid rfl
  have HD : Hid (cutC l t = l.drop (cutAt l t)) := Lib.hid rfl
  generalize cutC l t = r at HD ⊢
  generalize cutAt l t = ca at HG HD
  generalize place l t = p at HS hu hpl
  generalize has l t = q at HS hu
  generalize upto l t = u at HG hu hul
  clear hv hl
  obtain ⟨tw, tt, tm⟩ := t
  unfold Tm.val at HS ⊢
  simp only at HS ⊢
  cases q with
  | true =>
    obtain rfl : u = p + 1 := by rw [hu]; rfl
    clear hu
    go_enter Tryz.func46, Tryz.ntmps46
    go_upto_region 4 with (first | (go_at_call 65; refine (HS.out _ (by repeat (first | exact bel_refl _ | apply bel_alloc | apply bel_drew))).mono ?_; rintro e w1 ⟨rfl, hb1⟩; have HB1 := Lib.hid hb1; clear hb1) | fail)
    have HBw := Lib.hid (bel_trans (below_alloc w (.cells #[.int .i64 tw, .int .u32 tt, .int .u32 tm] 31)) HB1.out)
    obtain ⟨x, hx⟩ : ∃ x, l[p]? = some x := ⟨l[p], List.getElem?_eq_getElem (by omega)⟩
    have HR := HG.out
    rw [hx] at HR
    simp only at HR
    obtain ⟨b, o, rfl, lb, c0, c1, c2, c3, c4, c5⟩ := rdV_cells (HV.out.below HBw.out) p x hx
    have hk1 : (0 : Int) ≤ (p : Int) := by omega
    have hk2 : (p : Int) < (l.length : Int) := by omega
    have hk3 : (0 : Int) < (p : Int) + 1 := by omega
    clear hx HG
    by_cases h3 : x.kind = 3
    · rw [if_pos h3] at HR
      have HC : Hid (l.drop (p + 1) = r) := Lib.hid (by rw [HD.out, HR])
      have e3 : (x.kind == 3) = true := by rw [beq_iff_eq]; exact h3
      clear h3 HR
      go_wp2_with (with_reducible refine hold_slice ?_)
      unfold Hold
      refine wpList_cut_lo (kl := .i64) ok96 (p + 1) (by rfl) (by rfl) (by simp) (HV.out.below HBw.out) (by omega) ?_
      intro v8 hv8
      have HV8 : Hid (RdV w1 v8 (l.drop (p + 1))) := Lib.hid (by unfold RdV; rw [List.length_drop, flatV_drop]; exact hv8)
      clear hv8
      go_wp2_with (first | (go_at_call 69; refine (clonev_any v8 (l.drop (p + 1)) _ HV8.out (by rw [List.length_drop]; omega)).mono ?_; rintro e w9 ⟨v9, rfl, hm9⟩; have HM9 := Lib.hid hm9; clear hm9) | fail)
      go_ret
      exact ⟨_, rfl, HC.out ▸ HM9.out.1, HM9.out.2.1 |> fun h b hb => Nat.le_trans HBw.out.size (h b hb), bel_trans HBw.out HM9.out.2.2⟩
    · rw [if_neg h3] at HR
      have HC : Hid (l.drop p = r) := Lib.hid (by rw [HD.out, HR])
      have e3 : (x.kind == 3) = false := bne_of h3
      clear h3 HR
      go_wp2_with (with_reducible refine hold_slice ?_)
      unfold Hold
      refine wpList_cut_lo (kl := .i64) ok96 (p) (by rfl) (by rfl) (by simp) (HV.out.below HBw.out) (by omega) ?_
      intro v8 hv8
      have HV8 : Hid (RdV w1 v8 (l.drop (p))) := Lib.hid (by unfold RdV; rw [List.length_drop, flatV_drop]; exact hv8)
      clear hv8
      go_wp2_with (first | (go_at_call 69; refine (clonev_any v8 (l.drop (p)) _ HV8.out (by rw [List.length_drop]; omega)).mono ?_; rintro e w9 ⟨v9, rfl, hm9⟩; have HM9 := Lib.hid hm9; clear hm9) | fail)
      go_ret
      exact ⟨_, rfl, HC.out ▸ HM9.out.1, HM9.out.2.1 |> fun h b hb => Nat.le_trans HBw.out.size (h b hb), bel_trans HBw.out HM9.out.2.2⟩
  | false =>
    obtain rfl : u = p := by rw [hu]; rfl
    clear hu
    cases u with
    | zero =>
      go_enter Tryz.func46, Tryz.ntmps46
      go_upto_region 4 with (first | (go_at_call 65; refine (HS.out _ (by repeat (first | exact bel_refl _ | apply bel_alloc | apply bel_drew))).mono ?_; rintro e w1 ⟨rfl, hb1⟩; have HB1 := Lib.hid hb1; clear hb1) | fail)
      have HBw := Lib.hid (bel_trans (below_alloc w (.cells #[.int .i64 tw, .int .u32 tt, .int .u32 tm] 31)) HB1.out)
      have HR := HG.out
      have HC : Hid (l.drop 0 = r) := Lib.hid (by rw [HD.out, HR])
      clear HG HR
      go_wp2_with (with_reducible refine hold_slice ?_)
      unfold Hold
      refine wpList_cut_lo (kl := .i64) ok96 (0) (by rfl) (by rfl) (by simp) (HV.out.below HBw.out) (by omega) ?_
      intro v8 hv8
      have HV8 : Hid (RdV w1 v8 (l.drop (0))) := Lib.hid (by unfold RdV; rw [List.length_drop, flatV_drop]; exact hv8)
      clear hv8
      go_wp2_with (first | (go_at_call 69; refine (clonev_any v8 (l.drop (0)) _ HV8.out (by rw [List.length_drop]; omega)).mono ?_; rintro e w9 ⟨v9, rfl, hm9⟩; have HM9 := Lib.hid hm9; clear hm9) | fail)
      go_ret
      exact ⟨_, rfl, HC.out ▸ HM9.out.1, HM9.out.2.1 |> fun h b hb => Nat.le_trans HBw.out.size (h b hb), bel_trans HBw.out HM9.out.2.2⟩
    | succ i =>
      go_enter Tryz.func46, Tryz.ntmps46
      go_upto_region 4 with (first | (go_at_call 65; refine (HS.out _ (by repeat (first | exact bel_refl _ | apply bel_alloc | apply bel_drew))).mono ?_; rintro e w1 ⟨rfl, hb1⟩; have HB1 := Lib.hid hb1; clear hb1) | fail)
      have HBw := Lib.hid (bel_trans (below_alloc w (.cells #[.int .i64 tw, .int .u32 tt, .int .u32 tm] 31)) HB1.out)
      obtain ⟨x, hx⟩ : ∃ x, l[i]? = some x := ⟨l[i], List.getElem?_eq_getElem (by omega)⟩
      have HR := HG.out
      rw [hx] at HR
      simp only at HR
      obtain ⟨b, o, rfl, lb, c0, c1, c2, c3, c4, c5⟩ := rdV_cells (HV.out.below HBw.out) i x hx
      have hk1 : (0 : Int) ≤ (i : Int) := by omega
      have hk2 : (i : Int) < (l.length : Int) := by omega
      have hk3 : (0 : Int) < (i : Int) + 1 := by omega
      clear hx HG
      by_cases h3 : x.kind = 3
      · rw [if_pos h3] at HR
        have HC : Hid (l.drop (i + 1) = r) := Lib.hid (by rw [HD.out, HR])
        have e3 : (x.kind == 3) = true := by rw [beq_iff_eq]; exact h3
        clear h3 HR
        go_wp2_with (with_reducible refine hold_slice ?_)
        unfold Hold
        refine wpList_cut_lo (kl := .i64) ok96 (i + 1) (by rfl) (by rfl) (by simp) (HV.out.below HBw.out) (by omega) ?_
        intro v8 hv8
        have HV8 : Hid (RdV w1 v8 (l.drop (i + 1))) := Lib.hid (by unfold RdV; rw [List.length_drop, flatV_drop]; exact hv8)
        clear hv8
        go_wp2_with (first | (go_at_call 69; refine (clonev_any v8 (l.drop (i + 1)) _ HV8.out (by rw [List.length_drop]; omega)).mono ?_; rintro e w9 ⟨v9, rfl, hm9⟩; have HM9 := Lib.hid hm9; clear hm9) | fail)
        go_ret
        exact ⟨_, rfl, HC.out ▸ HM9.out.1, HM9.out.2.1 |> fun h b hb => Nat.le_trans HBw.out.size (h b hb), bel_trans HBw.out HM9.out.2.2⟩
      · rw [if_neg h3] at HR
        have HC : Hid (l.drop i = r) := Lib.hid (by rw [HD.out, HR])
        have e3 : (x.kind == 3) = false := bne_of h3
        clear h3 HR
        go_wp2_with (with_reducible refine hold_slice ?_)
        unfold Hold
        refine wpList_cut_lo (kl := .i64) ok96 (i) (by rfl) (by rfl) (by simp) (HV.out.below HBw.out) (by omega) ?_
        intro v8 hv8
        have HV8 : Hid (RdV w1 v8 (l.drop (i))) := Lib.hid (by unfold RdV; rw [List.length_drop, flatV_drop]; exact hv8)
        clear hv8
        go_wp2_with (first | (go_at_call 69; refine (clonev_any v8 (l.drop (i)) _ HV8.out (by rw [List.length_drop]; omega)).mono ?_; rintro e w9 ⟨v9, rfl, hm9⟩; have HM9 := Lib.hid hm9; clear hm9) | fail)
        go_ret
        exact ⟨_, rfl, HC.out ▸ HM9.out.1, HM9.out.2.1 |> fun h b hb => Nat.le_trans HBw.out.size (h b hb), bel_trans HBw.out HM9.out.2.2⟩
end Go.Proofs.YtplieoalfbpniaaGreat
