/- The contract of the reference's Open (function 16): of any bytes it returns Fr.opened, the payload in a new row. -/
import Derived.Test.YtokmiphgalpahaaFW6
namespace Go.Proofs.Ytokmiphgalpahaa.Fm
open Go.RowKit Go.Kt

namespace Fr
theorem ofNat_of {x : UInt8} {n : Nat} (h : n % 256 = x.toNat) : UInt8.ofNat n = x := by
  apply UInt8.toNat_inj.1; rw [UInt8.toNat_ofNat', h]
/-- the first nine bytes agree just where the sums do -/
theorem nine_iff (x1 x2 x3 x4 x5 x6 x7 x8 : UInt8) (p t : List UInt8) (hp : p.length = num x2 x3 x4) :
    (∀ j, j < 9 → (sealed x1 p).getD j 0 = (167 :: x1 :: x2 :: x3 :: x4 :: x5 :: x6 :: x7 :: x8 :: t).getD j 0) ↔ sum x1 p = num4 x5 x6 x7 x8 := by
  have e : ∀ j, j < 9 → (sealed x1 p).getD j 0 = (167 :: x1 :: UInt8.ofNat (p.length / 65536) :: UInt8.ofNat (p.length / 256) :: UInt8.ofNat p.length :: UInt8.ofNat (sum x1 p) :: UInt8.ofNat (sum x1 p / 256) :: UInt8.ofNat (sum x1 p / 65536) :: UInt8.ofNat (sum x1 p / 16777216) :: p).getD j 0 := fun j _ => rfl
  have hs : sum x1 p < 4294967296 := crc_lt _ _
  have b2 := x2.toNat_lt
  have b3 := x3.toNat_lt
  have b4 := x4.toNat_lt
  have b5 := x5.toNat_lt
  have b6 := x6.toNat_lt
  have b7 := x7.toNat_lt
  have b8 := x8.toNat_lt
  generalize sum x1 p = c at *
  have n2 : UInt8.ofNat (p.length / 65536) = x2 := ofNat_of (by rw [hp]; unfold num; omega)
  have n3 : UInt8.ofNat (p.length / 256) = x3 := ofNat_of (by rw [hp]; unfold num; omega)
  have n4 : UInt8.ofNat p.length = x4 := ofNat_of (by rw [hp]; unfold num; omega)
  rw [n2, n3, n4] at e
  constructor
  · intro h
    have h5 := (e 5 (by omega)).symm.trans (h 5 (by omega))
    have h6 := (e 6 (by omega)).symm.trans (h 6 (by omega))
    have h7 := (e 7 (by omega)).symm.trans (h 7 (by omega))
    have h8 := (e 8 (by omega)).symm.trans (h 8 (by omega))
    simp only [List.getD_cons_succ, List.getD_cons_zero] at h5 h6 h7 h8
    rw [← num4_le c hs, h5, h6, h7, h8]
  · intro h j hj
    rw [e j hj]
    have e5 : UInt8.ofNat c = x5 := ofNat_of (by rw [h]; unfold num4; omega)
    have e6 : UInt8.ofNat (c / 256) = x6 := ofNat_of (by rw [h]; unfold num4; omega)
    have e7 : UInt8.ofNat (c / 65536) = x7 := ofNat_of (by rw [h]; unfold num4; omega)
    have e8 : UInt8.ofNat (c / 16777216) = x8 := ofNat_of (by rw [h]; unfold num4; omega)
    rw [e5, e6, e7, e8]
    match j, hj with
    | 0, _ => rfl
    | 1, _ => rfl
    | 2, _ => rfl
    | 3, _ => rfl
    | 4, _ => rfl
    | 5, _ => rfl
    | 6, _ => rfl
    | 7, _ => rfl
    | 8, _ => rfl
end Fr

theorem refopen_form (v : Value) (x0 : UInt8) (t : List UInt8) (w : World) (hv : Rd8 w v (x0 :: t)) (hx : x0 ≠ 167) : Calls Try.prog 59 #[v] w (Opens w (Fr.bad 10)) := by
  obtain ⟨a, cap, rfl, hcap, hbig, hn, hc⟩ := hv.open
  obtain ⟨bb, o, rfl, hcell⟩ := hc 0 (by simp)
  simp only [Nat.add_zero, List.getElem_cons_zero] at hcell
  have hb := bne8 x0 167 167 rfl
  rw [show (x0 != 167) = true by simpa using hx] at hb
  simp only [List.length_cons] at hcap ⊢
  unfold maxLen at hbig
  clear hc hn hv hx
  go_enter Try.func59, Try.ntmps59
  go_wp2_with fail
  exact bodyPost_ret (v := .tuple #[.int .u8 0, .slice none 0 0, .int .i64 0, .int .i64 10]) (by simp [results, Try.results59, go_sem]) rfl (opens_bad 10 (Below.refl _ _))

theorem refopen_empty (v : Value) (w : World) (hv : Rd8 w v []) : Calls Try.prog 59 #[v] w (Opens w (Fr.bad 9)) := by
  obtain ⟨a, cap, rfl, hcap, hbig, hn, hc⟩ := hv.open
  simp only [List.length_nil] at hcap ⊢
  unfold maxLen at hbig
  clear hc hn hv
  go_enter Try.func59, Try.ntmps59
  go_wp2_with fail
  exact bodyPost_ret (v := .tuple #[.int .u8 0, .slice none 0 0, .int .i64 0, .int .i64 9]) (by simp [results, Try.results59, go_sem]) rfl (opens_bad 9 (Below.refl _ _))

theorem refopen_short (v : Value) (t : List UInt8) (w : World) (hv : Rd8 w v (167 :: t)) (hs : t.length < 8) : Calls Try.prog 59 #[v] w (Opens w (Fr.bad 9)) := by
  obtain ⟨a, cap, rfl, hcap, hbig, hn, hc⟩ := hv.open
  obtain ⟨bb, o, rfl, hcell⟩ := hc 0 (by simp)
  simp only [Nat.add_zero, List.getElem_cons_zero, show UInt8.toNat 167 = 167 by rfl] at hcell
  have hcell' : w.cell? ⟨bb, o, none⟩ = some (.int .u8 167) := hcell
  simp only [List.length_cons] at hcap ⊢
  unfold maxLen at hbig
  clear hc hn hv hcell
  go_enter Try.func59, Try.ntmps59
  go_wp2_with fail
  exact bodyPost_ret (v := .tuple #[.int .u8 0, .slice none 0 0, .int .i64 0, .int .i64 9]) (by simp [results, Try.results59, go_sem]) rfl (opens_bad 9 (Below.refl _ _))

section
variable (v : Value) (w : World) (x1 x2 x3 x4 x5 x6 x7 x8 : UInt8) (t : List UInt8) (hv : Rd8 w v (167 :: x1 :: x2 :: x3 :: x4 :: x5 :: x6 :: x7 :: x8 :: t))
include hv
set_option maxHeartbeats 400000 in
theorem refopen_limit (hl : 1048576 < Fr.num x2 x3 x4) : Calls Try.prog 59 #[v] w (Opens w (Fr.bad 8)) := by
  obtain ⟨bb, o, cap, rfl, hcap, hbig, h0, h1, h2, h3, h4, h5, h6, h7, h8⟩ := rd8_nine hv
  have h0' : w.cell? ⟨bb, o, none⟩ = some (.int .u8 167) := h0
  clear h0
  have b2 := x2.toNat_lt
  have b3 := x3.toNat_lt
  have b4 := x4.toNat_lt
  unfold Fr.num at hl
  generalize x2.toNat = y2 at *
  generalize x3.toNat = y3 at *
  generalize x4.toNat = y4 at *
  clear hv h5 h6 h7 h8 h1
  go_enter Try.func59, Try.ntmps59
  go_wp2_with fail
  go_quiet (fail)
  go_wp2_with fail
  exact bodyPost_ret (v := .tuple #[.int .u8 0, .slice none 0 0, .int .i64 0, .int .i64 8]) (by simp [results, Try.results59, go_sem]) rfl (opens_bad 8 (below_drewN _ _))

set_option maxHeartbeats 400000 in
theorem refopen_cut (hl : Fr.num x2 x3 x4 ≤ 1048576) (hs : t.length < Fr.num x2 x3 x4) : Calls Try.prog 59 #[v] w (Opens w (Fr.bad 9)) := by
  obtain ⟨bb, o, cap, rfl, hcap, hbig, h0, h1, h2, h3, h4, h5, h6, h7, h8⟩ := rd8_nine hv
  have h0' : w.cell? ⟨bb, o, none⟩ = some (.int .u8 167) := h0
  clear h0
  have b2 := x2.toNat_lt
  have b3 := x3.toNat_lt
  have b4 := x4.toNat_lt
  unfold Fr.num at hl hs
  generalize x2.toNat = y2 at *
  generalize x3.toNat = y3 at *
  generalize x4.toNat = y4 at *
  clear hv h5 h6 h7 h8 h1
  go_enter Try.func59, Try.ntmps59
  go_wp2_with fail
  go_quiet (fail)
  go_wp2_with fail
  exact bodyPost_ret (v := .tuple #[.int .u8 0, .slice none 0 0, .int .i64 0, .int .i64 9]) (by simp [results, Try.results59, go_sem]) rfl (opens_bad 9 (below_drewN _ _))

set_option maxHeartbeats 1000000 in
theorem refopen_sum (hl : Fr.num x2 x3 x4 ≤ 1048576) (hs : Fr.num x2 x3 x4 ≤ t.length) :
    Calls Try.prog 59 #[v] w (Opens w (Fr.fin x1 (t.take (Fr.num x2 x3 x4)) (Fr.num x2 x3 x4) (Fr.num4 x5 x6 x7 x8))) := by
  have hv0 := Lib.hid hv
  obtain ⟨bb, o, cap, rfl, hcap, hbig, h0, h1, h2, h3, h4, h5, h6, h7, h8⟩ := rd8_nine hv
  have h0' : w.cell? ⟨bb, o, none⟩ = some (.int .u8 167) := h0
  have hp : (t.take (Fr.num x2 x3 x4)).length = Fr.num x2 x3 x4 := by simp; omega
  have Hnine := Lib.hid (Fr.nine_iff x1 x2 x3 x4 x5 x6 x7 x8 (t.take (Fr.num x2 x3 x4)) t hp)
  have b2 := x2.toNat_lt
  have b3 := x3.toNat_lt
  have b4 := x4.toNat_lt
  have hN : Fr.num x2 x3 x4 = x2.toNat * 65536 + x3.toNat * 256 + x4.toNat := rfl
  have hle : (Fr.sealed x1 (t.take (Fr.num x2 x3 x4))).length = 9 + Fr.num x2 x3 x4 := by rw [Fr.sealed_len, hp]
  generalize Fr.num x2 x3 x4 = n at *
  generalize Fr.num4 x5 x6 x7 x8 = m at *
  generalize x2.toNat = y2 at *
  generalize x3.toNat = y3 at *
  generalize x4.toNat = y4 at *
  have HN' : Hid ((↑y2 * 65536 + ↑y3 * 256 + ↑y4 : Int) = (n : Int)) := Lib.hid (by omega)
  -- the nine bytes by their index
  have hlb : bb < w.heap.size := World.block_lt_of_cell? w _ h0
  have hB : ∀ j, j < 9 → w.cell? ⟨bb, o + j, none⟩ = some (.int .u8 (((167 :: x1 :: x2 :: x3 :: x4 :: x5 :: x6 :: x7 :: x8 :: t).getD j 0).toNat : Int)) := by
    obtain ⟨a', cap', e, _, _, _, hc⟩ := hv0.out.open
    cases e
    intro j hj
    obtain ⟨b', o', e, hc'⟩ := hc j (by simp; omega)
    cases e
    rw [hc', List.getD_eq_getElem?_getD, List.getElem?_eq_getElem (by simp; omega)]
    rfl
  have HB := Lib.hid hB
  clear hB hN hv h5 h6 h7 h8 h0
  generalize hpp : t.take n = p at *
  have Hpp := Lib.hid hpp
  have Hp := Lib.hid hp
  have hpl : p.length ≤ 1048576 := by omega
  clear hpp hp
  have Hfin : Hid (Fr.fin x1 p n m = if Fr.sum x1 p = m then ⟨x1, p, 9 + n, 0⟩ else Fr.bad 30) := Lib.hid rfl
  generalize Fr.fin x1 p n m = r at *
  go_enter Try.func59, Try.ntmps59
  go_wp2_with fail
  go_quiet (fail)
  rw [HN'.out]
  go_wp2_with (with_reducible refine hold_slice ?_)
  unfold Hold
  refine wpList_cut8 ok23 _ 9 (9 + n) rfl rfl rfl rfl (by simp) ((hv0.out.drewN _).below (below_alloc _ _)) (by omega) (by simp only [List.length_cons]; omega) ?_
  intro v1 hv1
  have Hv1 : Hid (Rd8 _ v1 p) := Lib.hid (by simpa [Hpp.out] using hv1)
  clear hv1
  go_wp2_with (at_builtin; apply Hold.mk)
  unfold Hold
  refine wpList_app8_mine rfl _ _ 22 rfl ok23 [] p rfl rfl w ((below_drewN _ _).alloc (Nat.le_refl _) _) (mine8_at [] (by simp [maxLen]) rfl rfl (Nat.le_refl _) rfl) Hv1.out (by simp only [List.length_nil]; omega) ?_
  intro v2 w2 hm hb _ _
  have Hm2 : Hid (Mine8 5 w w2 v2 p) := Lib.hid (by simpa using hm)
  have Hb2 := Lib.hid hb
  have h1' : w2.cell? ⟨bb, o + 1, none⟩ = some (.int .u8 (x1.toNat : Int)) := (hb.cell (p := ⟨bb, o + 1, none⟩) hlb).trans h1
  clear hm hb Hv1
  go_wp2_with fail
  refine (refseal_ok x1 _ p _ Hm2.out.rd hpl).mono ?_
  rintro e w3 ⟨v3, rfl, hm, hb⟩
  have Hb3 := Lib.hid (Hb2.out.trans (hb.mono Hb2.out.size))
  have Hm3 := Lib.hid (Hm2.out.below hb)
  obtain ⟨ag, cg, rfl, hg1, hg2, hg3, hg4⟩ := hm.rd.open
  obtain ⟨ab, ao, rfl, -⟩ := hg4 0 (by omega)
  have HA : Hid (∀ j, j < 9 → w3.cell? ⟨ab, ao + j, none⟩ = some (.int .u8 (((Fr.sealed x1 p).getD j 0).toNat : Int))) := Lib.hid (by
    intro j hj
    obtain ⟨b', o', e, hc'⟩ := hg4 j (by omega)
    cases e
    rw [hc', List.getD_eq_getElem?_getD, List.getElem?_eq_getElem (by omega)]
    rfl)
  have HB3 : Hid (∀ j, j < 9 → w3.cell? ⟨bb, o + j, none⟩ = some (.int .u8 (((167 :: x1 :: x2 :: x3 :: x4 :: x5 :: x6 :: x7 :: x8 :: t).getD j 0).toNat : Int))) := Lib.hid (by
    intro j hj
    exact (Hb3.out.cell (p := ⟨bb, o + j, none⟩) hlb).trans (HB.out j hj))
  rw [hle] at hg1 ⊢
  unfold maxLen at hg2
  clear hm hb hg3 hg4 h1' Hb2 Hm2
  have hlb3 : bb < w3.heap.size := Nat.lt_of_lt_of_le hlb Hb3.out.size
  go_wp2_with fail
  go_loopw [10] (fun i wr => ∃ k : Nat, k ≤ 9 ∧ i = .int .i64 k ∧ (∃ q, wr = w3.drewN q) ∧ Hid (∀ j, j < k → (Fr.sealed x1 p).getD j 0 = (167 :: x1 :: x2 :: x3 :: x4 :: x5 :: x6 :: x7 :: x8 :: t).getD j 0)) (fun i _ => 9 - (intOf i).toNat)
  case atStart => exact ⟨0, by omega, rfl, ⟨0, rfl⟩, Lib.hid (by intro j hj; omega)⟩
  case round =>
    obtain ⟨k, hk, rfl, ⟨q, rfl⟩, Hk⟩ := hrel
    by_cases h9 : k < 9
    · have ca := HA.out k h9
      have cb := HB3.out k h9
      have Hka := Lib.hid (bne8 ((Fr.sealed x1 p).getD k 0) ((167 :: x1 :: x2 :: x3 :: x4 :: x5 :: x6 :: x7 :: x8 :: t).getD k 0) _ rfl)
      have Hl1 : Hid ((Fr.sealed x1 p).getD k 0 = (167 :: x1 :: x2 :: x3 :: x4 :: x5 :: x6 :: x7 :: x8 :: t).getD k 0 → ∀ j, j < k + 1 → (Fr.sealed x1 p).getD j 0 = (167 :: x1 :: x2 :: x3 :: x4 :: x5 :: x6 :: x7 :: x8 :: t).getD j 0) := Lib.hid (by
        intro h j hj
        by_cases hjk : j = k
        · rw [hjk]; exact h
        · exact Hk.out j (by omega))
      have Hl2 : Hid ((Fr.sealed x1 p).getD k 0 ≠ (167 :: x1 :: x2 :: x3 :: x4 :: x5 :: x6 :: x7 :: x8 :: t).getD k 0 → r = Fr.bad 30) := Lib.hid (by
        intro h
        rw [Hfin.out, if_neg]
        intro hs
        exact h (Hnine.out.2 hs k h9))
      generalize (Fr.sealed x1 p).getD k 0 = u at *
      generalize (167 :: x1 :: x2 :: x3 :: x4 :: x5 :: x6 :: x7 :: x8 :: t).getD k 0 = u' at *
      have hi1 : (k : Int) < 9 + ↑n := by omega
      have hi2 : (k : Int) < ↑t.length + 9 := by omega
      by_cases hu : u = u'
      · have ht : ((u.toNat : Int) != (u'.toNat : Int)) = false := by rw [Hka.out, hu]; simp
        have Hnext := Lib.hid (Hl1.out hu)
        clear Hl1 Hl2 Hka hu
        go_wp2_with fail
        go_quiet (fail)
        go_wp2_with fail
        go_roundw
        case rel => exact ⟨k + 1, by omega, by go_num, ⟨_, rfl⟩, Hnext⟩
        case measure => simp [intOf]; omega
      · have ht : ((u.toNat : Int) != (u'.toNat : Int)) = true := by rw [Hka.out]; simpa using hu
        have Hr := Lib.hid (Hl2.out hu)
        clear Hl1 Hl2 Hka hu
        go_wp2_with fail
        go_quiet (fail)
        go_wp2_with fail
        exact bodyPost_ret (v := .tuple #[.int .u8 0, .slice none 0 0, .int .i64 0, .int .i64 30]) (by simp [results, Try.results59, go_sem]) rfl (by rw [Hr.out]; exact opens_bad 30 (Hb3.out.trans ⟨rfl, rfl, rfl, Nat.le_refl _, fun _ _ => rfl⟩))
    · obtain rfl : k = 9 := by omega
      have Hr : Hid (r = ⟨x1, p, 9 + n, 0⟩) := Lib.hid (by rw [Hfin.out, if_pos (Hnine.out.1 Hk.out)])
      have h1' : w3.cell? ⟨bb, o + 1, none⟩ = some (.int .u8 (x1.toNat : Int)) := (Hb3.out.cell (p := ⟨bb, o + 1, none⟩) hlb).trans h1
      go_wp2_with fail
      have hs9 := wraps_i64 (9 + (n : Int)) (by omega) (by omega)
      refine bodyPost_ret (v := .tuple #[.int .u8 (x1.toNat : Int), v2, .int .i64 ((9 : Int) + n), .int .i64 0]) (by simp [results, Try.results59, go_sem, hs9]) rfl ?_
      rw [Hr.out]
      exact ⟨v2, by simp [by8], Hm3.out.below (below_drewN _ _), Hb3.out.trans ((below_drewN _ _).mono Hb3.out.size)⟩
end
theorem refopen_any (v : Value) (b : List UInt8) (w : World) (hv : Rd8 w v b) : Calls Try.prog 59 #[v] w (Opens w (Fr.opened b)) := by
  match b, hv with
  | [], hv => exact refopen_empty v w hv
  | x0 :: t, hv =>
    by_cases hx : x0 = 167
    case neg =>
      have e : Fr.opened (x0 :: t) = Fr.bad 10 := by
        unfold Fr.opened; split <;> simp_all
      rw [e]; exact refopen_form v x0 t w hv hx
    subst hx
    match t, hv with
    | x1 :: x2 :: x3 :: x4 :: x5 :: x6 :: x7 :: x8 :: t, hv =>
      unfold Fr.opened
      simp only [ne_eq, not_true_eq_false, if_false]
      by_cases h1 : 1048576 < Fr.num x2 x3 x4
      · rw [if_pos h1]; exact refopen_limit v w x1 x2 x3 x4 x5 x6 x7 x8 t hv h1
      rw [if_neg h1]
      by_cases h2 : t.length < Fr.num x2 x3 x4
      · rw [if_pos h2]; exact refopen_cut v w x1 x2 x3 x4 x5 x6 x7 x8 t hv (by omega) h2
      rw [if_neg h2]
      exact refopen_sum v w x1 x2 x3 x4 x5 x6 x7 x8 t hv (by omega) (by omega)
    | [], hv => exact refopen_short v _ w hv (by simp)
    | [_], hv => exact refopen_short v _ w hv (by simp)
    | [_, _], hv => exact refopen_short v _ w hv (by simp)
    | [_, _, _], hv => exact refopen_short v _ w hv (by simp)
    | [_, _, _, _], hv => exact refopen_short v _ w hv (by simp)
    | [_, _, _, _, _], hv => exact refopen_short v _ w hv (by simp)
    | [_, _, _, _, _, _], hv => exact refopen_short v _ w hv (by simp)
    | [_, _, _, _, _, _, _], hv => exact refopen_short v _ w hv (by simp)
end Go.Proofs.Ytokmiphgalpahaa.Fm
