/- The document's join (39). -/
import Derived.Test.YtokmiphgalpahaaWQ
namespace Go.Proofs.Ytokmiphgalpahaa
open Go.RowKit Go.Kt
set_option maxRecDepth 100000
theorem rd8_at {w : World} {a : Option Addr} {n cap : Nat} {pl : List UInt8} (h : Rd8 w (.slice a n cap) pl) {k : Nat} {x : UInt8} (hx : pl[k]? = some x) : ∃ b o, a = some ⟨b, o, none⟩ ∧ w.cell? ⟨b, o + k, none⟩ = some (by8 x) := by
  obtain ⟨_, a', cap', e, _, _, _, h5⟩ := h
  injection e with e1 _ _
  subst e1
  exact h5 k _ (by rw [List.getElem?_map, hx]; rfl)
set_option maxHeartbeats 1000000 in
theorem join_any (av bv : Value) (a b : List UInt8) (w : World) (ha : Rd8 w av a) (hb : Rd8 w bv b) (hl : a.length + b.length ≤ 140737488355328) :
    Calls Try.prog 43 #[av, bv] w fun e w' => ∃ v, e = .returned v ∧ Mine8 5 w w' v (a ++ b) ∧ Below w.heap.size w w' := by
  have HA := Lib.hid ha
  have HB := Lib.hid hb
  obtain ⟨aa, acap, rfl, ha1, ha2, _⟩ := ha.open
  obtain ⟨ba, bcap, rfl, hb1, hb2, _⟩ := hb.open
  clear ha hb
  go_enter Try.func43, Try.ntmps43
  go_wp2_with fail
  go_loopw [5, 6] (fun ov iv wr => ∃ k : Nat, k ≤ a.length ∧ iv = .int .i64 k ∧ Hid (Mine8 5 w wr ov (a.take k)) ∧ Hid (Below w.heap.size w wr)) (fun _ iv _ => a.length - (intOf iv).toNat)
  case atStart => exact ⟨0, by omega, rfl, Lib.hid (mine8_nil 5 w w), Lib.hid (bel_refl w)⟩
  case round =>
    obtain ⟨k, hk, rfl, HM, HBl⟩ := hrel
    by_cases hlt : k < a.length
    · obtain ⟨x, hx⟩ : ∃ x, a[k]? = some x := ⟨a[k], List.getElem?_eq_getElem hlt⟩
      have Htk : Hid (a.take k ++ [x] = a.take (k + 1)) := Lib.hid (by
        obtain ⟨hk', rfl⟩ := List.getElem?_eq_some_iff.1 hx
        rw [List.take_succ_eq_append_getElem hk'])
      have hkl : (a.take k).length = k := by rw [List.length_take]; omega
      obtain ⟨g, o, rfl, c0⟩ := rd8_at HA.out hx
      have k0 : wr.cell? ⟨g, o + k, none⟩ = some (.int .u8 (x.toNat : Int)) := (HBl.out.cell (World.block_lt_of_cell? w _ c0)).trans c0
      have hk1 : (0 : Int) ≤ (k : Int) := by omega
      have hk2 : (k : Int) < (a.length : Int) := by omega
      clear hx c0
      go_wp2_with (at_builtin; apply Hold.mk)
      unfold Hold
      refine wpList_app8_mine rfl _ _ 22 rfl ok28 (a.take k) [x] (by rfl) (by rfl) w (bel_alloc HBl.out) (HM.out.alloc _) (by exact (own8_at [x] (by simp [maxLen]) rfl rfl rfl).rd) (by rw [hkl]; simp only [List.length_cons, List.length_nil]; omega) ?_
      intro v7 w7 hm hb7 hg hz
      rw [Htk.out] at hm
      have HM7 := Lib.hid hm
      have HB7 := Lib.hid hb7
      clear hm hb7 hg
      go_wp2_with fail
      go_roundw
      case rel => exact ⟨k + 1, by omega, by go_num, HM7, HB7⟩
      case measure => simp [intOf]; omega
    · obtain rfl : k = a.length := by omega
      rw [List.take_length] at HM
      obtain ⟨wa, rfl⟩ : ∃ x, x = wr := ⟨_, rfl⟩
      go_wp2_with fail
      go_loopw [5, 7] (fun ov iv wr => ∃ k : Nat, k ≤ b.length ∧ iv = .int .i64 k ∧ Hid (Mine8 5 w wr ov (a ++ b.take k)) ∧ Hid (Below w.heap.size w wr)) (fun _ iv _ => b.length - (intOf iv).toNat)
      case atStart => exact ⟨0, by omega, rfl, Lib.hid (by rw [List.take_zero, List.append_nil]; exact HM.out), HBl⟩
      case round =>
        clear HM HBl
        obtain ⟨k, hk, rfl, HM, HBl⟩ := hrel
        by_cases hlt : k < b.length
        · obtain ⟨x, hx⟩ : ∃ x, b[k]? = some x := ⟨b[k], List.getElem?_eq_getElem hlt⟩
          have Htk : Hid (a ++ b.take k ++ [x] = a ++ b.take (k + 1)) := Lib.hid (by
            obtain ⟨hk', rfl⟩ := List.getElem?_eq_some_iff.1 hx
            rw [List.take_succ_eq_append_getElem hk', List.append_assoc])
          have hkl : (a ++ b.take k).length = a.length + k := by rw [List.length_append, List.length_take]; omega
          obtain ⟨g, o, rfl, c0⟩ := rd8_at HB.out hx
          have k0 : wr.cell? ⟨g, o + k, none⟩ = some (.int .u8 (x.toNat : Int)) := (HBl.out.cell (World.block_lt_of_cell? w _ c0)).trans c0
          have hk1 : (0 : Int) ≤ (k : Int) := by omega
          have hk2 : (k : Int) < (b.length : Int) := by omega
          clear hx c0
          go_wp2_with (at_builtin; apply Hold.mk)
          unfold Hold
          refine wpList_app8_mine rfl _ _ 22 rfl ok28 (a ++ b.take k) [x] (by rfl) (by rfl) w (bel_alloc HBl.out) (HM.out.alloc _) (by exact (own8_at [x] (by simp [maxLen]) rfl rfl rfl).rd) (by rw [hkl]; simp only [List.length_cons, List.length_nil]; omega) ?_
          intro v7 w7 hm hb7 hg hz
          rw [Htk.out] at hm
          have HM7 := Lib.hid hm
          have HB7 := Lib.hid hb7
          clear hm hb7 hg
          go_wp2_with fail
          go_roundw
          case rel => exact ⟨k + 1, by omega, by go_num, HM7, HB7⟩
          case measure => simp [intOf]; omega
        · obtain rfl : k = b.length := by omega
          rw [List.take_length] at HM
          go_wp2_with fail
          go_ret
          exact ⟨_, rfl, HM.out, HBl.out⟩
end Go.Proofs.Ytokmiphgalpahaa
