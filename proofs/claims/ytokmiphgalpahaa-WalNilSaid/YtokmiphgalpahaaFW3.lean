/- The contracts of frame.Seal for a longer payload, and of the reference's Seal (function 14) for every payload that is read. -/
import Derived.Test.YtokmiphgalpahaaFW2
namespace Go.Proofs.Ytokmiphgalpahaa.Fm
open Go.RowKit Go.Kt

theorem seal_long (k : UInt8) (v : Value) (l : List UInt8) (w : World) (hv : Rd8 w v l) (hlong : 1048576 < l.length) :
    Calls Try.prog 51 #[by8 k, v] w fun e w' => e = .returned (.tuple #[.slice none 0 0, .int .i64 8]) ∧ w = w' := by
  obtain ⟨a, cap, rfl, hcap, hbig, hn, hc⟩ := hv.open
  unfold maxLen at hbig
  unfold by8
  go_enter Try.func51, Try.ntmps51
  go_wp2_with fail
  go_ret2
  exact ⟨rfl, rfl⟩

theorem refseal_long (k : UInt8) (v : Value) (l : List UInt8) (w : World) (hv : Rd8 w v l) (hlong : 1048576 < l.length) :
    Calls Try.prog 40 #[by8 k, v] w fun e w' => e = .returned (.tuple #[.slice none 0 0, .int .i64 8]) ∧ w = w' := by
  obtain ⟨a, cap, rfl, hcap, hbig, hn, hc⟩ := hv.open
  unfold maxLen at hbig
  unfold by8
  go_enter Try.func40, Try.ntmps40
  go_wp2_with fail
  go_ret2
  exact ⟨rfl, rfl⟩

theorem le4_step (c : Nat) (i : Nat) (h : i < 4) : (Fr.le4 c).take (i + 1) = (Fr.le4 c).take i ++ [UInt8.ofNat (c / 256 ^ i)] := by
  match i, h with
  | 0, _ => simp [Fr.le4]
  | 1, _ => simp [Fr.le4]
  | 2, _ => simp [Fr.le4]
  | 3, _ => simp [Fr.le4]

set_option maxHeartbeats 400000 in
theorem refseal_ok (k : UInt8) (v : Value) (l : List UInt8) (w : World) (hv : Rd8 w v l) (hshort : l.length ≤ 1048576) :
    Calls Try.prog 40 #[by8 k, v] w fun e w' => ∃ v', e = .returned (.tuple #[v', .int .i64 0]) ∧ Mine8 5 w w' v' (Fr.sealed k l) ∧ Below w.heap.size w w' := by
  have hv' := Lib.hid hv
  obtain ⟨a, cap, rfl, hcap, hbig, hn, hc⟩ := hv.open
  unfold maxLen at hbig
  clear hc hn hv
  have hhead : #[by8 k, Value.int IntKind.u8 (↑l.length / 65536), Value.int IntKind.u8 (↑l.length / 256 % 256), Value.int IntKind.u8 (↑l.length % 256)].toList = (Fr.head4 k l.length).map by8 := by
    simp only [Fr.head4, List.map]
    rw [← by8_mod (z := (l.length : Int) / 65536) (l.length / 65536) (by omega), ← by8_mod (z := (l.length : Int) / 256 % 256) (l.length / 256) (by omega), ← by8_mod (z := (l.length : Int) % 256) (l.length) (by omega)]
  have Ho := Lib.hid (mine8_at (w0 := w) (w := w) (e := 5) (Fr.head4 k l.length) (by simp [Fr.head4, maxLen]) rfl rfl (Nat.le_refl _) hhead)
  have Hb := Lib.hid (below_alloc w (.cells #[by8 k, Value.int IntKind.u8 (↑l.length / 65536), Value.int IntKind.u8 (↑l.length / 256 % 256), Value.int IntKind.u8 (↑l.length % 256)] 5))
  clear hhead
  unfold by8 at Ho Hb ⊢
  go_enter Try.func40, Try.ntmps40
  go_wp2_with (at_builtin; apply Hold.mk)
  unfold Hold
  have HB := Lib.hid (Below.refl (w.alloc (.cells #[.int .u8 (k.toNat : Int), Value.int IntKind.u8 (↑l.length / 65536), Value.int IntKind.u8 (↑l.length / 256 % 256), Value.int IntKind.u8 (↑l.length % 256)] 5)).heap.size (w.alloc (.cells #[.int .u8 (k.toNat : Int), Value.int IntKind.u8 (↑l.length / 65536), Value.int IntKind.u8 (↑l.length / 256 % 256), Value.int IntKind.u8 (↑l.length % 256)] 5)))
  refine wpList_app8_mine rfl _ _ 22 rfl ok23 [] (Fr.head4 k l.length) rfl rfl _ (HB.out.alloc (by simp) _) (mine8_at [] (by simp [maxLen]) rfl (by simp) (by simp) rfl) (Mine8.rd (Mine8.alloc Ho.out _)) (by simp [Fr.head4]) ?_
  intro v1 w1 hown1 hb1 _ _
  have Hown1 := Lib.hid hown1
  have Hb1 := Lib.hid hb1
  clear hown1 hb1
  have Hw1 := Lib.hid (Hb.out.trans (Hb1.out.mono (by simp)))
  go_wp2_with (at_builtin; apply Hold.mk)
  unfold Hold
  refine wpList_app8_mine rfl _ _ 22 rfl ok23 _ l rfl rfl _ Hb1.out Hown1.out (hv'.out.below Hw1.out) (by simp [Fr.head4]; omega) ?_
  intro v2 w2 hown2 hb2 _ _
  have Hown2 := Lib.hid hown2
  have Hb2 := Lib.hid hb2
  clear hown2 hb2 Hown1 Hb1 Hw1
  go_wp2_with fail
  refine (refcrc_any 0 _ _ _ (by omega) (by omega) Hown2.out.rd).mono ?_
  rintro e w' ⟨rfl, rfl⟩
  have hc := Fr.crc_lt (Int.toNat 0) ([] ++ Fr.head4 k l.length ++ l)
  have Hc : Hid (Fr.crc (Int.toNat 0) ([] ++ Fr.head4 k l.length ++ l) = Fr.sum k l) := Lib.hid rfl
  generalize Fr.crc (Int.toNat 0) ([] ++ Fr.head4 k l.length ++ l) = c at hc Hc ⊢
  clear Hown2
  have hz2 := (Hb.out.trans (Hb2.out.mono (by simp))).size
  go_wp2_with (at_builtin; apply Hold.mk)
  unfold Hold
  refine wpList_app8_mine rfl _ _ 22 rfl ok23 [167] (Fr.head4 k l.length) rfl rfl _ (Hb2.out.alloc Hb2.out.size _) (mine8_at [167] (by simp [maxLen]) rfl (by simp) Hb2.out.size rfl) (Mine8.rd ((Ho.out.below Hb2.out).alloc _)) (by simp [Fr.head4]) ?_
  intro v3 w3 hown3 hb3 _ _
  have Hown3 := Lib.hid hown3
  have Hb3 := Lib.hid (Hb.out.trans (hb3.mono (by simp)))
  have Hm3 := Lib.hid (Hown3.out.since (w0 := w) (by simp))
  clear hown3 hb3 Hb2 Hown3 HB Hb Ho
  go_wp2_with fail
  go_loopw [9, 10, 11] (fun cv out i wr => ∃ m : Nat, m ≤ 4 ∧ i = .int .i64 m ∧ cv = .int .u32 ((c / 256 ^ m : Nat) : Int) ∧ Hid (Mine8 5 w wr out ([167] ++ Fr.head4 k l.length ++ (Fr.le4 c).take m)) ∧ Hid (Below w.heap.size w wr)) (fun _ _ i _ => 4 - (intOf i).toNat)
  case atStart => exact ⟨0, by omega, rfl, by simp, by simpa using Hm3, Hb3⟩
  case round =>
    obtain ⟨m, hm, rfl, rfl, Hm, Hb⟩ := hrel
    have hpow : c / 256 ^ m < 4294967296 := Nat.lt_of_le_of_lt (Nat.div_le_self _ _) hc
    have Hdiv : Hid (c / 256 ^ (m + 1) = c / 256 ^ m / 256) := Lib.hid (by rw [Nat.pow_succ, ← Nat.div_div_eq_div_mul])
    by_cases h4 : m < 4
    · have Hstep := Lib.hid (le4_step c m h4)
      generalize hq : c / 256 ^ m = q at hpow Hdiv Hstep ⊢
      clear hq
      go_wp2_with (at_builtin; apply Hold.mk)
      unfold Hold
      refine wpList_app8_mine rfl _ _ 22 rfl ok23 _ [UInt8.ofNat q] rfl rfl w (Hb.out.alloc Hb.out.size _) (Hm.out.alloc _) (Mine8.rd (e := 5) (w0 := w) (mine8_at [UInt8.ofNat q] (by simp [maxLen]) rfl rfl Hb.out.size ?_)) (by simp [Fr.head4, Fr.le4]; omega) ?_
      · simp only [List.map]
        rw [← by8_mod (z := (q : Int) % 256) q (by omega)]
      intro v4 w4 hown4 hb4 _ _
      have Hown4 := Lib.hid hown4
      have Hb4 := Lib.hid hb4
      clear hown4 hb4
      go_wp2_with fail
      go_roundw
      case rel => exact ⟨m + 1, by omega, by go_num, by rw [Hdiv.out]; congr 1, Lib.hid (by rw [Hstep.out, ← List.append_assoc]; exact Hown4.out), Hb4⟩
      case measure => simp [intOf]; omega
    · obtain rfl : m = 4 := by omega
      go_wp2_with (at_builtin; apply Hold.mk)
      unfold Hold
      refine wpList_app8_mine rfl _ _ 22 rfl ok23 _ l rfl rfl w Hb.out Hm.out (hv'.out.below Hb.out) (by simp [Fr.head4, Fr.le4]; omega) ?_
      intro v4 w4 hown4 hb4 _ _
      have Hown4 := Lib.hid hown4
      have Hb4 := Lib.hid hb4
      clear hown4 hb4
      go_wp2_with fail
      go_ret2
      refine ⟨_, rfl, ?_, Hb4.out⟩
      have := Hown4.out
      rw [Hc.out] at this
      exact this
end Go.Proofs.Ytokmiphgalpahaa.Fm
