/- The contract of frame.Seal (function 13) for a payload of at most 2^20 bytes: it returns Fr.sealed in a new row of bytes. -/
import Derived.Test.YtokmiphgalpahaaFW1
namespace Go.Proofs.Ytokmiphgalpahaa.Fm
open Go.RowKit Go.Kt

theorem ok23 : ElemOk Try.prog 22 5 (.int .u8 0) 1 1 := ⟨Try.underlying22, info_parts (by kernel_rfl), rfl, by decide⟩

namespace Fr
def head4 (k : UInt8) (n : Nat) : List UInt8 := [k, UInt8.ofNat (n / 65536), UInt8.ofNat (n / 256), UInt8.ofNat n]
def le4 (c : Nat) : List UInt8 := [UInt8.ofNat c, UInt8.ofNat (c / 256), UInt8.ofNat (c / 65536), UInt8.ofNat (c / 16777216)]
def sum (k : UInt8) (l : List UInt8) : Nat := crc 0 (head4 k l.length ++ l)
def sealed (k : UInt8) (l : List UInt8) : List UInt8 := [167] ++ head4 k l.length ++ le4 (sum k l) ++ l
end Fr


set_option maxHeartbeats 400000 in
theorem seal_ok (k : UInt8) (v : Value) (l : List UInt8) (w : World) (hv : Rd8 w v l) (hshort : l.length ≤ 1048576) :
    Calls Try.prog 51 #[by8 k, v] w fun e w' => ∃ v', e = .returned (.tuple #[v', .int .i64 0]) ∧ Mine8 5 w w' v' (Fr.sealed k l) ∧ Below w.heap.size w w' := by
  have hv' := Lib.hid hv
  obtain ⟨a, cap, rfl, hcap, hbig, hn, hc⟩ := hv.open
  unfold maxLen at hbig
  clear hc hn hv
  have hhead : #[by8 k, Value.int IntKind.u8 (↑l.length / 65536), Value.int IntKind.u8 (↑l.length / 256 % 256), Value.int IntKind.u8 (↑l.length % 256)].toList = (Fr.head4 k l.length).map by8 := by
    simp only [Fr.head4, List.map]
    rw [← by8_mod (z := (l.length : Int) / 65536) (l.length / 65536) (by omega), ← by8_mod (z := (l.length : Int) / 256 % 256) (l.length / 256) (by omega), ← by8_mod (z := (l.length : Int) % 256) (l.length) (by omega)]
  have Ho := Lib.hid (mine8_at (w0 := w) (w := w) (e := 5) (Fr.head4 k l.length) (by simp [Fr.head4, maxLen]) rfl rfl (Nat.le_refl _) hhead)
  have Hb := Lib.hid (below_alloc w (.cells #[by8 k, Value.int IntKind.u8 (↑l.length / 65536), Value.int IntKind.u8 (↑l.length / 256 % 256), Value.int IntKind.u8 (↑l.length % 256)] 5))
  clear hhead
  unfold by8 at Ho Hb ⊢
  go_enter Try.func51, Try.ntmps51
  go_wp2_with fail
  refine (crc_any 0 _ (Fr.head4 k l.length) _ (by omega) (by omega) Ho.out.rd).mono ?_
  rintro e w' ⟨rfl, rfl⟩
  go_wp2_with fail
  have hlt := Fr.crc_lt 0 (Fr.head4 k l.length)
  have Hs := Lib.hid (Fr.crc_append 0 (Fr.head4 k l.length) l)
  generalize Fr.crc 0 (Fr.head4 k l.length) = c0 at hlt Hs ⊢
  refine (crc_any c0 _ l _ (by omega) (by omega) (hv'.out.below Hb.out)).mono ?_
  rintro e w' ⟨rfl, rfl⟩
  rw [Int.toNat_natCast]
  have hlt2 := Fr.crc_lt c0 l
  generalize Fr.crc c0 l = c at hlt2 Hs ⊢
  go_wp2_with (at_builtin; apply Hold.mk)
  unfold Hold
  refine wpList_app8_mine rfl _ _ 22 rfl ok23 [167] (Fr.head4 k l.length) rfl rfl w (Hb.out.alloc (by simp) _) (mine8_at [167] (by simp [maxLen]) rfl (by simp) (by simp) rfl) (Mine8.rd (Mine8.alloc Ho.out _)) (by simp [Fr.head4]) ?_
  intro v1 w1 hown1 hb1 _ hz1
  have Hown1 := Lib.hid hown1
  have Hb1 := Lib.hid hb1
  clear hown1 hb1 Ho Hb
  go_wp2_with (at_builtin; apply Hold.mk)
  unfold Hold
  refine wpList_app8_mine rfl _ _ 22 rfl ok23 _ (Fr.le4 c) rfl rfl w (Hb1.out.alloc hz1 _) (Mine8.alloc Hown1.out _) (Mine8.rd (e := 5) (w0 := w) (mine8_at (Fr.le4 c) (by simp [Fr.le4, maxLen]) rfl rfl hz1 ?_)) (by simp [Fr.head4, Fr.le4]) ?_
  · simp only [Fr.le4, List.map]
    rw [← by8_mod (z := (c : Int) % 256) c (by omega), ← by8_mod (z := (c : Int) / 256 % 256) (c / 256) (by omega), ← by8_mod (z := (c : Int) / 65536 % 256) (c / 65536) (by omega), ← by8_mod (z := (c : Int) / 16777216) (c / 16777216) (by omega)]
  intro v2 w2 hown2 hb2 _ hz2
  have Hown2 := Lib.hid hown2
  have Hb2 := Lib.hid hb2
  clear hown2 hb2 Hown1 Hb1
  go_wp2_with (at_builtin; apply Hold.mk)
  unfold Hold
  refine wpList_app8_mine rfl _ _ 22 rfl ok23 _ l rfl rfl w Hb2.out Hown2.out (hv'.out.below Hb2.out) (by simp [Fr.head4, Fr.le4]; omega) ?_
  intro v3 w3 hown3 hb3 _ hz3
  have Hown3 := Lib.hid hown3
  have Hb3 := Lib.hid hb3
  clear hown3 hb3 Hown2 Hb2
  go_wp2_with fail
  go_ret2
  refine ⟨_, rfl, ?_, Hb3.out⟩
  have := Hown3.out
  rw [← Hs.out] at this
  exact this
end Go.Proofs.Ytokmiphgalpahaa.Fm
