/- The contracts of FrameSeals (function 4) and FrameLong (function 6). -/
import Derived.Test.YtokmiphgalpahaaFW4
import Derived.Test.YtokmiphgalpahaaKtL
namespace Go.Proofs.Ytokmiphgalpahaa.Fm
open Go.RowKit Go.Kt

namespace Fr
theorem num_head (n : Nat) (h : n < 16777216) : num (UInt8.ofNat (n / 65536)) (UInt8.ofNat (n / 256)) (UInt8.ofNat n) = n := by
  unfold num
  simp only [UInt8.toNat_ofNat']
  omega
theorem num4_le (c : Nat) (h : c < 4294967296) : num4 (UInt8.ofNat c) (UInt8.ofNat (c / 256)) (UInt8.ofNat (c / 65536)) (UInt8.ofNat (c / 16777216)) = c := by
  unfold num4
  simp only [UInt8.toNat_ofNat']
  omega
theorem opened_sealed (k : UInt8) (l r : List UInt8) (h : l.length ≤ 1048576) : opened (sealed k l ++ r) = ⟨k, l, 9 + l.length, 0⟩ := by
  have hs : sum k l < 4294967296 := crc_lt _ _
  show opened (167 :: k :: UInt8.ofNat (l.length / 65536) :: UInt8.ofNat (l.length / 256) :: UInt8.ofNat l.length :: UInt8.ofNat (sum k l) :: UInt8.ofNat (sum k l / 256) :: UInt8.ofNat (sum k l / 65536) :: UInt8.ofNat (sum k l / 16777216) :: (l ++ r)) = _
  unfold opened
  simp only [ne_eq, not_true_eq_false, if_false]
  rw [num_head _ (by omega), num4_le _ hs, if_neg (by omega), if_neg (by simp), List.take_left]
  unfold fin
  rw [if_pos rfl]
theorem sealed_len (k : UInt8) (l : List UInt8) : (sealed k l).length = 9 + l.length := by
  simp [sealed, head4, le4, Nat.add_comm]; try omega
end Fr

def zeros (n : Nat) : List UInt8 := List.replicate n 0
theorem zeros_len (n : Nat) : (zeros n).length = n := by simp [zeros]
theorem rd8_zeros {w' : World} {v : Value} {n : Nat} (h : w'.ownsRow 0 5 1 v n (madeCells (Value.int .u8 0).cells (n * 1)).toList) : Rd8 w' v (zeros n) := by
  have : Rd8 w' v (zeros n) = RdRow 1 w' v n ((zeros n).map by8) := by unfold Rd8; rw [zeros_len]
  rw [this]
  have e : (madeCells (Value.int .u8 0).cells (n * 1)).toList = (zeros n).map by8 := by
    show (madeCells #[Value.int .u8 0] (n * 1)).toList = _
    rw [toList_madeCells_one, Nat.mul_one]
    simp [zeros, by8]
  rw [e] at h
  exact Own.rd (e := 5) h

end Go.Proofs.Ytokmiphgalpahaa.Fm
