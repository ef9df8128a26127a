/- The sum tells one turned byte: bit is injective below 2^32, so byte is in both its arguments, and a run over a row with one byte changed ends elsewhere. -/
import Derived.Test.YtkanagmjnndodaaPlain
namespace Go.Proofs.Ytkanagmjnndodaa.Fr

theorem xor_right {a b c : Nat} (h : a ^^^ c = b ^^^ c) : a = b := by
  have h2 : (a ^^^ c) ^^^ c = (b ^^^ c) ^^^ c := by rw [h]
  rwa [Nat.xor_assoc, Nat.xor_assoc, Nat.xor_self, Nat.xor_zero, Nat.xor_zero] at h2
theorem xor_left {a b c : Nat} (h : c ^^^ a = c ^^^ b) : a = b := by
  rw [Nat.xor_comm c a, Nat.xor_comm c b] at h
  exact xor_right h
theorem bit_top {c : Nat} (h : c < 4294967296) : (bit c).testBit 31 = decide (c % 2 = 1) := by
  have hs : (c / 2).testBit 31 = false := Nat.testBit_lt_two_pow (by omega)
  unfold bit
  split
  · rename_i h1
    rw [Nat.testBit_xor, hs, h1]
    decide +kernel
  · rename_i h1
    rw [hs]
    simp [h1]
theorem bit_inj {c d : Nat} (hc : c < 4294967296) (hd : d < 4294967296) (h : bit c = bit d) : c = d := by
  have t : decide (c % 2 = 1) = decide (d % 2 = 1) := by rw [← bit_top hc, ← bit_top hd, h]
  have t' : (c % 2 = 1) ↔ (d % 2 = 1) := by simpa using t
  unfold bit at h
  by_cases h1 : c % 2 = 1
  · rw [if_pos h1, if_pos (t'.1 h1)] at h
    have h2 := xor_right h
    omega
  · rw [if_neg h1, if_neg (fun h2 => h1 (t'.2 h2))] at h
    omega
theorem bitsN_inj (k : Nat) {c d : Nat} (hc : c < 4294967296) (hd : d < 4294967296) (h : bitsN k c = bitsN k d) : c = d := by
  induction k generalizing c d with
  | zero => exact h
  | succ k ih => exact ih hc hd (bit_inj (bitsN_lt k hc) (bitsN_lt k hd) h)
theorem byte_inj {c d : Nat} (x : UInt8) (hc : c < 4294967296) (hd : d < 4294967296) (h : byte c x = byte d x) : c = d := by
  have hx : x.toNat < 4294967296 := by have := x.toNat_lt; omega
  exact xor_right (bitsN_inj 8 (xor_lt hc hx) (xor_lt hd hx) h)
theorem byte_inj' {c : Nat} {x y : UInt8} (hc : c < 4294967296) (h : byte c x = byte c y) : x = y := by
  have hx : x.toNat < 4294967296 := by have := x.toNat_lt; omega
  have hy : y.toNat < 4294967296 := by have := y.toNat_lt; omega
  exact UInt8.toNat.inj (xor_left (bitsN_inj 8 (xor_lt hc hx) (xor_lt hc hy) h))
theorem run_inj (l : List UInt8) {c d : Nat} (hc : c < 4294967296) (hd : d < 4294967296) (h : run c l = run d l) : c = d := by
  induction l generalizing c d with
  | nil => exact h
  | cons x t ih => exact byte_inj x hc hd (ih (byte_lt x hc) (byte_lt x hd) h)
/-- one byte changed: another run -/
theorem run_turn {c : Nat} (l r : List UInt8) {x y : UInt8} (hc : c < 4294967296) (h : run c (l ++ x :: r) = run c (l ++ y :: r)) : x = y := by
  rw [run_append, run_append] at h
  have hl := run_lt l hc
  exact byte_inj' hl (run_inj r (byte_lt x hl) (byte_lt y hl) h)
theorem crc_turn (s : Nat) (l r : List UInt8) {x y : UInt8} (h : crc s (l ++ x :: r) = crc s (l ++ y :: r)) : x = y := by
  unfold crc at h
  have h1 := run_lt (c := 4294967295 - s) (l ++ x :: r) (by omega)
  have h2 := run_lt (c := 4294967295 - s) (l ++ y :: r) (by omega)
  exact run_turn l r (by omega) (by omega : run (4294967295 - s) (l ++ x :: r) = run (4294967295 - s) (l ++ y :: r))
end Go.Proofs.Ytkanagmjnndodaa.Fr
