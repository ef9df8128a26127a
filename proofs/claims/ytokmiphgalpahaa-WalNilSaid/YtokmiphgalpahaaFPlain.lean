/- The check sum of layer 4 as a function on numbers and lists of bytes: plain facts, no program in sight. -/
namespace Go.Proofs.Ytokmiphgalpahaa.Fm.Fr

def poly : Nat := 2197175160
def bit (c : Nat) : Nat := if c % 2 = 1 then (c / 2) ^^^ poly else c / 2
def bitsN : Nat → Nat → Nat
  | 0, c => c
  | k + 1, c => bit (bitsN k c)
def byte (c : Nat) (x : UInt8) : Nat := bitsN 8 (c ^^^ x.toNat)
def run (c : Nat) (l : List UInt8) : Nat := l.foldl byte c
def crc (s : Nat) (l : List UInt8) : Nat := 4294967295 - run (4294967295 - s) l

theorem bit_lt {c : Nat} (h : c < 4294967296) : bit c < 4294967296 := by
  unfold bit
  split
  · have h1 : c / 2 < 2 ^ 32 := by omega
    have h2 : poly < 2 ^ 32 := by decide
    exact Nat.xor_lt_two_pow h1 h2
  · omega
theorem bitsN_lt (k : Nat) {c : Nat} (h : c < 4294967296) : bitsN k c < 4294967296 := by
  induction k with
  | zero => exact h
  | succ k ih => exact bit_lt ih
theorem xor_lt {c x : Nat} (h : c < 4294967296) (hx : x < 4294967296) : c ^^^ x < 4294967296 := Nat.xor_lt_two_pow (n := 32) h hx
theorem byte_lt {c : Nat} (x : UInt8) (h : c < 4294967296) : byte c x < 4294967296 :=
  bitsN_lt 8 (xor_lt h (by have := x.toNat_lt; omega))
theorem run_lt (l : List UInt8) : ∀ {c : Nat}, c < 4294967296 → run c l < 4294967296 := by
  induction l with
  | nil => exact fun h => h
  | cons x l ih => intro c h; exact ih (byte_lt x h)
theorem run_append (c : Nat) (l r : List UInt8) : run c (l ++ r) = run (run c l) r := by simp [run, List.foldl_append]
theorem run_snoc (c : Nat) (l : List UInt8) (k : Nat) (h : k < l.length) : run c (l.take (k + 1)) = byte (run c (l.take k)) l[k] := by
  rw [List.take_succ_eq_append_getElem h, run_append]; rfl
theorem crc_lt (s : Nat) (l : List UInt8) : crc s l < 4294967296 := by unfold crc; omega
theorem crc_append (s : Nat) (l r : List UInt8) : crc s (l ++ r) = crc (crc s l) r := by
  unfold crc
  have h := run_lt l (c := 4294967295 - s) (by omega)
  rw [run_append, show 4294967295 - (4294967295 - run (4294967295 - s) l) = run (4294967295 - s) l by omega]
theorem xor_full {c : Nat} (h : c < 4294967296) : 4294967295 ^^^ c = 4294967295 - c := by
  have h1 := congrArg BitVec.toNat (BitVec.allOnes_xor (x := BitVec.ofNat 32 c))
  rw [BitVec.toNat_xor, BitVec.toNat_not, BitVec.toNat_allOnes, BitVec.toNat_ofNat, Nat.mod_eq_of_lt (by omega)] at h1
  simpa using h1
end Go.Proofs.Ytokmiphgalpahaa.Fm.Fr
