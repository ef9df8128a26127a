/- The home of a text: node.Home (9), the document's (10). -/
import Derived.Test.YtmmilgcbjpbelaaRows
import Derived.Test.YtmmilgcbjpbelaaPL
import Derived.Test.YtmmilgcbjpbelaaKtA
namespace Go.Proofs.Ytmmilgcbjpbelaa
open Go.RowKit Go.Kt Go.Ix

theorem xor32 (a b : Nat) (ha : a < 4294967296) (hb : b < 4294967296) : bits .xor .u32 (a : Int) (b : Int) = ((a ^^^ b : Nat) : Int) := u32_xor_nat a b ha hb
theorem bl_get (s : ByteArray) (k : Nat) (h : k < s.size) : (bl s).take (k + 1) = (bl s).take k ++ [s[k]'h] := by
  have hk : k < (bl s).length := by rw [bl_len]; exact h
  rw [List.take_succ_eq_append_getElem hk]
  rfl
theorem home_next (s : ByteArray) (k : Nat) (h : k < s.size) : homeF ((bl s).take (k + 1)) = homeStep (homeF ((bl s).take k)) (s[k]'h) := by rw [bl_get s k h, homeF_snoc]
/-- the home of a text among n -/
def homeZ (s : ByteArray) (n : Int) : Int := (homeF (bl s) : Int) % (if n < 1 then 1 else n)

theorem ret_int {k : IntKind} {a b : Int} (h : a = b) : Ending.returned (.int k a) = .returned (.int k b) := by rw [h]
theorem xor64 (a b : Nat) (ha : a < 4294967296) (hb : b < 4294967296) : bits .xor .u64 (a : Int) (b : Int) = ((a ^^^ b : Nat) : Int) := u64_xor_nat a b (by omega) (by omega)
theorem step_int (c : Nat) (x : UInt8) : ((c ^^^ x.toNat : Nat) : Int) * 16777619 % 4294967296 = (homeStep c x : Int) := by
  unfold homeStep
  generalize c ^^^ x.toNat = y
  omega
theorem wrap_mod (c : Nat) (n : Int) (h0 : 1 ≤ n) (h1 : n ≤ 9223372036854775807) : wrap64 ((c : Int) % n) = (c : Int) % n := by
  have h2 := Int.emod_nonneg (c : Int) (show n ≠ 0 by omega)
  have h3 := Int.emod_lt_of_pos (c : Int) (show 0 < n by omega)
  generalize (c : Int) % n = y at h2 h3
  unfold wrap64
  omega

set_option maxHeartbeats 400000 in
theorem home_any (s : ByteArray) (n : Int) (w : World) (hs : s.size ≤ maxLen) (hn : -9223372036854775808 ≤ n ∧ n ≤ 9223372036854775807) :
    Calls Try.prog 9 #[.string s, .int .i64 n] w fun e w' => e = .returned (.int .i64 (homeZ s n)) ∧ w = w' := by
  unfold maxLen at hs
  go_enter Try.func9, Try.ntmps9
  go_wp2
  go_loop [5, 6, 9] (fun t _ i => ∃ k : Nat, k ≤ s.size ∧ i = .int .i64 k ∧ ∃ c : Nat, t = .int .u32 c ∧ c < 4294967296 ∧ c = homeF ((bl s).take k)) (fun _ _ i => s.size - (intOf i).toNat)
  case atStart => 
    exact ⟨0, by omega, rfl, 2166136261, rfl, by omega, by rw [List.take_zero, homeF_nil]⟩
  case round =>
    obtain ⟨k, hk, rfl, c, rfl, hc32, hcr⟩ := hrel
    have Hc := Lib.hid hcr; clear hcr
    by_cases hlt : k < s.size
    · have hx := (s[k]'hlt).toNat_lt
      have Hs := Lib.hid (home_next s k hlt)
      have hxr := xor32 c (s[k]'hlt).toNat hc32 (by omega)
      generalize hxx : (s[k]'hlt) = x at hx Hs hxr
      go_wp2
      go_round
      case rel =>
        refine ⟨k + 1, by omega, by go_num, homeStep c x, ?_, homeStep_lt _ _, by rw [Hs.out, Hc.out]⟩
        exact congrArg _ (step_int c x)
      case measure => simp [intOf]; omega
    · obtain rfl : k = s.size := by omega
      have H1 : Hid (homeZ s n = (c : Int) % (if n < 1 then 1 else n)) := Lib.hid (by
        unfold homeZ
        rw [Hc.out, List.take_of_length_le (by rw [bl_len]; exact Nat.le_refl _)])
      clear Hc
      by_cases h1 : n < 1
      · rw [if_pos h1] at H1
        go_wp2
        go_ret
        refine ⟨ret_int ?_, rfl⟩
        rw [H1.out]
        show (0 : Int) = c % 1
        omega
      · rw [if_neg h1] at H1
        go_wp2
        go_ret
        refine ⟨ret_int ?_, rfl⟩
        rw [H1.out]
        exact wrap_mod c n (by omega) hn.2

set_option maxHeartbeats 400000 in
theorem refhome_any (s : ByteArray) (n : Int) (w : World) (hs : s.size ≤ maxLen) (hn : -9223372036854775808 ≤ n ∧ n ≤ 9223372036854775807) :
    Calls Try.prog 10 #[.string s, .int .i64 n] w fun e w' => e = .returned (.int .i64 (homeZ s n)) ∧ w = w' := by
  unfold maxLen at hs
  go_enter Try.func10, Try.ntmps10
  go_wp2
  go_loop [5, 6] (fun t i => ∃ k : Nat, k ≤ s.size ∧ i = .int .i64 k ∧ ∃ c : Nat, t = .int .u64 c ∧ c < 4294967296 ∧ c = homeF ((bl s).take k)) (fun _ i => s.size - (intOf i).toNat)
  case atStart => 
    exact ⟨0, by omega, rfl, 2166136261, rfl, by omega, by rw [List.take_zero, homeF_nil]⟩
  case round =>
    obtain ⟨k, hk, rfl, c, rfl, hc32, hcr⟩ := hrel
    have Hc := Lib.hid hcr; clear hcr
    by_cases hlt : k < s.size
    · have hx := (s[k]'hlt).toNat_lt
      have Hs := Lib.hid (home_next s k hlt)
      have hxr := xor64 c (s[k]'hlt).toNat hc32 (by omega)
      have hxl := Nat.xor_lt_two_pow (n := 32) (show c < 2 ^ 32 by omega) (show (s[k]'hlt).toNat < 2 ^ 32 by omega)
      generalize hxx : (s[k]'hlt) = x at hx Hs hxr hxl
      go_wp2
      go_round
      case rel =>
        refine ⟨k + 1, by omega, by go_num, homeStep c x, ?_, homeStep_lt _ _, by rw [Hs.out, Hc.out]⟩
        exact congrArg _ (step_int c x)
      case measure => simp [intOf]; omega
    · obtain rfl : k = s.size := by omega
      have H1 : Hid (homeZ s n = (c : Int) % (if n < 1 then 1 else n)) := Lib.hid (by
        unfold homeZ
        rw [Hc.out, List.take_of_length_le (by rw [bl_len]; exact Nat.le_refl _)])
      clear Hc
      by_cases h1 : n < 1
      · rw [if_pos h1] at H1
        go_wp2
        go_ret
        refine ⟨ret_int ?_, rfl⟩
        rw [H1.out]
        show (0 : Int) = c % 1
        omega
      · rw [if_neg h1] at H1
        go_wp2
        go_ret
        refine ⟨ret_int ?_, rfl⟩
        rw [H1.out]
        exact wrap_mod c n (by omega) hn.2
end Go.Proofs.Ytmmilgcbjpbelaa
