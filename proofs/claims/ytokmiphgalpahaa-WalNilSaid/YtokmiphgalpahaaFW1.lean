/- The contracts of the two check sums (functions 11 and 12): of any bytes, behind any sum below 2^32, they return Fr.crc and change nothing. -/
import Derived.Test.YtokmiphgalpahaaRows
import Derived.Test.YtokmiphgalpahaaFPlain
import Derived.Test.YtokmiphgalpahaaKtA
namespace Go.Proofs.Ytokmiphgalpahaa.Fm
open Go.RowKit Go.Kt

theorem xor32 (a b : Nat) (ha : a < 4294967296) (hb : b < 4294967296) : bits .xor .u32 (a : Int) (b : Int) = ((a ^^^ b : Nat) : Int) := u32_xor_nat a b ha hb

theorem ret_int {k : IntKind} {a b : Int} (h : a = b) : Ending.returned (.int k a) = .returned (.int k b) := by rw [h]
theorem and1 (c : Nat) (hc : c < 4294967296) : bits .and .u32 (c : Int) 1 = ((c % 2 : Nat) : Int) := by
  have := u32_and_nat c 1 hc (by omega)
  rw [Nat.and_one_is_mod] at this; exact this

set_option maxHeartbeats 400000 in
theorem crc_any (s : Int) (v : Value) (l : List UInt8) (w : World) (h0 : 0 ≤ s) (h1 : s < 4294967296) (hv : Rd8 w v l) :
    Calls Try.prog 58 #[.int .u32 s, v] w fun e w' => e = .returned (.int .u32 (Fr.crc s.toNat l)) ∧ w = w' := by
  obtain ⟨a, cap, rfl, hcap, hbig, hn, hc⟩ := hv.open
  unfold maxLen at hbig
  go_enter Try.func58, Try.ntmps58
  go_wp2
  go_loop [0, 11] (fun t i => ∃ k : Nat, k ≤ l.length ∧ i = .int .i64 k ∧ ∃ c : Nat, t = .int .u32 c ∧ c < 4294967296 ∧ c = Fr.run (4294967295 - s.toNat) (l.take k)) (fun _ i => l.length - (intOf i).toNat)
  case atStart => 
    refine ⟨0, by omega, rfl, 4294967295 - s.toNat, ?_, by omega, by simp [Fr.run]⟩
    have := xor32 4294967295 s.toNat (by omega) (by omega)
    rw [Fr.xor_full (by omega), Int.toNat_of_nonneg h0] at this
    exact congrArg _ this
  case round =>
    obtain ⟨k, hk, rfl, c, rfl, hc32, hcr⟩ := hrel
    have Hc := Lib.hid hcr; clear hcr
    by_cases hlt : k < l.length
    · obtain ⟨b, o, rfl, hcell⟩ := hc k hlt
      have hx := l[k].toNat_lt
      have Hs := Lib.hid (Fr.run_snoc (4294967295 - s.toNat) l k hlt)
      generalize hxx : l[k] = x at hcell hx Hs
      clear hc hxx
      go_wp2
      go_loop [0, 19] (fun t i => ∃ m : Nat, m ≤ 8 ∧ i = .int .i64 m ∧ ∃ c' : Nat, t = .int .u32 c' ∧ c' < 4294967296 ∧ c' = Fr.bitsN m (c ^^^ x.toNat)) (fun _ i => 8 - (intOf i).toNat)
      case atStart => 
        refine ⟨0, by omega, rfl, c ^^^ x.toNat, ?_, Fr.xor_lt hc32 (by omega), rfl⟩
        exact congrArg _ (xor32 c x.toNat hc32 (by omega))
      case round =>
        obtain ⟨m, hm, rfl, c', rfl, hc', hcm⟩ := hrel
        have Hcm := Lib.hid hcm; clear hcm
        by_cases h8 : m < 8
        · have hb := and1 c' hc'
          have hxr := xor32 (c' / 2) 2197175160 (by omega) (by omega)
          by_cases hodd : c' % 2 = 1
          · have ht : (bits .and .u32 (c' : Int) 1 == 1) = true := by rw [hb, hodd]; rfl
            have hn : Fr.bit c' = (c' / 2) ^^^ 2197175160 := by unfold Fr.bit Fr.poly; rw [if_pos hodd]
            have hl := Fr.bit_lt hc'
            have Hr := Lib.hid hxr
            have Hn := Lib.hid hn
            clear hb hxr hodd hn
            go_wp2
            go_round
            case rel => exact ⟨m + 1, by omega, by go_num, Fr.bit c', by rw [Hn.out]; exact congrArg _ Hr.out, hl, by rw [Hcm.out]; rfl⟩
            case measure => simp [intOf]; omega
          · have ht : (bits .and .u32 (c' : Int) 1 == 1) = false := by
              rw [hb, show c' % 2 = 0 by omega]; rfl
            have hn : Fr.bit c' = (c' / 2) := by unfold Fr.bit Fr.poly; rw [if_neg hodd]
            have hl := Fr.bit_lt hc'
            have Hn := Lib.hid hn
            clear hb hxr hodd hn
            go_wp2
            go_round
            case rel => exact ⟨m + 1, by omega, by go_num, Fr.bit c', by rw [Hn.out]; rfl, hl, by rw [Hcm.out]; rfl⟩
            case measure => simp [intOf]; omega
        · obtain rfl : m = 8 := by omega
          go_wp2
          go_round
          case rel => exact ⟨k + 1, by omega, by go_num, c', rfl, hc', by rw [Hs.out, Hcm.out, Hc.out]; rfl⟩
          case measure => simp [intOf]; omega
    · obtain rfl : k = l.length := by omega
      go_wp2
      go_ret
      refine ⟨ret_int ?_, rfl⟩
      have := xor32 4294967295 c (by omega) (by omega)
      rw [Fr.xor_full (by omega)] at this
      rw [List.take_length] at Hc
      rw [Fr.crc, ← Hc.out]
      exact this

set_option maxHeartbeats 400000 in
theorem refcrc_any (s : Int) (v : Value) (l : List UInt8) (w : World) (h0 : 0 ≤ s) (h1 : s < 4294967296) (hv : Rd8 w v l) :
    Calls Try.prog 53 #[.int .u32 s, v] w fun e w' => e = .returned (.int .u32 (Fr.crc s.toNat l)) ∧ w = w' := by
  obtain ⟨a, cap, rfl, hcap, hbig, hn, hc⟩ := hv.open
  unfold maxLen at hbig
  go_enter Try.func53, Try.ntmps53
  go_wp2
  go_loop [5, 6] (fun t i => ∃ k : Nat, k ≤ l.length ∧ i = .int .i64 k ∧ ∃ c : Nat, t = .int .u32 c ∧ c < 4294967296 ∧ c = Fr.run (4294967295 - s.toNat) (l.take k)) (fun _ i => l.length - (intOf i).toNat)
  case atStart => 
    refine ⟨0, by omega, rfl, 4294967295 - s.toNat, ?_, by omega, by simp [Fr.run]⟩
    simp; omega
  case round =>
    obtain ⟨k, hk, rfl, c, rfl, hc32, hcr⟩ := hrel
    have Hc := Lib.hid hcr; clear hcr
    by_cases hlt : k < l.length
    · obtain ⟨b, o, rfl, hcell⟩ := hc k hlt
      have hx := l[k].toNat_lt
      have Hs := Lib.hid (Fr.run_snoc (4294967295 - s.toNat) l k hlt)
      generalize hxx : l[k] = x at hcell hx Hs
      clear hc hxx
      go_wp2
      go_loop [5, 7, 8] (fun t i _ => ∃ m : Nat, m ≤ 8 ∧ i = .int .i64 m ∧ ∃ c' : Nat, t = .int .u32 c' ∧ c' < 4294967296 ∧ c' = Fr.bitsN m (c ^^^ x.toNat)) (fun _ i _ => 8 - (intOf i).toNat)
      case atStart => 
        refine ⟨0, by omega, rfl, c ^^^ x.toNat, ?_, Fr.xor_lt hc32 (by omega), rfl⟩
        exact congrArg _ (xor32 c x.toNat hc32 (by omega))
      case round =>
        obtain ⟨m, hm, rfl, c', rfl, hc', hcm⟩ := hrel
        have Hcm := Lib.hid hcm; clear hcm
        by_cases h8 : m < 8
        · have hxr := xor32 (c' / 2) 2197175160 (by omega) (by omega)
          by_cases hodd : c' % 2 = 1
          · have ht : ((c' : Int) % 2 == 1) = true := by rw [beq_iff_eq]; omega
            have hn : Fr.bit c' = (c' / 2) ^^^ 2197175160 := by unfold Fr.bit Fr.poly; rw [if_pos hodd]
            have hl := Fr.bit_lt hc'
            have Hr := Lib.hid hxr
            have Hn := Lib.hid hn
            clear hxr hodd hn
            go_wp2
            go_round
            case rel => exact ⟨m + 1, by omega, by go_num, Fr.bit c', by rw [Hn.out]; exact congrArg _ Hr.out, hl, by rw [Hcm.out]; rfl⟩
            case measure => simp [intOf]; omega
          · have ht : ((c' : Int) % 2 == 1) = false := by
              rw [beq_eq_false_iff_ne]; omega
            have hn : Fr.bit c' = (c' / 2) := by unfold Fr.bit Fr.poly; rw [if_neg hodd]
            have hl := Fr.bit_lt hc'
            have Hn := Lib.hid hn
            clear hxr hodd hn
            go_wp2
            go_round
            case rel => exact ⟨m + 1, by omega, by go_num, Fr.bit c', by rw [Hn.out]; rfl, hl, by rw [Hcm.out]; rfl⟩
            case measure => simp [intOf]; omega
        · obtain rfl : m = 8 := by omega
          go_wp2
          go_round
          case rel => exact ⟨k + 1, by omega, by go_num, c', rfl, hc', by rw [Hs.out, Hcm.out, Hc.out]; rfl⟩
          case measure => simp [intOf]; omega
    · obtain rfl : k = l.length := by omega
      go_wp2
      go_ret
      refine ⟨ret_int ?_, rfl⟩
      rw [List.take_length] at Hc
      rw [Fr.crc, ← Hc.out]
      omega
end Go.Proofs.Ytokmiphgalpahaa.Fm
