/- The check sum of layer 4 as a function on numbers and lists of bytes: plain facts, no program in sight. The contracts of the two check sums (functions 11 and 12): of any bytes, behind any sum below 2^32, they return Fr.crc and change nothing. The contract of frame.Seal (function 13) for a payload of at most 2^20 bytes: it returns Fr.sealed in a new row of bytes. The contracts of frame.Seal for a longer payload, and of the reference's Seal (function 14) for every payload that is read. The contract of frame.Open (function 15): of any bytes it returns Fr.opened, the payload in a new row. The contracts of FrameSeals (function 4) and FrameLong (function 6). The contract of the reference's Open (function 16): of any bytes it returns Fr.opened, the payload in a new row. Slices of pieces; the contracts of frame.Scan (function 17) and of the reference's Scan (function 18). The contracts of From (function 20) and Same (function 19): pieces as the document's; are two slices of pieces the same? The contract of FrameJoins (function 9). -/
import Derived.Test.YtokmiphgalpahaaRows
import Derived.Test.YtokmiphgalpahaaKtA
import Derived.BigQuiet
import Derived.Deep.RegionHeld3
import Derived.Test.YtokmiphgalpahaaKtL
import Derived.Deep.CutBlock
import Derived.Deep.DeepCutAuto
namespace Go.Proofs.Ytokmiphgalpahaa.Fm.Fr

def poly : Nat := 2197175160
def bit (c : Nat) : Nat := if c % 2 = 1 then (c / 2) ^^^ poly else c / 2
def bitsN : Nat → Nat → Nat
  | 0, c => c
  | k + 1, c => bit (bitsN k c)
def byte (c : Nat) (x : UInt8) : Nat := bitsN 8 (c ^^^ x.toNat)
def run (c : Nat) (l : List UInt8) : Nat := l.foldl byte c
def crc (s : Nat) (l : List UInt8) : Nat := 4294967295 - run (4294967295 - s) l

theorem bit_lt {c : Nat} (h : c < 4294967296) : bit c < 4294967296 := by
  unfold bit
  split
  · have h1 : c / 2 < 2 ^ 32 := by omega
    have h2 : poly < 2 ^ 32 := by decide
    exact Nat.xor_lt_two_pow h1 h2
  · omega
theorem bitsN_lt (k : Nat) {c : Nat} (h : c < 4294967296) : bitsN k c < 4294967296 := by
  induction k with
  | zero => exact h
  | succ k ih => exact bit_lt ih
theorem xor_lt {c x : Nat} (h : c < 4294967296) (hx : x < 4294967296) : c ^^^ x < 4294967296 := Nat.xor_lt_two_pow (n := 32) h hx
theorem byte_lt {c : Nat} (x : UInt8) (h : c < 4294967296) : byte c x < 4294967296 :=
  bitsN_lt 8 (xor_lt h (by have := x.toNat_lt; omega))
theorem run_lt (l : List UInt8) : ∀ {c : Nat}, c < 4294967296 → run c l < 4294967296 := by
  induction l with
  | nil => exact fun h => h
  | cons x l ih => intro c h; exact ih (byte_lt x h)
theorem run_append (c : Nat) (l r : List UInt8) : run c (l ++ r) = run (run c l) r := by simp [run, List.foldl_append]
theorem run_snoc (c : Nat) (l : List UInt8) (k : Nat) (h : k < l.length) : run c (l.take (k + 1)) = byte (run c (l.take k)) l[k] := by
  rw [List.take_succ_eq_append_getElem h, run_append]; rfl
theorem crc_lt (s : Nat) (l : List UInt8) : crc s l < 4294967296 := by unfold crc; omega
theorem crc_append (s : Nat) (l r : List UInt8) : crc s (l ++ r) = crc (crc s l) r := by
  unfold crc
  have h := run_lt l (c := 4294967295 - s) (by omega)
  rw [run_append, show 4294967295 - (4294967295 - run (4294967295 - s) l) = run (4294967295 - s) l by omega]
theorem xor_full {c : Nat} (h : c < 4294967296) : 4294967295 ^^^ c = 4294967295 - c := by
  have h1 := congrArg BitVec.toNat (BitVec.allOnes_xor (x := BitVec.ofNat 32 c))
  rw [BitVec.toNat_xor, BitVec.toNat_not, BitVec.toNat_allOnes, BitVec.toNat_ofNat, Nat.mod_eq_of_lt (by omega)] at h1
  simpa using h1
end Go.Proofs.Ytokmiphgalpahaa.Fm.Fr
namespace Go.Proofs.Ytokmiphgalpahaa.Fm
open Go.RowKit Go.Kt

theorem xor32 (a b : Nat) (ha : a < 4294967296) (hb : b < 4294967296) : bits .xor .u32 (a : Int) (b : Int) = ((a ^^^ b : Nat) : Int) := u32_xor_nat a b ha hb

theorem ret_int {k : IntKind} {a b : Int} (h : a = b) : Ending.returned (.int k a) = .returned (.int k b) := by rw [h]
theorem and1 (c : Nat) (hc : c < 4294967296) : bits .and .u32 (c : Int) 1 = ((c % 2 : Nat) : Int) := by
  have := u32_and_nat c 1 hc (by omega)
  rw [Nat.and_one_is_mod] at this; exact this

set_option maxHeartbeats 400000 in
theorem crc_any (s : Int) (v : Value) (l : List UInt8) (w : World) (h0 : 0 ≤ s) (h1 : s < 4294967296) (hv : Rd8 w v l) :
    Calls Try.prog 58 #[.int .u32 s, v] w fun e w' => e = .returned (.int .u32 (Fr.crc s.toNat l)) ∧ w = w' := by
  obtain ⟨a, cap, rfl, hcap, hbig, hn, hc⟩ := hv.open
  unfold maxLen at hbig
  go_enter Try.func58, Try.ntmps58
  go_wp2
  go_loop [0, 11] (fun t i => ∃ k : Nat, k ≤ l.length ∧ i = .int .i64 k ∧ ∃ c : Nat, t = .int .u32 c ∧ c < 4294967296 ∧ c = Fr.run (4294967295 - s.toNat) (l.take k)) (fun _ i => l.length - (intOf i).toNat)
  case atStart => 
    refine ⟨0, by omega, rfl, 4294967295 - s.toNat, ?_, by omega, by simp [Fr.run]⟩
    have := xor32 4294967295 s.toNat (by omega) (by omega)
    rw [Fr.xor_full (by omega), Int.toNat_of_nonneg h0] at this
    exact congrArg _ this
  case round =>
    obtain ⟨k, hk, rfl, c, rfl, hc32, hcr⟩ := hrel
    have Hc := Lib.hid hcr; clear hcr
    by_cases hlt : k < l.length
    · obtain ⟨b, o, rfl, hcell⟩ := hc k hlt
      have hx := l[k].toNat_lt
      have Hs := Lib.hid (Fr.run_snoc (4294967295 - s.toNat) l k hlt)
      generalize hxx : l[k] = x at hcell hx Hs
      clear hc hxx
      go_wp2
      go_loop [0, 19] (fun t i => ∃ m : Nat, m ≤ 8 ∧ i = .int .i64 m ∧ ∃ c' : Nat, t = .int .u32 c' ∧ c' < 4294967296 ∧ c' = Fr.bitsN m (c ^^^ x.toNat)) (fun _ i => 8 - (intOf i).toNat)
      case atStart => 
        refine ⟨0, by omega, rfl, c ^^^ x.toNat, ?_, Fr.xor_lt hc32 (by omega), rfl⟩
        exact congrArg _ (xor32 c x.toNat hc32 (by omega))
      case round =>
        obtain ⟨m, hm, rfl, c', rfl, hc', hcm⟩ := hrel
        have Hcm := Lib.hid hcm; clear hcm
        by_cases h8 : m < 8
        · have hb := and1 c' hc'
          have hxr := xor32 (c' / 2) 2197175160 (by omega) (by omega)
          by_cases hodd : c' % 2 = 1
          · have ht : (bits .and .u32 (c' : Int) 1 == 1) = true := by rw [hb, hodd]; rfl
            have hn : Fr.bit c' = (c' / 2) ^^^ 2197175160 := by unfold Fr.bit Fr.poly; rw [if_pos hodd]
            have hl := Fr.bit_lt hc'
            have Hr := Lib.hid hxr
            have Hn := Lib.hid hn
            clear hb hxr hodd hn
            go_wp2
            go_round
            case rel => exact ⟨m + 1, by omega, by go_num, Fr.bit c', by rw [Hn.out]; exact congrArg _ Hr.out, hl, by rw [Hcm.out]; rfl⟩
            case measure => simp [intOf]; omega
          · have ht : (bits .and .u32 (c' : Int) 1 == 1) = false := by
              rw [hb, show c' % 2 = 0 by omega]; rfl
            have hn : Fr.bit c' = (c' / 2) := by unfold Fr.bit Fr.poly; rw [if_neg hodd]
            have hl := Fr.bit_lt hc'
            have Hn := Lib.hid hn
            clear hb hxr hodd hn
            go_wp2
            go_round
            case rel => exact ⟨m + 1, by omega, by go_num, Fr.bit c', by rw [Hn.out]; rfl, hl, by rw [Hcm.out]; rfl⟩
            case measure => simp [intOf]; omega
        · obtain rfl : m = 8 := by omega
          go_wp2
          go_round
          case rel => exact ⟨k + 1, by omega, by go_num, c', rfl, hc', by rw [Hs.out, Hcm.out, Hc.out]; rfl⟩
          case measure => simp [intOf]; omega
    · obtain rfl : k = l.length := by omega
      go_wp2
      go_ret
      refine ⟨ret_int ?_, rfl⟩
      have := xor32 4294967295 c (by omega) (by omega)
      rw [Fr.xor_full (by omega)] at this
      rw [List.take_length] at Hc
      rw [Fr.crc, ← Hc.out]
      exact this

set_option maxHeartbeats 400000 in
theorem refcrc_any (s : Int) (v : Value) (l : List UInt8) (w : World) (h0 : 0 ≤ s) (h1 : s < 4294967296) (hv : Rd8 w v l) :
    Calls Try.prog 53 #[.int .u32 s, v] w fun e w' => e = .returned (.int .u32 (Fr.crc s.toNat l)) ∧ w = w' := by
  obtain ⟨a, cap, rfl, hcap, hbig, hn, hc⟩ := hv.open
  unfold maxLen at hbig
  go_enter Try.func53, Try.ntmps53
  go_wp2
  go_loop [5, 6] (fun t i => ∃ k : Nat, k ≤ l.length ∧ i = .int .i64 k ∧ ∃ c : Nat, t = .int .u32 c ∧ c < 4294967296 ∧ c = Fr.run (4294967295 - s.toNat) (l.take k)) (fun _ i => l.length - (intOf i).toNat)
  case atStart => 
    refine ⟨0, by omega, rfl, 4294967295 - s.toNat, ?_, by omega, by simp [Fr.run]⟩
    simp; omega
  case round =>
    obtain ⟨k, hk, rfl, c, rfl, hc32, hcr⟩ := hrel
    have Hc := Lib.hid hcr; clear hcr
    by_cases hlt : k < l.length
    · obtain ⟨b, o, rfl, hcell⟩ := hc k hlt
      have hx := l[k].toNat_lt
      have Hs := Lib.hid (Fr.run_snoc (4294967295 - s.toNat) l k hlt)
      generalize hxx : l[k] = x at hcell hx Hs
      clear hc hxx
      go_wp2
      go_loop [5, 7, 8] (fun t i _ => ∃ m : Nat, m ≤ 8 ∧ i = .int .i64 m ∧ ∃ c' : Nat, t = .int .u32 c' ∧ c' < 4294967296 ∧ c' = Fr.bitsN m (c ^^^ x.toNat)) (fun _ i _ => 8 - (intOf i).toNat)
      case atStart => 
        refine ⟨0, by omega, rfl, c ^^^ x.toNat, ?_, Fr.xor_lt hc32 (by omega), rfl⟩
        exact congrArg _ (xor32 c x.toNat hc32 (by omega))
      case round =>
        obtain ⟨m, hm, rfl, c', rfl, hc', hcm⟩ := hrel
        have Hcm := Lib.hid hcm; clear hcm
        by_cases h8 : m < 8
        · have hxr := xor32 (c' / 2) 2197175160 (by omega) (by omega)
          by_cases hodd : c' % 2 = 1
          · have ht : ((c' : Int) % 2 == 1) = true := by rw [beq_iff_eq]; omega
            have hn : Fr.bit c' = (c' / 2) ^^^ 2197175160 := by unfold Fr.bit Fr.poly; rw [if_pos hodd]
            have hl := Fr.bit_lt hc'
            have Hr := Lib.hid hxr
            have Hn := Lib.hid hn
            clear hxr hodd hn
            go_wp2
            go_round
            case rel => exact ⟨m + 1, by omega, by go_num, Fr.bit c', by rw [Hn.out]; exact congrArg _ Hr.out, hl, by rw [Hcm.out]; rfl⟩
            case measure => simp [intOf]; omega
          · have ht : ((c' : Int) % 2 == 1) = false := by
              rw [beq_eq_false_iff_ne]; omega
            have hn : Fr.bit c' = (c' / 2) := by unfold Fr.bit Fr.poly; rw [if_neg hodd]
            have hl := Fr.bit_lt hc'
            have Hn := Lib.hid hn
            clear hxr hodd hn
            go_wp2
            go_round
            case rel => exact ⟨m + 1, by omega, by go_num, Fr.bit c', by rw [Hn.out]; rfl, hl, by rw [Hcm.out]; rfl⟩
            case measure => simp [intOf]; omega
        · obtain rfl : m = 8 := by omega
          go_wp2
          go_round
          case rel => exact ⟨k + 1, by omega, by go_num, c', rfl, hc', by rw [Hs.out, Hcm.out, Hc.out]; rfl⟩
          case measure => simp [intOf]; omega
    · obtain rfl : k = l.length := by omega
      go_wp2
      go_ret
      refine ⟨ret_int ?_, rfl⟩
      rw [List.take_length] at Hc
      rw [Fr.crc, ← Hc.out]
      omega
end Go.Proofs.Ytokmiphgalpahaa.Fm
namespace Go.Proofs.Ytokmiphgalpahaa.Fm
open Go.RowKit Go.Kt

theorem ok23 : ElemOk Try.prog 22 5 (.int .u8 0) 1 1 := ⟨Try.underlying22, info_parts (by kernel_rfl), rfl, by decide⟩

namespace Fr
def head4 (k : UInt8) (n : Nat) : List UInt8 := [k, UInt8.ofNat (n / 65536), UInt8.ofNat (n / 256), UInt8.ofNat n]
def le4 (c : Nat) : List UInt8 := [UInt8.ofNat c, UInt8.ofNat (c / 256), UInt8.ofNat (c / 65536), UInt8.ofNat (c / 16777216)]
def sum (k : UInt8) (l : List UInt8) : Nat := crc 0 (head4 k l.length ++ l)
def sealed (k : UInt8) (l : List UInt8) : List UInt8 := [167] ++ head4 k l.length ++ le4 (sum k l) ++ l
end Fr


set_option maxHeartbeats 400000 in
theorem seal_ok (k : UInt8) (v : Value) (l : List UInt8) (w : World) (hv : Rd8 w v l) (hshort : l.length ≤ 1048576) :
    Calls Try.prog 51 #[by8 k, v] w fun e w' => ∃ v', e = .returned (.tuple #[v', .int .i64 0]) ∧ Mine8 5 w w' v' (Fr.sealed k l) ∧ Below w.heap.size w w' := by
  have hv' := Lib.hid hv
  obtain ⟨a, cap, rfl, hcap, hbig, hn, hc⟩ := hv.open
  unfold maxLen at hbig
  clear hc hn hv
  have hhead : #[by8 k, Value.int IntKind.u8 (↑l.length / 65536), Value.int IntKind.u8 (↑l.length / 256 % 256), Value.int IntKind.u8 (↑l.length % 256)].toList = (Fr.head4 k l.length).map by8 := by
    simp only [Fr.head4, List.map]
    rw [← by8_mod (z := (l.length : Int) / 65536) (l.length / 65536) (by omega), ← by8_mod (z := (l.length : Int) / 256 % 256) (l.length / 256) (by omega), ← by8_mod (z := (l.length : Int) % 256) (l.length) (by omega)]
  have Ho := Lib.hid (mine8_at (w0 := w) (w := w) (e := 5) (Fr.head4 k l.length) (by simp [Fr.head4, maxLen]) rfl rfl (Nat.le_refl _) hhead)
  have Hb := Lib.hid (below_alloc w (.cells #[by8 k, Value.int IntKind.u8 (↑l.length / 65536), Value.int IntKind.u8 (↑l.length / 256 % 256), Value.int IntKind.u8 (↑l.length % 256)] 5))
  clear hhead
  unfold by8 at Ho Hb ⊢
  go_enter Try.func51, Try.ntmps51
  go_wp2_with fail
  refine (crc_any 0 _ (Fr.head4 k l.length) _ (by omega) (by omega) Ho.out.rd).mono ?_
  rintro e w' ⟨rfl, rfl⟩
  go_wp2_with fail
  have hlt := Fr.crc_lt 0 (Fr.head4 k l.length)
  have Hs := Lib.hid (Fr.crc_append 0 (Fr.head4 k l.length) l)
  generalize Fr.crc 0 (Fr.head4 k l.length) = c0 at hlt Hs ⊢
  refine (crc_any c0 _ l _ (by omega) (by omega) (hv'.out.below Hb.out)).mono ?_
  rintro e w' ⟨rfl, rfl⟩
  rw [Int.toNat_natCast]
  have hlt2 := Fr.crc_lt c0 l
  generalize Fr.crc c0 l = c at hlt2 Hs ⊢
  go_wp2_with (at_builtin; apply Hold.mk)
  unfold Hold
  refine wpList_app8_mine rfl _ _ 22 rfl ok23 [167] (Fr.head4 k l.length) rfl rfl w (Hb.out.alloc (by simp) _) (mine8_at [167] (by simp [maxLen]) rfl (by simp) (by simp) rfl) (Mine8.rd (Mine8.alloc Ho.out _)) (by simp [Fr.head4]) ?_
  intro v1 w1 hown1 hb1 _ hz1
  have Hown1 := Lib.hid hown1
  have Hb1 := Lib.hid hb1
  clear hown1 hb1 Ho Hb
  go_wp2_with (at_builtin; apply Hold.mk)
  unfold Hold
  refine wpList_app8_mine rfl _ _ 22 rfl ok23 _ (Fr.le4 c) rfl rfl w (Hb1.out.alloc hz1 _) (Mine8.alloc Hown1.out _) (Mine8.rd (e := 5) (w0 := w) (mine8_at (Fr.le4 c) (by simp [Fr.le4, maxLen]) rfl rfl hz1 ?_)) (by simp [Fr.head4, Fr.le4]) ?_
  · simp only [Fr.le4, List.map]
    rw [← by8_mod (z := (c : Int) % 256) c (by omega), ← by8_mod (z := (c : Int) / 256 % 256) (c / 256) (by omega), ← by8_mod (z := (c : Int) / 65536 % 256) (c / 65536) (by omega), ← by8_mod (z := (c : Int) / 16777216) (c / 16777216) (by omega)]
  intro v2 w2 hown2 hb2 _ hz2
  have Hown2 := Lib.hid hown2
  have Hb2 := Lib.hid hb2
  clear hown2 hb2 Hown1 Hb1
  go_wp2_with (at_builtin; apply Hold.mk)
  unfold Hold
  refine wpList_app8_mine rfl _ _ 22 rfl ok23 _ l rfl rfl w Hb2.out Hown2.out (hv'.out.below Hb2.out) (by simp [Fr.head4, Fr.le4]; omega) ?_
  intro v3 w3 hown3 hb3 _ hz3
  have Hown3 := Lib.hid hown3
  have Hb3 := Lib.hid hb3
  clear hown3 hb3 Hown2 Hb2
  go_wp2_with fail
  go_ret2
  refine ⟨_, rfl, ?_, Hb3.out⟩
  have := Hown3.out
  rw [← Hs.out] at this
  exact this
end Go.Proofs.Ytokmiphgalpahaa.Fm
namespace Go.Proofs.Ytokmiphgalpahaa.Fm
open Go.RowKit Go.Kt

theorem seal_long (k : UInt8) (v : Value) (l : List UInt8) (w : World) (hv : Rd8 w v l) (hlong : 1048576 < l.length) :
    Calls Try.prog 51 #[by8 k, v] w fun e w' => e = .returned (.tuple #[.slice none 0 0, .int .i64 8]) ∧ w = w' := by
  obtain ⟨a, cap, rfl, hcap, hbig, hn, hc⟩ := hv.open
  unfold maxLen at hbig
  unfold by8
  go_enter Try.func51, Try.ntmps51
  go_wp2_with fail
  go_ret2
  exact ⟨rfl, rfl⟩

theorem refseal_long (k : UInt8) (v : Value) (l : List UInt8) (w : World) (hv : Rd8 w v l) (hlong : 1048576 < l.length) :
    Calls Try.prog 40 #[by8 k, v] w fun e w' => e = .returned (.tuple #[.slice none 0 0, .int .i64 8]) ∧ w = w' := by
  obtain ⟨a, cap, rfl, hcap, hbig, hn, hc⟩ := hv.open
  unfold maxLen at hbig
  unfold by8
  go_enter Try.func40, Try.ntmps40
  go_wp2_with fail
  go_ret2
  exact ⟨rfl, rfl⟩

theorem le4_step (c : Nat) (i : Nat) (h : i < 4) : (Fr.le4 c).take (i + 1) = (Fr.le4 c).take i ++ [UInt8.ofNat (c / 256 ^ i)] := by
  match i, h with
  | 0, _ => simp [Fr.le4]
  | 1, _ => simp [Fr.le4]
  | 2, _ => simp [Fr.le4]
  | 3, _ => simp [Fr.le4]

set_option maxHeartbeats 400000 in
theorem refseal_ok (k : UInt8) (v : Value) (l : List UInt8) (w : World) (hv : Rd8 w v l) (hshort : l.length ≤ 1048576) :
    Calls Try.prog 40 #[by8 k, v] w fun e w' => ∃ v', e = .returned (.tuple #[v', .int .i64 0]) ∧ Mine8 5 w w' v' (Fr.sealed k l) ∧ Below w.heap.size w w' := by
  have hv' := Lib.hid hv
  obtain ⟨a, cap, rfl, hcap, hbig, hn, hc⟩ := hv.open
  unfold maxLen at hbig
  clear hc hn hv
  have hhead : #[by8 k, Value.int IntKind.u8 (↑l.length / 65536), Value.int IntKind.u8 (↑l.length / 256 % 256), Value.int IntKind.u8 (↑l.length % 256)].toList = (Fr.head4 k l.length).map by8 := by
    simp only [Fr.head4, List.map]
    rw [← by8_mod (z := (l.length : Int) / 65536) (l.length / 65536) (by omega), ← by8_mod (z := (l.length : Int) / 256 % 256) (l.length / 256) (by omega), ← by8_mod (z := (l.length : Int) % 256) (l.length) (by omega)]
  have Ho := Lib.hid (mine8_at (w0 := w) (w := w) (e := 5) (Fr.head4 k l.length) (by simp [Fr.head4, maxLen]) rfl rfl (Nat.le_refl _) hhead)
  have Hb := Lib.hid (below_alloc w (.cells #[by8 k, Value.int IntKind.u8 (↑l.length / 65536), Value.int IntKind.u8 (↑l.length / 256 % 256), Value.int IntKind.u8 (↑l.length % 256)] 5))
  clear hhead
  unfold by8 at Ho Hb ⊢
  go_enter Try.func40, Try.ntmps40
  go_wp2_with (at_builtin; apply Hold.mk)
  unfold Hold
  have HB := Lib.hid (Below.refl (w.alloc (.cells #[.int .u8 (k.toNat : Int), Value.int IntKind.u8 (↑l.length / 65536), Value.int IntKind.u8 (↑l.length / 256 % 256), Value.int IntKind.u8 (↑l.length % 256)] 5)).heap.size (w.alloc (.cells #[.int .u8 (k.toNat : Int), Value.int IntKind.u8 (↑l.length / 65536), Value.int IntKind.u8 (↑l.length / 256 % 256), Value.int IntKind.u8 (↑l.length % 256)] 5)))
  refine wpList_app8_mine rfl _ _ 22 rfl ok23 [] (Fr.head4 k l.length) rfl rfl _ (HB.out.alloc (by simp) _) (mine8_at [] (by simp [maxLen]) rfl (by simp) (by simp) rfl) (Mine8.rd (Mine8.alloc Ho.out _)) (by simp [Fr.head4]) ?_
  intro v1 w1 hown1 hb1 _ _
  have Hown1 := Lib.hid hown1
  have Hb1 := Lib.hid hb1
  clear hown1 hb1
  have Hw1 := Lib.hid (Hb.out.trans (Hb1.out.mono (by simp)))
  go_wp2_with (at_builtin; apply Hold.mk)
  unfold Hold
  refine wpList_app8_mine rfl _ _ 22 rfl ok23 _ l rfl rfl _ Hb1.out Hown1.out (hv'.out.below Hw1.out) (by simp [Fr.head4]; omega) ?_
  intro v2 w2 hown2 hb2 _ _
  have Hown2 := Lib.hid hown2
  have Hb2 := Lib.hid hb2
  clear hown2 hb2 Hown1 Hb1 Hw1
  go_wp2_with fail
  refine (refcrc_any 0 _ _ _ (by omega) (by omega) Hown2.out.rd).mono ?_
  rintro e w' ⟨rfl, rfl⟩
  have hc := Fr.crc_lt (Int.toNat 0) ([] ++ Fr.head4 k l.length ++ l)
  have Hc : Hid (Fr.crc (Int.toNat 0) ([] ++ Fr.head4 k l.length ++ l) = Fr.sum k l) := Lib.hid rfl
  generalize Fr.crc (Int.toNat 0) ([] ++ Fr.head4 k l.length ++ l) = c at hc Hc ⊢
  clear Hown2
  have hz2 := (Hb.out.trans (Hb2.out.mono (by simp))).size
  go_wp2_with (at_builtin; apply Hold.mk)
  unfold Hold
  refine wpList_app8_mine rfl _ _ 22 rfl ok23 [167] (Fr.head4 k l.length) rfl rfl _ (Hb2.out.alloc Hb2.out.size _) (mine8_at [167] (by simp [maxLen]) rfl (by simp) Hb2.out.size rfl) (Mine8.rd ((Ho.out.below Hb2.out).alloc _)) (by simp [Fr.head4]) ?_
  intro v3 w3 hown3 hb3 _ _
  have Hown3 := Lib.hid hown3
  have Hb3 := Lib.hid (Hb.out.trans (hb3.mono (by simp)))
  have Hm3 := Lib.hid (Hown3.out.since (w0 := w) (by simp))
  clear hown3 hb3 Hb2 Hown3 HB Hb Ho
  go_wp2_with fail
  go_loopw [9, 10, 11] (fun cv out i wr => ∃ m : Nat, m ≤ 4 ∧ i = .int .i64 m ∧ cv = .int .u32 ((c / 256 ^ m : Nat) : Int) ∧ Hid (Mine8 5 w wr out ([167] ++ Fr.head4 k l.length ++ (Fr.le4 c).take m)) ∧ Hid (Below w.heap.size w wr)) (fun _ _ i _ => 4 - (intOf i).toNat)
  case atStart => exact ⟨0, by omega, rfl, by simp, by simpa using Hm3, Hb3⟩
  case round =>
    obtain ⟨m, hm, rfl, rfl, Hm, Hb⟩ := hrel
    have hpow : c / 256 ^ m < 4294967296 := Nat.lt_of_le_of_lt (Nat.div_le_self _ _) hc
    have Hdiv : Hid (c / 256 ^ (m + 1) = c / 256 ^ m / 256) := Lib.hid (by rw [Nat.pow_succ, ← Nat.div_div_eq_div_mul])
    by_cases h4 : m < 4
    · have Hstep := Lib.hid (le4_step c m h4)
      generalize hq : c / 256 ^ m = q at hpow Hdiv Hstep ⊢
      clear hq
      go_wp2_with (at_builtin; apply Hold.mk)
      unfold Hold
      refine wpList_app8_mine rfl _ _ 22 rfl ok23 _ [UInt8.ofNat q] rfl rfl w (Hb.out.alloc Hb.out.size _) (Hm.out.alloc _) (Mine8.rd (e := 5) (w0 := w) (mine8_at [UInt8.ofNat q] (by simp [maxLen]) rfl rfl Hb.out.size ?_)) (by simp [Fr.head4, Fr.le4]; omega) ?_
      · simp only [List.map]
        rw [← by8_mod (z := (q : Int) % 256) q (by omega)]
      intro v4 w4 hown4 hb4 _ _
      have Hown4 := Lib.hid hown4
      have Hb4 := Lib.hid hb4
      clear hown4 hb4
      go_wp2_with fail
      go_roundw
      case rel => exact ⟨m + 1, by omega, by go_num, by rw [Hdiv.out]; congr 1, Lib.hid (by rw [Hstep.out, ← List.append_assoc]; exact Hown4.out), Hb4⟩
      case measure => simp [intOf]; omega
    · obtain rfl : m = 4 := by omega
      go_wp2_with (at_builtin; apply Hold.mk)
      unfold Hold
      refine wpList_app8_mine rfl _ _ 22 rfl ok23 _ l rfl rfl w Hb.out Hm.out (hv'.out.below Hb.out) (by simp [Fr.head4, Fr.le4]; omega) ?_
      intro v4 w4 hown4 hb4 _ _
      have Hown4 := Lib.hid hown4
      have Hb4 := Lib.hid hb4
      clear hown4 hb4
      go_wp2_with fail
      go_ret2
      refine ⟨_, rfl, ?_, Hb4.out⟩
      have := Hown4.out
      rw [Hc.out] at this
      exact this
end Go.Proofs.Ytokmiphgalpahaa.Fm
namespace Go.Proofs.Ytokmiphgalpahaa.Fm
open Go.RowKit Go.Kt

theorem wraps_i64 (n : Int) (h₀ : 0 ≤ n) (h₁ : n < 2 ^ 63) : IntKind.i64.wrap n = n := by rw [IntKind.wrap_i64]; omega
theorem wraps_u32 (n : Int) (h₀ : 0 ≤ n) (h₁ : n < 2 ^ 32) : IntKind.u32.wrap n = n := by rw [IntKind.wrap_u32]; omega
theorem or_i64 (a b : Nat) (ha : a < 2 ^ 63) (hb : b < 2 ^ 63) : bits .or .i64 (a : Int) (b : Int) = ((a ||| b : Nat) : Int) := (bits_nat .i64 63 (by decide) wraps_i64 a b ha hb).2
theorem or_u32 (a b : Nat) (ha : a < 2 ^ 32) (hb : b < 2 ^ 32) : bits .or .u32 (a : Int) (b : Int) = ((a ||| b : Nat) : Int) := (bits_nat .u32 32 (by decide) wraps_u32 a b ha hb).2
theorem or_sum (i x y : Nat) (hx : x % 2 ^ i = 0) (hy : y < 2 ^ i) : x ||| y = x + y := nat_join i x y hx hy
theorem or3 (a b c : Nat) (ha : a < 256) (hb : b < 256) (hc : c < 256) : bits .or .i64 (bits .or .i64 ((a : Int) * 65536) ((b : Int) * 256)) (c : Int) = ((a * 65536 + b * 256 + c : Nat) : Int) := by
  have e1 : ((a : Int) * 65536) = ((a * 65536 : Nat) : Int) := by simp
  have e2 : ((b : Int) * 256) = ((b * 256 : Nat) : Int) := by simp
  rw [e1, e2, or_i64 _ _ (by omega) (by omega), or_sum 16 _ _ (by omega) (by omega), or_i64 _ _ (by omega) (by omega), or_sum 8 _ _ (by omega) (by omega)]
theorem or4 (a b c d : Nat) (ha : a < 256) (hb : b < 256) (hc : c < 256) (hd : d < 256) : bits .or .u32 (bits .or .u32 (bits .or .u32 (a : Int) ((b : Int) * 256)) ((c : Int) * 65536)) ((d : Int) * 16777216) = ((a + b * 256 + c * 65536 + d * 16777216 : Nat) : Int) := by
  have e1 : ((c : Int) * 65536) = ((c * 65536 : Nat) : Int) := by simp
  have e2 : ((b : Int) * 256) = ((b * 256 : Nat) : Int) := by simp
  have e3 : ((d : Int) * 16777216) = ((d * 16777216 : Nat) : Int) := by simp
  rw [e1, e2, e3, or_u32 _ _ (by omega) (by omega), Nat.or_comm, or_sum 8 _ _ (by omega) (by omega), or_u32 _ _ (by omega) (by omega), Nat.or_comm, or_sum 16 _ _ (by omega) (by omega), or_u32 _ _ (by omega) (by omega), Nat.or_comm, or_sum 24 _ _ (by omega) (by omega)]
  omega

namespace Fr
/-- kind, payload, used, error -/
structure Got where
  kind : UInt8
  body : List UInt8
  used : Nat
  err : Nat
def bad (e : Nat) : Got := ⟨0, [], 0, e⟩
def num (x2 x3 x4 : UInt8) : Nat := x2.toNat * 65536 + x3.toNat * 256 + x4.toNat
def num4 (x5 x6 x7 x8 : UInt8) : Nat := x5.toNat + x6.toNat * 256 + x7.toNat * 65536 + x8.toNat * 16777216
def fin (x1 : UInt8) (p : List UInt8) (n m : Nat) : Got := if sum x1 p = m then ⟨x1, p, 9 + n, 0⟩ else bad 30
def opened : List UInt8 → Got
  | x0 :: x1 :: x2 :: x3 :: x4 :: x5 :: x6 :: x7 :: x8 :: t =>
    if x0 ≠ 167 then bad 10
    else if 1048576 < num x2 x3 x4 then bad 8
    else if t.length < num x2 x3 x4 then bad 9
    else fin x1 (t.take (num x2 x3 x4)) (num x2 x3 x4) (num4 x5 x6 x7 x8)
  | x0 :: _ => if x0 ≠ 167 then bad 10 else bad 9
  | [] => bad 9
end Fr


/-- the first nine bytes of a slice, and what is behind them -/
theorem rd8_nine {w : World} {v : Value} {x0 x1 x2 x3 x4 x5 x6 x7 x8 : UInt8} {t : List UInt8} (h : Rd8 w v (x0 :: x1 :: x2 :: x3 :: x4 :: x5 :: x6 :: x7 :: x8 :: t)) :
    ∃ bb o cap, v = .slice (some ⟨bb, o, none⟩) (t.length + 9) cap ∧ t.length + 9 ≤ cap ∧ cap ≤ 9223372036854775807 ∧
      w.cell? ⟨bb, o, none⟩ = some (.int .u8 (x0.toNat : Int)) ∧ w.cell? ⟨bb, o + 1, none⟩ = some (.int .u8 (x1.toNat : Int)) ∧ w.cell? ⟨bb, o + 2, none⟩ = some (.int .u8 (x2.toNat : Int)) ∧
      w.cell? ⟨bb, o + 3, none⟩ = some (.int .u8 (x3.toNat : Int)) ∧ w.cell? ⟨bb, o + 4, none⟩ = some (.int .u8 (x4.toNat : Int)) ∧ w.cell? ⟨bb, o + 5, none⟩ = some (.int .u8 (x5.toNat : Int)) ∧
      w.cell? ⟨bb, o + 6, none⟩ = some (.int .u8 (x6.toNat : Int)) ∧ w.cell? ⟨bb, o + 7, none⟩ = some (.int .u8 (x7.toNat : Int)) ∧ w.cell? ⟨bb, o + 8, none⟩ = some (.int .u8 (x8.toNat : Int)) := by
  obtain ⟨a, cap, rfl, hcap, hbig, hn, hc⟩ := h.open
  obtain ⟨bb, o, rfl, _⟩ := hc 0 (by simp)
  have hcell : ∀ j (h : j < (x0 :: x1 :: x2 :: x3 :: x4 :: x5 :: x6 :: x7 :: x8 :: t).length), w.cell? ⟨bb, o + j, none⟩ = some (.int .u8 ((x0 :: x1 :: x2 :: x3 :: x4 :: x5 :: x6 :: x7 :: x8 :: t)[j].toNat : Int)) := by
    intro j h
    obtain ⟨b', o', e, hc'⟩ := hc j h
    cases e
    exact hc'
  refine ⟨bb, o, cap, rfl, by simpa using hcap, by simpa [maxLen] using hbig, hcell 0 (by simp), hcell 1 (by simp), hcell 2 (by simp), hcell 3 (by simp), hcell 4 (by simp), hcell 5 (by simp), hcell 6 (by simp), hcell 7 (by simp), hcell 8 (by simp)⟩

/-- what Open answers, as values -/
def Opens (B : World) (r : Fr.Got) (e : Ending) (w' : World) : Prop :=
  ∃ pv, e = .returned (.tuple #[by8 r.kind, pv, .int .i64 (r.used : Int), .int .i64 (r.err : Int)]) ∧ Mine8 5 B w' pv r.body ∧ Below B.heap.size B w'

theorem opens_bad {B w' : World} (n : Nat) (hb : Below B.heap.size B w') : Opens B (Fr.bad n) (.returned (.tuple #[.int .u8 0, .slice none 0 0, .int .i64 0, .int .i64 (n : Int)])) w' :=
  ⟨_, rfl, mine8_nil _ _ _, hb⟩

theorem bne8 (x y : UInt8) (z : Int) (hz : z = y.toNat) : ((x.toNat : Int) != z) = (x != y) := by
  subst hz
  rw [Bool.eq_iff_iff]
  simp only [bne_iff_ne, ne_eq, Int.natCast_inj]
  exact not_congr UInt8.toNat_inj

theorem open_form (v : Value) (x0 : UInt8) (t : List UInt8) (w : World) (hv : Rd8 w v (x0 :: t)) (hx : x0 ≠ 167) : Calls Try.prog 57 #[v] w (Opens w (Fr.bad 10)) := by
  obtain ⟨a, cap, rfl, hcap, hbig, hn, hc⟩ := hv.open
  obtain ⟨bb, o, rfl, hcell⟩ := hc 0 (by simp)
  simp only [Nat.add_zero, List.getElem_cons_zero] at hcell
  have hb := bne8 x0 167 167 rfl
  rw [show (x0 != 167) = true by simpa using hx] at hb
  simp only [List.length_cons] at hcap ⊢
  unfold maxLen at hbig
  clear hc hn hv hx
  go_enter Try.func57, Try.ntmps57
  go_wp2_with fail
  exact bodyPost_ret (v := .tuple #[.int .u8 0, .slice none 0 0, .int .i64 0, .int .i64 10]) (by simp [results, Try.results57, go_sem]) rfl (opens_bad 10 (Below.refl _ _))

theorem open_empty (v : Value) (w : World) (hv : Rd8 w v []) : Calls Try.prog 57 #[v] w (Opens w (Fr.bad 9)) := by
  obtain ⟨a, cap, rfl, hcap, hbig, hn, hc⟩ := hv.open
  simp only [List.length_nil] at hcap ⊢
  unfold maxLen at hbig
  clear hc hn hv
  go_enter Try.func57, Try.ntmps57
  go_wp2_with fail
  exact bodyPost_ret (v := .tuple #[.int .u8 0, .slice none 0 0, .int .i64 0, .int .i64 9]) (by simp [results, Try.results57, go_sem]) rfl (opens_bad 9 (Below.refl _ _))

theorem open_short (v : Value) (t : List UInt8) (w : World) (hv : Rd8 w v (167 :: t)) (hs : t.length < 8) : Calls Try.prog 57 #[v] w (Opens w (Fr.bad 9)) := by
  obtain ⟨a, cap, rfl, hcap, hbig, hn, hc⟩ := hv.open
  obtain ⟨bb, o, rfl, hcell⟩ := hc 0 (by simp)
  simp only [Nat.add_zero, List.getElem_cons_zero, show UInt8.toNat 167 = 167 by rfl] at hcell
  have hcell' : w.cell? ⟨bb, o, none⟩ = some (.int .u8 167) := hcell
  simp only [List.length_cons] at hcap ⊢
  unfold maxLen at hbig
  clear hc hn hv hcell
  go_enter Try.func57, Try.ntmps57
  go_wp2_with fail
  exact bodyPost_ret (v := .tuple #[.int .u8 0, .slice none 0 0, .int .i64 0, .int .i64 9]) (by simp [results, Try.results57, go_sem]) rfl (opens_bad 9 (Below.refl _ _))

section
variable (v : Value) (w : World) (x1 x2 x3 x4 x5 x6 x7 x8 : UInt8) (t : List UInt8) (hv : Rd8 w v (167 :: x1 :: x2 :: x3 :: x4 :: x5 :: x6 :: x7 :: x8 :: t))
include hv
set_option maxHeartbeats 400000 in
theorem open_limit (hl : 1048576 < Fr.num x2 x3 x4) : Calls Try.prog 57 #[v] w (Opens w (Fr.bad 8)) := by
  obtain ⟨bb, o, cap, rfl, hcap, hbig, h0, h1, h2, h3, h4, h5, h6, h7, h8⟩ := rd8_nine hv
  have h0' : w.cell? ⟨bb, o, none⟩ = some (.int .u8 167) := h0
  clear h0
  have b2 := x2.toNat_lt
  have b3 := x3.toNat_lt
  have b4 := x4.toNat_lt
  unfold Fr.num at hl
  generalize x2.toNat = y2 at *
  generalize x3.toNat = y3 at *
  generalize x4.toNat = y4 at *
  clear hv h5 h6 h7 h8 h1
  go_enter Try.func57, Try.ntmps57
  go_wp2_with fail
  go_quiet (fail)
  rw [or3 y2 y3 y4 b2 b3 b4]
  generalize hn : y2 * 65536 + y3 * 256 + y4 = n at *
  have Hn := Lib.hid hn
  clear hn
  go_wp2_with fail
  exact bodyPost_ret (v := .tuple #[.int .u8 0, .slice none 0 0, .int .i64 0, .int .i64 8]) (by simp [results, Try.results57, go_sem]) rfl (opens_bad 8 (below_drewN _ _))

set_option maxHeartbeats 400000 in
theorem open_cut (hl : Fr.num x2 x3 x4 ≤ 1048576) (hs : t.length < Fr.num x2 x3 x4) : Calls Try.prog 57 #[v] w (Opens w (Fr.bad 9)) := by
  obtain ⟨bb, o, cap, rfl, hcap, hbig, h0, h1, h2, h3, h4, h5, h6, h7, h8⟩ := rd8_nine hv
  have h0' : w.cell? ⟨bb, o, none⟩ = some (.int .u8 167) := h0
  clear h0
  have b2 := x2.toNat_lt
  have b3 := x3.toNat_lt
  have b4 := x4.toNat_lt
  unfold Fr.num at hl hs
  generalize x2.toNat = y2 at *
  generalize x3.toNat = y3 at *
  generalize x4.toNat = y4 at *
  clear hv h5 h6 h7 h8 h1
  go_enter Try.func57, Try.ntmps57
  go_wp2_with fail
  go_quiet (fail)
  rw [or3 y2 y3 y4 b2 b3 b4]
  generalize hn : y2 * 65536 + y3 * 256 + y4 = n at *
  have Hn := Lib.hid hn
  clear hn
  go_wp2_with fail
  exact bodyPost_ret (v := .tuple #[.int .u8 0, .slice none 0 0, .int .i64 0, .int .i64 9]) (by simp [results, Try.results57, go_sem]) rfl (opens_bad 9 (below_drewN _ _))

set_option maxHeartbeats 1000000 in
theorem open_sum (hl : Fr.num x2 x3 x4 ≤ 1048576) (hs : Fr.num x2 x3 x4 ≤ t.length) :
    Calls Try.prog 57 #[v] w (Opens w (Fr.fin x1 (t.take (Fr.num x2 x3 x4)) (Fr.num x2 x3 x4) (Fr.num4 x5 x6 x7 x8))) := by
  have hv0 := Lib.hid hv
  obtain ⟨bb, o, cap, rfl, hcap, hbig, h0, h1, h2, h3, h4, h5, h6, h7, h8⟩ := rd8_nine hv
  have h0' : w.cell? ⟨bb, o, none⟩ = some (.int .u8 167) := h0
  clear h0
  have b2 := x2.toNat_lt
  have b3 := x3.toNat_lt
  have b4 := x4.toNat_lt
  have b5 := x5.toNat_lt
  have b6 := x6.toNat_lt
  have b7 := x7.toNat_lt
  have b8 := x8.toNat_lt
  have Hh : Hid ([x1, x2, x3, x4] = Fr.head4 x1 (Fr.num x2 x3 x4)) := Lib.hid (by
    unfold Fr.head4 Fr.num
    congr 1
    have e (x : UInt8) (n : Nat) (h : n % 256 = x.toNat) : x = UInt8.ofNat n := by
      apply UInt8.toNat_inj.1; rw [UInt8.toNat_ofNat', h]
    rw [← e x2 _ (by omega), ← e x3 _ (by omega), ← e x4 _ (by omega)])
  have hN : Fr.num x2 x3 x4 = x2.toNat * 65536 + x3.toNat * 256 + x4.toNat := rfl
  have hM : Fr.num4 x5 x6 x7 x8 = x5.toNat + x6.toNat * 256 + x7.toNat * 65536 + x8.toNat * 16777216 := rfl
  generalize Fr.num x2 x3 x4 = n at *
  generalize Fr.num4 x5 x6 x7 x8 = m at *
  generalize x2.toNat = y2 at *
  generalize x3.toNat = y3 at *
  generalize x4.toNat = y4 at *
  generalize x5.toNat = y5 at *
  generalize x6.toNat = y6 at *
  generalize x7.toNat = y7 at *
  generalize x8.toNat = y8 at *
  have HN := Lib.hid hN
  have HM := Lib.hid hM
  clear hN hM hv
  have Hp : Hid ((t.take n).length = n) := Lib.hid (by simp; omega)
  have hsz : n < 16777216 := by omega
  have Hcr : Hid (Fr.crc (Fr.crc 0 [x1, x2, x3, x4]) (t.take n) = Fr.sum x1 (t.take n)) := Lib.hid (by
    unfold Fr.sum; rw [Hp.out, ← Hh.out, Fr.crc_append])
  generalize hpp : t.take n = p at *
  have Hpp := Lib.hid hpp
  clear hpp
  go_enter Try.func57, Try.ntmps57
  go_wp2_with fail
  go_quiet (fail)
  rw [or3 y2 y3 y4 b2 b3 b4, ← HN.out]
  go_wp2_with fail
  go_quiet (fail)
  rw [or4 y5 y6 y7 y8 b5 b6 b7 b8, ← HM.out]
  go_wp2_with (with_reducible refine hold_slice ?_)
  unfold Hold
  refine wpList_cut8 ok23 _ 9 (9 + n) rfl rfl rfl rfl (by simp) (hv0.out.below (below_drewN _ _)) (by omega) (by simp only [List.length_cons]; omega) ?_
  intro v1 hv1
  have Hv1 : Hid (Rd8 w v1 p) := Lib.hid (by simpa [Hpp.out] using hv1.undrewN)
  clear hv1
  go_wp2_with (with_reducible refine hold_slice ?_)
  unfold Hold
  refine wpList_cut8 ok23 _ 1 5 rfl rfl rfl rfl rfl (hv0.out.below (below_drewN _ _)) (by omega) (by simp only [List.length_cons]; omega) ?_
  intro v2 hv2
  have Hv2 : Hid (Rd8 _ v2 [x1, x2, x3, x4]) := Lib.hid (by simpa using hv2)
  clear hv2
  go_wp2_with fail
  refine (crc_any 0 _ _ _ (by omega) (by omega) Hv2.out).mono ?_
  rintro e w' ⟨rfl, rfl⟩
  have hc1 := Fr.crc_lt 0 [x1, x2, x3, x4]
  have e0 : Int.toNat 0 = 0 := rfl
  rw [e0]
  generalize Fr.crc 0 [x1, x2, x3, x4] = c1 at hc1 Hcr ⊢
  go_wp2_with fail
  refine (crc_any c1 _ _ _ (by omega) (by omega) (Hv1.out.drewN _)).mono ?_
  rintro e w' ⟨rfl, rfl⟩
  rw [Int.toNat_natCast, Hcr.out]
  have Hfin : Hid (Fr.fin x1 p n m = if Fr.sum x1 p = m then ⟨x1, p, 9 + n, 0⟩ else Fr.bad 30) := Lib.hid rfl
  have hcl : Fr.sum x1 p < 4294967296 := by unfold Fr.sum; exact Fr.crc_lt _ _
  generalize Fr.fin x1 p n m = r at *
  generalize Fr.sum x1 p = c at *
  by_cases hsum : c = m
  · have ht : ((c : Int) != (m : Int)) = false := by simp [hsum]
    have Hr : Hid (r = ⟨x1, p, 9 + n, 0⟩) := Lib.hid (by rw [Hfin.out, if_pos hsum])
    clear hsum
    go_wp2_with fail
    have hlt1 : bb < w.heap.size := World.block_lt_of_cell? w _ h1
    have hi1 : (1 : Int) < ↑t.length + 9 := by omega
    go_region_held3 (fun w' => w'.cell? ⟨bb, o + 1, none⟩ = some (.int .u8 (x1.toNat : Int))) (first | go_keep | (exact (hb.cell (p := ⟨bb, o + 1, none⟩) hlt1).trans h1))
      ((refine step_app8_mine rfl _ _ 22 (by rfl) ok23 [] p (by rfl) (by rfl) w (by exact (below_drewN _ _).alloc (by simp) _) (by exact mine8_at [] (by simp [maxLen]) rfl (by simp) (by simp) rfl) (by exact Hv1.out.below ((below_drewN _ _).alloc (by simp) _)) (by rw [Hp.out]; simp only [List.length_nil]; omega) ?_; intro v' w' hm hb hg hz))
    go_wp2_with fail
    have hs9 := wraps_i64 (9 + (n : Int)) (by omega) (by omega)
    refine bodyPost_ret (v := .tuple #[.int .u8 (x1.toNat : Int), v', .int .i64 ((9 : Int) + n), .int .i64 0]) (by simp [results, Try.results57, go_sem, hs9]) rfl ?_
    rw [Hr.out]
    exact ⟨v', by simp [by8], by simpa using hm, hb⟩
  · have Hr : Hid (r = Fr.bad 30) := Lib.hid (by rw [Hfin.out, if_neg hsum])
    have ht : ((c : Int) != (m : Int)) = true := by rw [bne_iff_ne]; omega
    go_wp2_with fail
    exact bodyPost_ret (v := .tuple #[.int .u8 0, .slice none 0 0, .int .i64 0, .int .i64 30]) (by simp [results, Try.results57, go_sem]) rfl (by rw [Hr.out]; exact opens_bad 30 (below_drewN _ _))
end

theorem open_any (v : Value) (b : List UInt8) (w : World) (hv : Rd8 w v b) : Calls Try.prog 57 #[v] w (Opens w (Fr.opened b)) := by
  match b, hv with
  | [], hv => exact open_empty v w hv
  | x0 :: t, hv =>
    by_cases hx : x0 = 167
    case neg =>
      have e : Fr.opened (x0 :: t) = Fr.bad 10 := by
        unfold Fr.opened; split <;> simp_all
      rw [e]; exact open_form v x0 t w hv hx
    subst hx
    match t, hv with
    | x1 :: x2 :: x3 :: x4 :: x5 :: x6 :: x7 :: x8 :: t, hv =>
      unfold Fr.opened
      simp only [ne_eq, not_true_eq_false, if_false]
      by_cases h1 : 1048576 < Fr.num x2 x3 x4
      · rw [if_pos h1]; exact open_limit v w x1 x2 x3 x4 x5 x6 x7 x8 t hv h1
      rw [if_neg h1]
      by_cases h2 : t.length < Fr.num x2 x3 x4
      · rw [if_pos h2]; exact open_cut v w x1 x2 x3 x4 x5 x6 x7 x8 t hv (by omega) h2
      rw [if_neg h2]
      exact open_sum v w x1 x2 x3 x4 x5 x6 x7 x8 t hv (by omega) (by omega)
    | [], hv => exact open_short v _ w hv (by simp)
    | [_], hv => exact open_short v _ w hv (by simp)
    | [_, _], hv => exact open_short v _ w hv (by simp)
    | [_, _, _], hv => exact open_short v _ w hv (by simp)
    | [_, _, _, _], hv => exact open_short v _ w hv (by simp)
    | [_, _, _, _, _], hv => exact open_short v _ w hv (by simp)
    | [_, _, _, _, _, _], hv => exact open_short v _ w hv (by simp)
    | [_, _, _, _, _, _, _], hv => exact open_short v _ w hv (by simp)
end Go.Proofs.Ytokmiphgalpahaa.Fm
namespace Go.Proofs.Ytokmiphgalpahaa.Fm
open Go.RowKit Go.Kt

namespace Fr
theorem num_head (n : Nat) (h : n < 16777216) : num (UInt8.ofNat (n / 65536)) (UInt8.ofNat (n / 256)) (UInt8.ofNat n) = n := by
  unfold num
  simp only [UInt8.toNat_ofNat']
  omega
theorem num4_le (c : Nat) (h : c < 4294967296) : num4 (UInt8.ofNat c) (UInt8.ofNat (c / 256)) (UInt8.ofNat (c / 65536)) (UInt8.ofNat (c / 16777216)) = c := by
  unfold num4
  simp only [UInt8.toNat_ofNat']
  omega
theorem opened_sealed (k : UInt8) (l r : List UInt8) (h : l.length ≤ 1048576) : opened (sealed k l ++ r) = ⟨k, l, 9 + l.length, 0⟩ := by
  have hs : sum k l < 4294967296 := crc_lt _ _
  show opened (167 :: k :: UInt8.ofNat (l.length / 65536) :: UInt8.ofNat (l.length / 256) :: UInt8.ofNat l.length :: UInt8.ofNat (sum k l) :: UInt8.ofNat (sum k l / 256) :: UInt8.ofNat (sum k l / 65536) :: UInt8.ofNat (sum k l / 16777216) :: (l ++ r)) = _
  unfold opened
  simp only [ne_eq, not_true_eq_false, if_false]
  rw [num_head _ (by omega), num4_le _ hs, if_neg (by omega), if_neg (by simp), List.take_left]
  unfold fin
  rw [if_pos rfl]
theorem sealed_len (k : UInt8) (l : List UInt8) : (sealed k l).length = 9 + l.length := by
  simp [sealed, head4, le4, Nat.add_comm]; try omega
end Fr

def zeros (n : Nat) : List UInt8 := List.replicate n 0
theorem zeros_len (n : Nat) : (zeros n).length = n := by simp [zeros]
theorem rd8_zeros {w' : World} {v : Value} {n : Nat} (h : w'.ownsRow 0 5 1 v n (madeCells (Value.int .u8 0).cells (n * 1)).toList) : Rd8 w' v (zeros n) := by
  have : Rd8 w' v (zeros n) = RdRow 1 w' v n ((zeros n).map by8) := by unfold Rd8; rw [zeros_len]
  rw [this]
  have e : (madeCells (Value.int .u8 0).cells (n * 1)).toList = (zeros n).map by8 := by
    show (madeCells #[Value.int .u8 0] (n * 1)).toList = _
    rw [toList_madeCells_one, Nat.mul_one]
    simp [zeros, by8]
  rw [e] at h
  exact Own.rd (e := 5) h

end Go.Proofs.Ytokmiphgalpahaa.Fm
namespace Go.Proofs.Ytokmiphgalpahaa.Fm
open Go.RowKit Go.Kt

namespace Fr
theorem ofNat_of {x : UInt8} {n : Nat} (h : n % 256 = x.toNat) : UInt8.ofNat n = x := by
  apply UInt8.toNat_inj.1; rw [UInt8.toNat_ofNat', h]
/-- the first nine bytes agree just where the sums do -/
theorem nine_iff (x1 x2 x3 x4 x5 x6 x7 x8 : UInt8) (p t : List UInt8) (hp : p.length = num x2 x3 x4) :
    (∀ j, j < 9 → (sealed x1 p).getD j 0 = (167 :: x1 :: x2 :: x3 :: x4 :: x5 :: x6 :: x7 :: x8 :: t).getD j 0) ↔ sum x1 p = num4 x5 x6 x7 x8 := by
  have e : ∀ j, j < 9 → (sealed x1 p).getD j 0 = (167 :: x1 :: UInt8.ofNat (p.length / 65536) :: UInt8.ofNat (p.length / 256) :: UInt8.ofNat p.length :: UInt8.ofNat (sum x1 p) :: UInt8.ofNat (sum x1 p / 256) :: UInt8.ofNat (sum x1 p / 65536) :: UInt8.ofNat (sum x1 p / 16777216) :: p).getD j 0 := fun j _ => rfl
  have hs : sum x1 p < 4294967296 := crc_lt _ _
  have b2 := x2.toNat_lt
  have b3 := x3.toNat_lt
  have b4 := x4.toNat_lt
  have b5 := x5.toNat_lt
  have b6 := x6.toNat_lt
  have b7 := x7.toNat_lt
  have b8 := x8.toNat_lt
  generalize sum x1 p = c at *
  have n2 : UInt8.ofNat (p.length / 65536) = x2 := ofNat_of (by rw [hp]; unfold num; omega)
  have n3 : UInt8.ofNat (p.length / 256) = x3 := ofNat_of (by rw [hp]; unfold num; omega)
  have n4 : UInt8.ofNat p.length = x4 := ofNat_of (by rw [hp]; unfold num; omega)
  rw [n2, n3, n4] at e
  constructor
  · intro h
    have h5 := (e 5 (by omega)).symm.trans (h 5 (by omega))
    have h6 := (e 6 (by omega)).symm.trans (h 6 (by omega))
    have h7 := (e 7 (by omega)).symm.trans (h 7 (by omega))
    have h8 := (e 8 (by omega)).symm.trans (h 8 (by omega))
    simp only [List.getD_cons_succ, List.getD_cons_zero] at h5 h6 h7 h8
    rw [← num4_le c hs, h5, h6, h7, h8]
  · intro h j hj
    rw [e j hj]
    have e5 : UInt8.ofNat c = x5 := ofNat_of (by rw [h]; unfold num4; omega)
    have e6 : UInt8.ofNat (c / 256) = x6 := ofNat_of (by rw [h]; unfold num4; omega)
    have e7 : UInt8.ofNat (c / 65536) = x7 := ofNat_of (by rw [h]; unfold num4; omega)
    have e8 : UInt8.ofNat (c / 16777216) = x8 := ofNat_of (by rw [h]; unfold num4; omega)
    rw [e5, e6, e7, e8]
    match j, hj with
    | 0, _ => rfl
    | 1, _ => rfl
    | 2, _ => rfl
    | 3, _ => rfl
    | 4, _ => rfl
    | 5, _ => rfl
    | 6, _ => rfl
    | 7, _ => rfl
    | 8, _ => rfl
end Fr

theorem refopen_form (v : Value) (x0 : UInt8) (t : List UInt8) (w : World) (hv : Rd8 w v (x0 :: t)) (hx : x0 ≠ 167) : Calls Try.prog 59 #[v] w (Opens w (Fr.bad 10)) := by
  obtain ⟨a, cap, rfl, hcap, hbig, hn, hc⟩ := hv.open
  obtain ⟨bb, o, rfl, hcell⟩ := hc 0 (by simp)
  simp only [Nat.add_zero, List.getElem_cons_zero] at hcell
  have hb := bne8 x0 167 167 rfl
  rw [show (x0 != 167) = true by simpa using hx] at hb
  simp only [List.length_cons] at hcap ⊢
  unfold maxLen at hbig
  clear hc hn hv hx
  go_enter Try.func59, Try.ntmps59
  go_wp2_with fail
  exact bodyPost_ret (v := .tuple #[.int .u8 0, .slice none 0 0, .int .i64 0, .int .i64 10]) (by simp [results, Try.results59, go_sem]) rfl (opens_bad 10 (Below.refl _ _))

theorem refopen_empty (v : Value) (w : World) (hv : Rd8 w v []) : Calls Try.prog 59 #[v] w (Opens w (Fr.bad 9)) := by
  obtain ⟨a, cap, rfl, hcap, hbig, hn, hc⟩ := hv.open
  simp only [List.length_nil] at hcap ⊢
  unfold maxLen at hbig
  clear hc hn hv
  go_enter Try.func59, Try.ntmps59
  go_wp2_with fail
  exact bodyPost_ret (v := .tuple #[.int .u8 0, .slice none 0 0, .int .i64 0, .int .i64 9]) (by simp [results, Try.results59, go_sem]) rfl (opens_bad 9 (Below.refl _ _))

theorem refopen_short (v : Value) (t : List UInt8) (w : World) (hv : Rd8 w v (167 :: t)) (hs : t.length < 8) : Calls Try.prog 59 #[v] w (Opens w (Fr.bad 9)) := by
  obtain ⟨a, cap, rfl, hcap, hbig, hn, hc⟩ := hv.open
  obtain ⟨bb, o, rfl, hcell⟩ := hc 0 (by simp)
  simp only [Nat.add_zero, List.getElem_cons_zero, show UInt8.toNat 167 = 167 by rfl] at hcell
  have hcell' : w.cell? ⟨bb, o, none⟩ = some (.int .u8 167) := hcell
  simp only [List.length_cons] at hcap ⊢
  unfold maxLen at hbig
  clear hc hn hv hcell
  go_enter Try.func59, Try.ntmps59
  go_wp2_with fail
  exact bodyPost_ret (v := .tuple #[.int .u8 0, .slice none 0 0, .int .i64 0, .int .i64 9]) (by simp [results, Try.results59, go_sem]) rfl (opens_bad 9 (Below.refl _ _))

section
variable (v : Value) (w : World) (x1 x2 x3 x4 x5 x6 x7 x8 : UInt8) (t : List UInt8) (hv : Rd8 w v (167 :: x1 :: x2 :: x3 :: x4 :: x5 :: x6 :: x7 :: x8 :: t))
include hv
set_option maxHeartbeats 400000 in
theorem refopen_limit (hl : 1048576 < Fr.num x2 x3 x4) : Calls Try.prog 59 #[v] w (Opens w (Fr.bad 8)) := by
  obtain ⟨bb, o, cap, rfl, hcap, hbig, h0, h1, h2, h3, h4, h5, h6, h7, h8⟩ := rd8_nine hv
  have h0' : w.cell? ⟨bb, o, none⟩ = some (.int .u8 167) := h0
  clear h0
  have b2 := x2.toNat_lt
  have b3 := x3.toNat_lt
  have b4 := x4.toNat_lt
  unfold Fr.num at hl
  generalize x2.toNat = y2 at *
  generalize x3.toNat = y3 at *
  generalize x4.toNat = y4 at *
  clear hv h5 h6 h7 h8 h1
  go_enter Try.func59, Try.ntmps59
  go_wp2_with fail
  go_quiet (fail)
  go_wp2_with fail
  exact bodyPost_ret (v := .tuple #[.int .u8 0, .slice none 0 0, .int .i64 0, .int .i64 8]) (by simp [results, Try.results59, go_sem]) rfl (opens_bad 8 (below_drewN _ _))

set_option maxHeartbeats 400000 in
theorem refopen_cut (hl : Fr.num x2 x3 x4 ≤ 1048576) (hs : t.length < Fr.num x2 x3 x4) : Calls Try.prog 59 #[v] w (Opens w (Fr.bad 9)) := by
  obtain ⟨bb, o, cap, rfl, hcap, hbig, h0, h1, h2, h3, h4, h5, h6, h7, h8⟩ := rd8_nine hv
  have h0' : w.cell? ⟨bb, o, none⟩ = some (.int .u8 167) := h0
  clear h0
  have b2 := x2.toNat_lt
  have b3 := x3.toNat_lt
  have b4 := x4.toNat_lt
  unfold Fr.num at hl hs
  generalize x2.toNat = y2 at *
  generalize x3.toNat = y3 at *
  generalize x4.toNat = y4 at *
  clear hv h5 h6 h7 h8 h1
  go_enter Try.func59, Try.ntmps59
  go_wp2_with fail
  go_quiet (fail)
  go_wp2_with fail
  exact bodyPost_ret (v := .tuple #[.int .u8 0, .slice none 0 0, .int .i64 0, .int .i64 9]) (by simp [results, Try.results59, go_sem]) rfl (opens_bad 9 (below_drewN _ _))

set_option maxHeartbeats 1000000 in
theorem refopen_sum (hl : Fr.num x2 x3 x4 ≤ 1048576) (hs : Fr.num x2 x3 x4 ≤ t.length) :
    Calls Try.prog 59 #[v] w (Opens w (Fr.fin x1 (t.take (Fr.num x2 x3 x4)) (Fr.num x2 x3 x4) (Fr.num4 x5 x6 x7 x8))) := by
  have hv0 := Lib.hid hv
  obtain ⟨bb, o, cap, rfl, hcap, hbig, h0, h1, h2, h3, h4, h5, h6, h7, h8⟩ := rd8_nine hv
  have h0' : w.cell? ⟨bb, o, none⟩ = some (.int .u8 167) := h0
  have hp : (t.take (Fr.num x2 x3 x4)).length = Fr.num x2 x3 x4 := by simp; omega
  have Hnine := Lib.hid (Fr.nine_iff x1 x2 x3 x4 x5 x6 x7 x8 (t.take (Fr.num x2 x3 x4)) t hp)
  have b2 := x2.toNat_lt
  have b3 := x3.toNat_lt
  have b4 := x4.toNat_lt
  have hN : Fr.num x2 x3 x4 = x2.toNat * 65536 + x3.toNat * 256 + x4.toNat := rfl
  have hle : (Fr.sealed x1 (t.take (Fr.num x2 x3 x4))).length = 9 + Fr.num x2 x3 x4 := by rw [Fr.sealed_len, hp]
  generalize Fr.num x2 x3 x4 = n at *
  generalize Fr.num4 x5 x6 x7 x8 = m at *
  generalize x2.toNat = y2 at *
  generalize x3.toNat = y3 at *
  generalize x4.toNat = y4 at *
  have HN' : Hid ((↑y2 * 65536 + ↑y3 * 256 + ↑y4 : Int) = (n : Int)) := Lib.hid (by omega)
  -- the nine bytes by their index
  have hlb : bb < w.heap.size := World.block_lt_of_cell? w _ h0
  have hB : ∀ j, j < 9 → w.cell? ⟨bb, o + j, none⟩ = some (.int .u8 (((167 :: x1 :: x2 :: x3 :: x4 :: x5 :: x6 :: x7 :: x8 :: t).getD j 0).toNat : Int)) := by
    obtain ⟨a', cap', e, _, _, _, hc⟩ := hv0.out.open
    cases e
    intro j hj
    obtain ⟨b', o', e, hc'⟩ := hc j (by simp; omega)
    cases e
    rw [hc', List.getD_eq_getElem?_getD, List.getElem?_eq_getElem (by simp; omega)]
    rfl
  have HB := Lib.hid hB
  clear hB hN hv h5 h6 h7 h8 h0
  generalize hpp : t.take n = p at *
  have Hpp := Lib.hid hpp
  have Hp := Lib.hid hp
  have hpl : p.length ≤ 1048576 := by omega
  clear hpp hp
  have Hfin : Hid (Fr.fin x1 p n m = if Fr.sum x1 p = m then ⟨x1, p, 9 + n, 0⟩ else Fr.bad 30) := Lib.hid rfl
  generalize Fr.fin x1 p n m = r at *
  go_enter Try.func59, Try.ntmps59
  go_wp2_with fail
  go_quiet (fail)
  rw [HN'.out]
  go_wp2_with (with_reducible refine hold_slice ?_)
  unfold Hold
  refine wpList_cut8 ok23 _ 9 (9 + n) rfl rfl rfl rfl (by simp) ((hv0.out.drewN _).below (below_alloc _ _)) (by omega) (by simp only [List.length_cons]; omega) ?_
  intro v1 hv1
  have Hv1 : Hid (Rd8 _ v1 p) := Lib.hid (by simpa [Hpp.out] using hv1)
  clear hv1
  go_wp2_with (at_builtin; apply Hold.mk)
  unfold Hold
  refine wpList_app8_mine rfl _ _ 22 rfl ok23 [] p rfl rfl w ((below_drewN _ _).alloc (Nat.le_refl _) _) (mine8_at [] (by simp [maxLen]) rfl rfl (Nat.le_refl _) rfl) Hv1.out (by simp only [List.length_nil]; omega) ?_
  intro v2 w2 hm hb _ _
  have Hm2 : Hid (Mine8 5 w w2 v2 p) := Lib.hid (by simpa using hm)
  have Hb2 := Lib.hid hb
  have h1' : w2.cell? ⟨bb, o + 1, none⟩ = some (.int .u8 (x1.toNat : Int)) := (hb.cell (p := ⟨bb, o + 1, none⟩) hlb).trans h1
  clear hm hb Hv1
  go_wp2_with fail
  refine (refseal_ok x1 _ p _ Hm2.out.rd hpl).mono ?_
  rintro e w3 ⟨v3, rfl, hm, hb⟩
  have Hb3 := Lib.hid (Hb2.out.trans (hb.mono Hb2.out.size))
  have Hm3 := Lib.hid (Hm2.out.below hb)
  obtain ⟨ag, cg, rfl, hg1, hg2, hg3, hg4⟩ := hm.rd.open
  obtain ⟨ab, ao, rfl, -⟩ := hg4 0 (by omega)
  have HA : Hid (∀ j, j < 9 → w3.cell? ⟨ab, ao + j, none⟩ = some (.int .u8 (((Fr.sealed x1 p).getD j 0).toNat : Int))) := Lib.hid (by
    intro j hj
    obtain ⟨b', o', e, hc'⟩ := hg4 j (by omega)
    cases e
    rw [hc', List.getD_eq_getElem?_getD, List.getElem?_eq_getElem (by omega)]
    rfl)
  have HB3 : Hid (∀ j, j < 9 → w3.cell? ⟨bb, o + j, none⟩ = some (.int .u8 (((167 :: x1 :: x2 :: x3 :: x4 :: x5 :: x6 :: x7 :: x8 :: t).getD j 0).toNat : Int))) := Lib.hid (by
    intro j hj
    exact (Hb3.out.cell (p := ⟨bb, o + j, none⟩) hlb).trans (HB.out j hj))
  rw [hle] at hg1 ⊢
  unfold maxLen at hg2
  clear hm hb hg3 hg4 h1' Hb2 Hm2
  have hlb3 : bb < w3.heap.size := Nat.lt_of_lt_of_le hlb Hb3.out.size
  go_wp2_with fail
  go_loopw [10] (fun i wr => ∃ k : Nat, k ≤ 9 ∧ i = .int .i64 k ∧ (∃ q, wr = w3.drewN q) ∧ Hid (∀ j, j < k → (Fr.sealed x1 p).getD j 0 = (167 :: x1 :: x2 :: x3 :: x4 :: x5 :: x6 :: x7 :: x8 :: t).getD j 0)) (fun i _ => 9 - (intOf i).toNat)
  case atStart => exact ⟨0, by omega, rfl, ⟨0, rfl⟩, Lib.hid (by intro j hj; omega)⟩
  case round =>
    obtain ⟨k, hk, rfl, ⟨q, rfl⟩, Hk⟩ := hrel
    by_cases h9 : k < 9
    · have ca := HA.out k h9
      have cb := HB3.out k h9
      have Hka := Lib.hid (bne8 ((Fr.sealed x1 p).getD k 0) ((167 :: x1 :: x2 :: x3 :: x4 :: x5 :: x6 :: x7 :: x8 :: t).getD k 0) _ rfl)
      have Hl1 : Hid ((Fr.sealed x1 p).getD k 0 = (167 :: x1 :: x2 :: x3 :: x4 :: x5 :: x6 :: x7 :: x8 :: t).getD k 0 → ∀ j, j < k + 1 → (Fr.sealed x1 p).getD j 0 = (167 :: x1 :: x2 :: x3 :: x4 :: x5 :: x6 :: x7 :: x8 :: t).getD j 0) := Lib.hid (by
        intro h j hj
        by_cases hjk : j = k
        · rw [hjk]; exact h
        · exact Hk.out j (by omega))
      have Hl2 : Hid ((Fr.sealed x1 p).getD k 0 ≠ (167 :: x1 :: x2 :: x3 :: x4 :: x5 :: x6 :: x7 :: x8 :: t).getD k 0 → r = Fr.bad 30) := Lib.hid (by
        intro h
        rw [Hfin.out, if_neg]
        intro hs
        exact h (Hnine.out.2 hs k h9))
      generalize (Fr.sealed x1 p).getD k 0 = u at *
      generalize (167 :: x1 :: x2 :: x3 :: x4 :: x5 :: x6 :: x7 :: x8 :: t).getD k 0 = u' at *
      have hi1 : (k : Int) < 9 + ↑n := by omega
      have hi2 : (k : Int) < ↑t.length + 9 := by omega
      by_cases hu : u = u'
      · have ht : ((u.toNat : Int) != (u'.toNat : Int)) = false := by rw [Hka.out, hu]; simp
        have Hnext := Lib.hid (Hl1.out hu)
        clear Hl1 Hl2 Hka hu
        go_wp2_with fail
        go_quiet (fail)
        go_wp2_with fail
        go_roundw
        case rel => exact ⟨k + 1, by omega, by go_num, ⟨_, rfl⟩, Hnext⟩
        case measure => simp [intOf]; omega
      · have ht : ((u.toNat : Int) != (u'.toNat : Int)) = true := by rw [Hka.out]; simpa using hu
        have Hr := Lib.hid (Hl2.out hu)
        clear Hl1 Hl2 Hka hu
        go_wp2_with fail
        go_quiet (fail)
        go_wp2_with fail
        exact bodyPost_ret (v := .tuple #[.int .u8 0, .slice none 0 0, .int .i64 0, .int .i64 30]) (by simp [results, Try.results59, go_sem]) rfl (by rw [Hr.out]; exact opens_bad 30 (Hb3.out.trans ⟨rfl, rfl, rfl, Nat.le_refl _, fun _ _ => rfl⟩))
    · obtain rfl : k = 9 := by omega
      have Hr : Hid (r = ⟨x1, p, 9 + n, 0⟩) := Lib.hid (by rw [Hfin.out, if_pos (Hnine.out.1 Hk.out)])
      have h1' : w3.cell? ⟨bb, o + 1, none⟩ = some (.int .u8 (x1.toNat : Int)) := (Hb3.out.cell (p := ⟨bb, o + 1, none⟩) hlb).trans h1
      go_wp2_with fail
      have hs9 := wraps_i64 (9 + (n : Int)) (by omega) (by omega)
      refine bodyPost_ret (v := .tuple #[.int .u8 (x1.toNat : Int), v2, .int .i64 ((9 : Int) + n), .int .i64 0]) (by simp [results, Try.results59, go_sem, hs9]) rfl ?_
      rw [Hr.out]
      exact ⟨v2, by simp [by8], Hm3.out.below (below_drewN _ _), Hb3.out.trans ((below_drewN _ _).mono Hb3.out.size)⟩
end
theorem refopen_any (v : Value) (b : List UInt8) (w : World) (hv : Rd8 w v b) : Calls Try.prog 59 #[v] w (Opens w (Fr.opened b)) := by
  match b, hv with
  | [], hv => exact refopen_empty v w hv
  | x0 :: t, hv =>
    by_cases hx : x0 = 167
    case neg =>
      have e : Fr.opened (x0 :: t) = Fr.bad 10 := by
        unfold Fr.opened; split <;> simp_all
      rw [e]; exact refopen_form v x0 t w hv hx
    subst hx
    match t, hv with
    | x1 :: x2 :: x3 :: x4 :: x5 :: x6 :: x7 :: x8 :: t, hv =>
      unfold Fr.opened
      simp only [ne_eq, not_true_eq_false, if_false]
      by_cases h1 : 1048576 < Fr.num x2 x3 x4
      · rw [if_pos h1]; exact refopen_limit v w x1 x2 x3 x4 x5 x6 x7 x8 t hv h1
      rw [if_neg h1]
      by_cases h2 : t.length < Fr.num x2 x3 x4
      · rw [if_pos h2]; exact refopen_cut v w x1 x2 x3 x4 x5 x6 x7 x8 t hv (by omega) h2
      rw [if_neg h2]
      exact refopen_sum v w x1 x2 x3 x4 x5 x6 x7 x8 t hv (by omega) (by omega)
    | [], hv => exact refopen_short v _ w hv (by simp)
    | [_], hv => exact refopen_short v _ w hv (by simp)
    | [_, _], hv => exact refopen_short v _ w hv (by simp)
    | [_, _, _], hv => exact refopen_short v _ w hv (by simp)
    | [_, _, _, _], hv => exact refopen_short v _ w hv (by simp)
    | [_, _, _, _, _], hv => exact refopen_short v _ w hv (by simp)
    | [_, _, _, _, _, _], hv => exact refopen_short v _ w hv (by simp)
    | [_, _, _, _, _, _, _], hv => exact refopen_short v _ w hv (by simp)
end Go.Proofs.Ytokmiphgalpahaa.Fm
namespace Go.Proofs.Ytokmiphgalpahaa.Fm
open Go.RowKit Go.Kt

theorem ok38 : ElemOk Try.prog 96 100 (.agg #[.int .u8 0, .slice none 0 0]) 2 32 := ⟨Try.underlying96, info_parts (by kernel_rfl), rfl, by decide⟩
theorem ok41 : ElemOk Try.prog 103 106 (.agg #[.int .u8 0, .slice none 0 0]) 2 32 := ⟨Try.underlying103, info_parts (by kernel_rfl), rfl, by decide⟩

/-- a piece: its kind, its body's value, its body's bytes -/
abbrev Pc := UInt8 × Value × List UInt8
def cellsOf : List Pc → List Value
  | [] => []
  | x :: t => by8 x.1 :: x.2.1 :: cellsOf t
def plain (T : List Pc) : List (UInt8 × List UInt8) := T.map fun x => (x.1, x.2.2)
theorem cellsOf_len (T : List Pc) : (cellsOf T).length = T.length * 2 := by
  induction T with
  | nil => rfl
  | cons x t ih => simp only [cellsOf, List.length_cons, ih]; omega
theorem cellsOf_append (T S : List Pc) : cellsOf (T ++ S) = cellsOf T ++ cellsOf S := by
  induction T with
  | nil => rfl
  | cons x t ih => simp only [List.cons_append, cellsOf, ih]
theorem cellsOf_get (T : List Pc) : ∀ (i : Nat) (x : Pc), T[i]? = some x → (cellsOf T)[i * 2]? = some (by8 x.1) ∧ (cellsOf T)[i * 2 + 1]? = some x.2.1 := by
  induction T with
  | nil => intro i x h; simp at h
  | cons y t ih =>
    intro i x h
    match i with
    | 0 => simp at h; subst h; exact ⟨rfl, rfl⟩
    | i + 1 =>
      simp only [List.getElem?_cons_succ] at h
      have := ih i x h
      rw [show (i + 1) * 2 = i * 2 + 1 + 1 by omega]
      exact this
theorem cellsOf_one (T : List Pc) (h : ∀ x ∈ T, x.2.1.oneCell' = true) : ∀ u ∈ cellsOf T, u.oneCell' = true := by
  induction T with
  | nil => intro u hu; simp [cellsOf] at hu
  | cons y t ih =>
    intro u hu
    simp only [cellsOf, List.mem_cons] at hu
    rcases hu with rfl | rfl | hu
    · rfl
    · exact h y (by simp)
    · exact ih (fun x hx => h x (by simp [hx])) u hu

/-- a slice of pieces that is read -/
def RdPcs (w : World) (v : Value) (ps : List (UInt8 × List UInt8)) : Prop :=
  ∃ T : List Pc, plain T = ps ∧ RdRow 2 w v T.length (cellsOf T) ∧ ∀ x ∈ T, Rd8 w x.2.1 x.2.2
theorem RdPcs.below {w w' : World} {v : Value} {ps : List (UInt8 × List UInt8)} (h : RdPcs w v ps) (hb : Below w.heap.size w w') : RdPcs w' v ps := by
  obtain ⟨T, h1, h2, h3⟩ := h
  exact ⟨T, h1, h2.below hb, fun x hx => (h3 x hx).below hb⟩

/-- a slice of pieces of the call's own: its row, and each body's -/
def OwnPcs (e : TypeId) (w0 w : World) (v : Value) (ps : List (UInt8 × List UInt8)) : Prop :=
  ∃ T : List Pc, plain T = ps ∧ Own e 2 w v T.length (cellsOf T) ∧ (∀ b, v.ownBlock = some b → w0.heap.size ≤ b) ∧ ∀ x ∈ T, Mine8 5 w0 w x.2.1 x.2.2
theorem OwnPcs.rd {e : TypeId} {w0 w : World} {v : Value} {ps : List (UInt8 × List UInt8)} (h : OwnPcs e w0 w v ps) : RdPcs w v ps := by
  obtain ⟨T, h1, h2, _, h3⟩ := h
  exact ⟨T, h1, h2.rd, fun x hx => (h3 x hx).rd⟩
theorem OwnPcs.below {e : TypeId} {w0 w w' : World} {v : Value} {ps : List (UInt8 × List UInt8)} (h : OwnPcs e w0 w v ps) (hb : Below w.heap.size w w') : OwnPcs e w0 w' v ps := by
  obtain ⟨T, h1, h2, h3, h4⟩ := h
  exact ⟨T, h1, h2.below' hb, h3, fun x hx => (h4 x hx).below hb⟩
theorem ownPcs_nil (e : TypeId) (w0 w : World) : OwnPcs e w0 w (.slice none 0 0) [] := ⟨[], rfl, own_nil w e 2, (fun b hb => by cases hb), fun x hx => by simp at hx⟩

/-- two rows of unlike elements lie in unlike blocks -/
theorem own_apart {e e' : TypeId} {size size' : Nat} {w : World} {v v' : Value} {n n' : Nat} {xs xs' : List Value} (h : Own e size w v n xs) (h' : Own e' size' w v' n' xs') (hne : e ≠ e') : ∀ b, v.ownBlock = some b → v'.ownBlock ≠ some b := by
  intro b hb hb'
  rcases h.2 with ⟨rfl, _⟩ | ⟨g, cap, cur, rfl, _, hg, _⟩
  · cases hb
  · rcases h'.2 with ⟨rfl, _⟩ | ⟨g', cap', cur', rfl, _, hg', _⟩
    · cases hb'
    · cases hb; cases hb'
      rw [hg] at hg'
      injection hg' with hg'
      injection hg' with _ he _
      exact hne he

theorem Mine8.slice {e : TypeId} {w0 w : World} {v : Value} {l : List UInt8} (h : Mine8 e w0 w v l) : v.oneCell' = true := by
  obtain ⟨a, cap, rfl, _⟩ := h.rd.open
  rfl

/-- 'append(out, Piece{k, p})' -/
theorem wpList_app_pcs {P : Program} {w : World} {ops : Array Oper} {rest : List Oper} {o : Oper} {a : Act} {Q : Exit → Act → World → Prop} (hgd : Region.wanted o (yielded ops a.tmps) = true) (s x : Operand) (t : TypeId)
    (ho : o.op = .call { callee := .builtin .append, args := #[s, x], argTypes := #[t, t] })
    {e : TypeId} {z : Value} (ok : ElemOk P t e z 2 32) (he : e ≠ 5) {v : Value} {ps : List (UInt8 × List UInt8)} {k : UInt8} {pv : Value} {l : List UInt8} {g : Nat}
    (hs : a.eval s = v) (hx : a.eval x = .slice (some ⟨g, 0, none⟩) 1 1) (hg : g = w.heap.size) (w0 : World) (hb0 : Below w0.heap.size w0 w) (hown : OwnPcs e w0 w v ps) (hp : Mine8 5 w0 w pv l) (hlen : ps.length < 1000000000)
    (h : ∀ v' w', OwnPcs e w0 w' v' (ps ++ [(k, l)]) → Below w0.heap.size w0 w' → wpList P ops Q rest (a.put o.dst v') w') : wpList P ops Q (o :: rest) a (w.alloc (.cells #[by8 k, pv] e)) := by
  subst hg
  obtain ⟨T, hT, hO, hB, hM⟩ := hown
  have hTl : T.length = ps.length := by rw [← hT]; simp [plain]
  have bel := below_alloc w (.cells #[by8 k, pv] e)
  have hO' := hO.below' bel
  have hx' : RdRow 2 (w.alloc (.cells #[by8 k, pv] e)) (.slice (some ⟨w.heap.size, 0, none⟩) 1 1) 1 [by8 k, pv] := (own_lit w e 2 #[by8 k, pv] 1 (by simp [maxLen]) rfl).rd
  refine wpList_app hgd s x t ho ok hs hx hO' hx' (by intro u hu; simp at hu; rcases hu with rfl | rfl; exact rfl; exact Mine8.slice hp) (by simp only [maxLen]; omega) (by omega) ?_
  intro v' w' h2 h3 h4
  have keep : ∀ {q : Value} {m : List UInt8}, Mine8 5 w0 w q m → Mine8 5 w0 w' q m := fun hq =>
    ⟨(hq.1.below bel).grown h3 (fun b hb hv => own_apart hO' (hq.1.below bel) he b hv hb), hq.2⟩
  refine h v' w' ⟨T ++ [(k, pv, l)], by simp [plain, ← hT], ?_, fun b hb => (h4 b hb).elim (hB b) (fun h => ?_), fun y hy => ?_⟩ ((hb0.trans (bel.mono hb0.size)).grown h3 (by have := hb0.size; simp; omega) fun b hb => hB b hb)
  · rw [List.length_append, cellsOf_append]; exact h2
  · have := hb0.size; simp at h; omega
  · rcases List.mem_append.1 hy with hy | hy
    · exact keep (hM y hy)
    · simp at hy; subst hy; exact keep hp

namespace Fr
def scanN : Nat → List UInt8 → List (UInt8 × List UInt8) × Nat
  | 0, _ => ([], 0)
  | f + 1, b => if (opened b).err = 0 then ((((opened b).kind, (opened b).body) :: (scanN f (b.drop (opened b).used)).1), (opened b).used + (scanN f (b.drop (opened b).used)).2) else ([], 0)
def scan (b : List UInt8) : List (UInt8 × List UInt8) × Nat := scanN (b.length + 1) b
theorem opened_used (b : List UInt8) (h : (opened b).err = 0) : 9 ≤ (opened b).used ∧ (opened b).used ≤ b.length ∧ (opened b).body.length ≤ 1048576 := by
  unfold opened at h ⊢
  split at h
  · rename_i x0 x1 x2 x3 x4 x5 x6 x7 x8 t
    by_cases h0 : x0 ≠ 167
    · rw [if_pos h0] at h; cases h
    rw [if_neg h0] at h ⊢
    by_cases h1 : 1048576 < num x2 x3 x4
    · rw [if_pos h1] at h; cases h
    rw [if_neg h1] at h ⊢
    by_cases h2 : t.length < num x2 x3 x4
    · rw [if_pos h2] at h; cases h
    rw [if_neg h2] at h ⊢
    unfold fin at h ⊢
    by_cases h3 : sum x1 (t.take (num x2 x3 x4)) = num4 x5 x6 x7 x8
    · rw [if_pos h3]
      simp only [List.length_cons, List.length_take]
      omega
    · rw [if_neg h3] at h; cases h
  · rename_i x0 _ _
    by_cases h0 : x0 ≠ 167
    · rw [if_pos h0] at h; cases h
    · rw [if_neg h0] at h; cases h
  · cases h
theorem scanN_ext : ∀ (f g : Nat) (b : List UInt8), b.length < f → b.length < g → scanN f b = scanN g b
  | 0, _, b, h, _ => by omega
  | _, 0, b, _, h => by omega
  | f + 1, g + 1, b, h1, h2 => by
    unfold scanN
    by_cases he : (opened b).err = 0
    · rw [if_pos he, if_pos he]
      obtain ⟨h9, hu, _⟩ := opened_used b he
      rw [scanN_ext f g (b.drop (opened b).used) (by simp; omega) (by simp; omega)]
    · rw [if_neg he, if_neg he]
theorem scan_ok (b : List UInt8) (h : (opened b).err = 0) : scan b = ((((opened b).kind, (opened b).body) :: (scan (b.drop (opened b).used)).1), (opened b).used + (scan (b.drop (opened b).used)).2) := by
  obtain ⟨h9, hu, _⟩ := opened_used b h
  have e := scanN_ext b.length ((b.drop (opened b).used).length + 1) (b.drop (opened b).used) (by simp; omega) (by omega)
  unfold scan
  rw [scanN, if_pos h, e]
theorem scan_bad (b : List UInt8) (h : (opened b).err ≠ 0) : scan b = ([], 0) := by
  unfold scan
  rw [scanN, if_neg h]
end Fr

set_option maxHeartbeats 1000000 in
theorem scan_any (v : Value) (b : List UInt8) (w : World) (hv : Rd8 w v b) (hb : b.length ≤ 1000000000) :
    Calls Try.prog 49 #[v] w fun e w' => ∃ v', e = .returned (.tuple #[v', .int .i64 ((Fr.scan b).2 : Int)]) ∧ OwnPcs 100 w w' v' (Fr.scan b).1 ∧ Below w.heap.size w w' := by
  have H0 := Lib.hid hv
  obtain ⟨a, cap, rfl, hcap, hbig, hn, hc⟩ := hv.open
  unfold maxLen at hbig
  clear hc hn hv
  go_enter Try.func49, Try.ntmps49
  go_wp2_with fail
  go_step3
  go_wp2_with fail
  go_step3
  go_wp2_with fail
  go_loopw [4, 5, 6, 7, 8, 9] (fun out i _ _ _ _ wr => ∃ k : Nat, k ≤ b.length ∧ i = .int .i64 k ∧ (∃ ps, ps.length * 9 ≤ k ∧ Hid (OwnPcs 100 w wr out ps) ∧ Hid (Fr.scan b = (ps ++ (Fr.scan (b.drop k)).1, k + (Fr.scan (b.drop k)).2))) ∧ Hid (Below w.heap.size w wr)) (fun _ i _ _ _ _ _ => b.length - (intOf i).toNat)
  case atStart => exact ⟨0, by omega, rfl, ⟨[], by simp, Lib.hid (ownPcs_nil _ _ _), Lib.hid (by simp)⟩, Lib.hid (Below.refl _ _)⟩
  case round =>
    obtain ⟨k, hk, rfl, ⟨ps, hps, Hps, Hsc⟩, Hb⟩ := hrel
    go_wp2_with (with_reducible refine hold_slice ?_)
    unfold Hold
    refine wpList_cut8_lo ok23 b k rfl rfl rfl (H0.out.below Hb.out) hk ?_
    intro v1 hv1
    have Hv1 := Lib.hid hv1
    clear hv1
    go_wp2_with fail
    refine (open_any _ _ _ Hv1.out).mono ?_
    rintro e w1 ⟨pv, rfl, hm, hb1⟩
    by_cases hok : (Fr.opened (b.drop k)).err = 0
    · have Hs2 := Lib.hid (Fr.scan_ok (b.drop k) hok)
      obtain ⟨hu1, hu2, hu3⟩ := Fr.opened_used (b.drop k) hok
      simp only [List.length_drop, List.drop_drop] at hu2 Hs2
      generalize Fr.opened (b.drop k) = r at *
      obtain ⟨ap, cp, rfl, -, -, -, -⟩ := hm.rd.open
      have Hm1 : Hid (Mine8 5 w w1 _ r.body) := Lib.hid (hm.since Hb.out.size)
      have Hps1 := Lib.hid (Hps.out.below hb1)
      have Hb1 := Lib.hid (Hb.out.trans (hb1.mono Hb.out.size))
      have hok0 : ((r.err : Int) == 0) = true := by rw [beq_iff_eq]; omega
      have Hok := Lib.hid hok
      clear hm hb1 Hps Hb Hv1 hok
      unfold by8
      go_wp2_with (at_builtin; apply Hold.mk)
      unfold Hold
      refine wpList_app_pcs (k := r.kind) rfl _ _ 96 rfl ok38 (by decide) (by rfl) (by rfl) rfl w Hb1.out Hps1.out Hm1.out (by omega) ?_
      intro v2 w2 hps2 hb2
      have Hps2 := Lib.hid hps2
      have Hb2 := Lib.hid hb2
      clear hps2 hb2 Hps1 Hb1
      go_wp2_with fail
      go_roundw
      case rel => exact ⟨k + r.used, by omega, by go_num, ⟨ps ++ [(r.kind, r.body)], by simp; omega, Hps2, Lib.hid (by rw [Hsc.out, Hs2.out]; simp [Nat.add_assoc])⟩, Hb2⟩
      case measure => simp [intOf]; omega
    · have Hs2 := Lib.hid (Fr.scan_bad (b.drop k) hok)
      generalize Fr.opened (b.drop k) = r at *
      have Hps1 := Lib.hid (Hps.out.below hb1)
      have Hb1 := Lib.hid (Hb.out.trans (hb1.mono Hb.out.size))
      have hok0 : ((r.err : Int) == 0) = false := by rw [beq_eq_false_iff_ne]; omega
      clear hm hb1 Hps Hb Hv1
      go_wp2_with fail
      rw [Exit.noGoto_ret]
      go_ret2
      have e1 : Fr.scan b = (ps, k) := by rw [Hsc.out, Hs2.out]; simp
      rw [e1]
      exact ⟨_, rfl, Hps1.out, Hb1.out⟩

set_option maxHeartbeats 1000000 in
theorem refscan_any (v : Value) (b : List UInt8) (w : World) (hv : Rd8 w v b) (hb : b.length ≤ 1000000000) :
    Calls Try.prog 52 #[v] w fun e w' => ∃ v', e = .returned (.tuple #[v', .int .i64 ((Fr.scan b).2 : Int)]) ∧ OwnPcs 106 w w' v' (Fr.scan b).1 ∧ Below w.heap.size w w' := by
  have H0 := Lib.hid hv
  obtain ⟨a, cap, rfl, hcap, hbig, hn, hc⟩ := hv.open
  unfold maxLen at hbig
  clear hc hn hv
  go_enter Try.func52, Try.ntmps52
  go_wp2_with fail
  go_loopw [4, 5, 6, 7, 8, 9] (fun out i _ _ _ _ wr => ∃ k : Nat, k ≤ b.length ∧ i = .int .i64 k ∧ (∃ ps, ps.length * 9 ≤ k ∧ Hid (OwnPcs 106 w wr out ps) ∧ Hid (Fr.scan b = (ps ++ (Fr.scan (b.drop k)).1, k + (Fr.scan (b.drop k)).2))) ∧ Hid (Below w.heap.size w wr)) (fun _ i _ _ _ _ _ => b.length - (intOf i).toNat)
  case atStart => exact ⟨0, by omega, rfl, ⟨[], by simp, Lib.hid (ownPcs_nil _ _ _), Lib.hid (by simp)⟩, Lib.hid (Below.refl _ _)⟩
  case round =>
    obtain ⟨k, hk, rfl, ⟨ps, hps, Hps, Hsc⟩, Hb⟩ := hrel
    by_cases hend : k < b.length
    case neg =>
      obtain rfl : k = b.length := by omega
      have e1 : Fr.scan b = (ps, b.length) := by rw [Hsc.out, List.drop_length]; simp [Fr.scan, Fr.scanN, Fr.opened, Fr.bad]
      go_wp2_with fail
      go_ret2
      rw [e1]
      exact ⟨_, rfl, Hps.out, Hb.out⟩
    go_wp2_with (with_reducible refine hold_slice ?_)
    unfold Hold
    refine wpList_cut8_lo ok23 b k rfl rfl rfl (H0.out.below Hb.out) hk ?_
    intro v1 hv1
    have Hv1 := Lib.hid hv1
    clear hv1
    go_wp2_with fail
    refine (refopen_any _ _ _ Hv1.out).mono ?_
    rintro e w1 ⟨pv, rfl, hm, hb1⟩
    by_cases hok : (Fr.opened (b.drop k)).err = 0
    · have Hs2 := Lib.hid (Fr.scan_ok (b.drop k) hok)
      obtain ⟨hu1, hu2, hu3⟩ := Fr.opened_used (b.drop k) hok
      simp only [List.length_drop, List.drop_drop] at hu2 Hs2
      generalize Fr.opened (b.drop k) = r at *
      obtain ⟨ap, cp, rfl, -, -, -, -⟩ := hm.rd.open
      have Hm1 : Hid (Mine8 5 w w1 _ r.body) := Lib.hid (hm.since Hb.out.size)
      have Hps1 := Lib.hid (Hps.out.below hb1)
      have Hb1 := Lib.hid (Hb.out.trans (hb1.mono Hb.out.size))
      have hok0 : ((r.err : Int) != 0) = false := by simp; omega
      have Hok := Lib.hid hok
      clear hm hb1 Hps Hb Hv1 hok
      unfold by8
      go_wp2_with (at_builtin; apply Hold.mk)
      unfold Hold
      refine wpList_app_pcs (k := r.kind) rfl _ _ 103 rfl ok41 (by decide) (by rfl) (by rfl) rfl w Hb1.out Hps1.out Hm1.out (by omega) ?_
      intro v2 w2 hps2 hb2
      have Hps2 := Lib.hid hps2
      have Hb2 := Lib.hid hb2
      clear hps2 hb2 Hps1 Hb1
      go_wp2_with fail
      go_roundw
      case rel => exact ⟨k + r.used, by omega, by go_num, ⟨ps ++ [(r.kind, r.body)], by simp; omega, Hps2, Lib.hid (by rw [Hsc.out, Hs2.out]; simp [Nat.add_assoc])⟩, Hb2⟩
      case measure => simp [intOf]; omega
    · have Hs2 := Lib.hid (Fr.scan_bad (b.drop k) hok)
      generalize Fr.opened (b.drop k) = r at *
      have Hps1 := Lib.hid (Hps.out.below hb1)
      have Hb1 := Lib.hid (Hb.out.trans (hb1.mono Hb.out.size))
      have hok0 : ((r.err : Int) != 0) = true := by rw [bne_iff_ne]; omega
      clear hm hb1 Hps Hb Hv1
      go_wp2_with fail
      go_ret2
      have e1 : Fr.scan b = (ps, k) := by rw [Hsc.out, Hs2.out]; simp
      rw [e1]
      exact ⟨_, rfl, Hps1.out, Hb1.out⟩
end Go.Proofs.Ytokmiphgalpahaa.Fm
namespace Go.Proofs.Ytokmiphgalpahaa.Fm
open Go.RowKit Go.Kt

/-- the form in which a walk reads pieces -/
theorem rdPcs_open {w : World} {v : Value} {T : List Pc} (h : RdRow 2 w v T.length (cellsOf T)) : ∃ a cap, v = .slice a T.length cap ∧ T.length ≤ cap ∧ cap ≤ maxLen ∧
    ∀ (i : Nat) (x : Pc), T[i]? = some x → ∃ b o, a = some ⟨b, o, none⟩ ∧ w.cell? ⟨b, o + i * 2, none⟩ = some (.int .u8 (x.1.toNat : Int)) ∧ w.cell? ⟨b, o + i * 2 + 1, none⟩ = some x.2.1 := by
  obtain ⟨_, a, cap, rfl, h1, h2, _, h5⟩ := h
  refine ⟨a, cap, rfl, h1, h2, fun i x hi => ?_⟩
  obtain ⟨c1, c2⟩ := cellsOf_get T i x hi
  obtain ⟨b, o, rfl, hc⟩ := h5 _ _ c1
  obtain ⟨b', o', e, hc'⟩ := h5 _ _ c2
  cases e
  exact ⟨b, o, rfl, hc, by rw [Nat.add_assoc]; exact hc'⟩
theorem cellsOf_take (T : List Pc) (k : Nat) (x : Pc) (h : T[k]? = some x) : cellsOf (T.take (k + 1)) = cellsOf (T.take k) ++ [by8 x.1, x.2.1] := by
  obtain ⟨hk, rfl⟩ := List.getElem?_eq_some_iff.1 h
  rw [List.take_succ_eq_append_getElem hk, cellsOf_append]; rfl

theorem plain_get (T : List Pc) (i : Nat) (x : Pc) (h : T[i]? = some x) : (plain T)[i]? = some (x.1, x.2.2) := by
  simp [plain, h]
theorem below_drewN2 (w : World) (n m : Nat) : Below w.heap.size w ((w.drewN n).drewN m) := ⟨rfl, rfl, rfl, Nat.le_refl _, fun _ _ => rfl⟩

end Go.Proofs.Ytokmiphgalpahaa.Fm
namespace Go.Proofs.Ytokmiphgalpahaa.Fm
open Go.RowKit Go.Kt

namespace Fr
def joined : List (UInt8 × List UInt8) → List UInt8
  | [] => []
  | x :: t => sealed x.1 x.2 ++ joined t
theorem joined_append (l r : List (UInt8 × List UInt8)) : joined (l ++ r) = joined l ++ joined r := by
  induction l with
  | nil => rfl
  | cons x t ih => simp only [List.cons_append, joined, ih, List.append_assoc]
theorem joined_len (l : List (UInt8 × List UInt8)) (h : ∀ x ∈ l, x.2.length ≤ 2000) : (joined l).length ≤ l.length * 2009 := by
  induction l with
  | nil => simp [joined]
  | cons x t ih =>
    have h1 := h x (by simp)
    have h2 := ih (fun y hy => h y (by simp [hy]))
    simp only [joined, List.length_append, sealed_len, List.length_cons]
    omega
theorem scan_joined (b : List UInt8) : ∀ (l : List (UInt8 × List UInt8)), (∀ x ∈ l, x.2.length ≤ 2000) → scan (joined l ++ b) = (l ++ (scan b).1, (joined l).length + (scan b).2)
  | [], _ => by simp [joined]
  | x :: t, h => by
    have h1 := h x (by simp)
    have ih := scan_joined b t (fun y hy => h y (by simp [hy]))
    have ho := opened_sealed x.1 x.2 (joined t ++ b) (by omega)
    have hs := scan_ok (sealed x.1 x.2 ++ (joined t ++ b)) (by rw [ho])
    rw [ho] at hs
    have hd : (sealed x.1 x.2 ++ (joined t ++ b)).drop (9 + x.2.length) = joined t ++ b := by
      rw [← sealed_len x.1 x.2, List.drop_left]
    rw [hd, ih] at hs
    show scan ((sealed x.1 x.2 ++ joined t) ++ b) = _
    rw [List.append_assoc, hs]
    simp only [joined, List.length_append, sealed_len, List.cons_append]
    exact Prod.ext rfl (by simp only; omega)
end Fr

theorem cellsOf_cut (T : List Pc) (k : Nat) : (cellsOf T).take (k * 2) = cellsOf (T.take k) ∧ (cellsOf T).drop (k * 2) = cellsOf (T.drop k) := by
  induction T generalizing k with
  | nil => simp [cellsOf]
  | cons x t ih =>
    match k with
    | 0 => simp [cellsOf]
    | k + 1 =>
      rw [show (k + 1) * 2 = k * 2 + 1 + 1 by omega]
      simp only [cellsOf, List.take_succ_cons, List.drop_succ_cons]
      exact ⟨by rw [(ih k).1], (ih k).2⟩
theorem plain_take (T : List Pc) (k : Nat) : plain (T.take k) = (plain T).take k := by simp [plain]
theorem plain_drop (T : List Pc) (k : Nat) : plain (T.drop k) = (plain T).drop k := by simp [plain]
theorem plain_len (T : List Pc) : (plain T).length = T.length := by simp [plain]

section
variable {P : Program} {ops : Array Oper} {rest : List Oper} {a : Act} {Q : Exit → Act → World → Prop} {w : World} {d : Option Tmp} {t ty : TypeId} {x : Operand} {pos : String} {af : Array Edge} {g : Option (Nat × Bool)}
theorem wpList_pcs_hi {e : TypeId} {z : Value} {bytes : Nat} (ok : ElemOk P t e z 2 bytes) {h : Operand} (hw : Region.wanted ⟨d, .slice t x none (some h) none, ty, pos, af, g⟩ (yielded ops a.tmps) = true) {vx : Value} {ps : List (UInt8 × List UInt8)} (hi : Nat) {kh : IntKind} {H : Int}
    (hx : a.eval x = vx) (hh : a.eval h = .int kh H) (eH : H = hi) (hrd : RdPcs w vx ps) (h2 : hi ≤ ps.length)
    (hK : ∀ v', (∀ (w0 : World) (ps : List (UInt8 × List UInt8)), RdPcs w0 vx ps → RdPcs w0 v' (ps.take hi)) → wpList P ops Q rest (a.put d v') w) : wpList P ops Q (⟨d, .slice t x none (some h) none, ty, pos, af, g⟩ :: rest) a w := by
  obtain ⟨T, hT, hr, hb⟩ := hrd
  have hl : T.length = ps.length := by rw [← hT, plain_len]
  refine wpList_cut_hi ok hw hi hx hh eH hr (by omega) fun v' h' => hK v' fun w0 ps' hrd' => ?_
  obtain ⟨T', hT', hr', hb'⟩ := hrd'
  have hn : T'.length = T.length := by
    obtain ⟨_, _, _, e, _⟩ := hr
    obtain ⟨_, _, _, e', _⟩ := hr'
    rw [e] at e'
    injection e' with _ e' _
    exact e'.symm
  rw [hn] at hr'
  have h'' := h' w0 _ hr'
  rw [(cellsOf_cut T' hi).1] at h''
  refine ⟨T'.take hi, by rw [plain_take, hT'], ?_, fun y hy => hb' y (List.mem_of_mem_take hy)⟩
  rw [List.length_take, Nat.min_eq_left (by omega)]
  exact h''
theorem wpList_pcs_lo {e : TypeId} {z : Value} {bytes : Nat} (ok : ElemOk P t e z 2 bytes) {l : Operand} (hw : Region.wanted ⟨d, .slice t x (some l) none none, ty, pos, af, g⟩ (yielded ops a.tmps) = true) {vx : Value} {ps : List (UInt8 × List UInt8)} (lo : Nat) {kl : IntKind} {L : Int}
    (hx : a.eval x = vx) (hl : a.eval l = .int kl L) (eL : L = lo) (hrd : RdPcs w vx ps) (h1 : lo ≤ ps.length)
    (hK : ∀ v', (∀ (w0 : World) (ps : List (UInt8 × List UInt8)), RdPcs w0 vx ps → RdPcs w0 v' (ps.drop lo)) → wpList P ops Q rest (a.put d v') w) : wpList P ops Q (⟨d, .slice t x (some l) none none, ty, pos, af, g⟩ :: rest) a w := by
  obtain ⟨T, hT, hr, hb⟩ := hrd
  have hle : T.length = ps.length := by rw [← hT, plain_len]
  refine wpList_cut_lo' ok hw lo hx hl eL hr (by omega) fun v' h' => hK v' fun w0 ps' hrd' => ?_
  obtain ⟨T', hT', hr', hb'⟩ := hrd'
  have hn : T'.length = T.length := by
    obtain ⟨_, _, _, e, _⟩ := hr
    obtain ⟨_, _, _, e', _⟩ := hr'
    rw [e] at e'
    injection e' with _ e' _
    exact e'.symm
  rw [hn] at hr'
  have h'' := h' w0 _ hr'
  rw [(cellsOf_cut T' lo).2] at h''
  refine ⟨T'.drop lo, by rw [plain_drop, hT'], ?_, fun y hy => hb' y (List.mem_of_mem_drop hy)⟩
  rw [List.length_drop, hn]
  exact h''
end

theorem RdPcs.form {w : World} {v : Value} {ps : List (UInt8 × List UInt8)} (h : RdPcs w v ps) : ∃ a cap, v = .slice a ps.length cap ∧ ps.length ≤ cap ∧ cap ≤ 9223372036854775807 := by
  obtain ⟨T, hT, hr, _⟩ := h
  obtain ⟨a, cap, rfl, h1, h2, _⟩ := rdPcs_open hr
  rw [← hT, plain_len]
  exact ⟨a, cap, rfl, h1, h2⟩

end Go.Proofs.Ytokmiphgalpahaa.Fm
