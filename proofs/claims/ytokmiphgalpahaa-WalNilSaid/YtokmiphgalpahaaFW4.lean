/- The contract of frame.Open (function 15): of any bytes it returns Fr.opened, the payload in a new row. -/
import Derived.Test.YtokmiphgalpahaaFW3
import Derived.BigQuiet
import Derived.Deep.RegionHeld3
namespace Go.Proofs.Ytokmiphgalpahaa.Fm
open Go.RowKit Go.Kt

theorem wraps_i64 (n : Int) (h₀ : 0 ≤ n) (h₁ : n < 2 ^ 63) : IntKind.i64.wrap n = n := by rw [IntKind.wrap_i64]; omega
theorem wraps_u32 (n : Int) (h₀ : 0 ≤ n) (h₁ : n < 2 ^ 32) : IntKind.u32.wrap n = n := by rw [IntKind.wrap_u32]; omega
theorem or_i64 (a b : Nat) (ha : a < 2 ^ 63) (hb : b < 2 ^ 63) : bits .or .i64 (a : Int) (b : Int) = ((a ||| b : Nat) : Int) := (bits_nat .i64 63 (by decide) wraps_i64 a b ha hb).2
theorem or_u32 (a b : Nat) (ha : a < 2 ^ 32) (hb : b < 2 ^ 32) : bits .or .u32 (a : Int) (b : Int) = ((a ||| b : Nat) : Int) := (bits_nat .u32 32 (by decide) wraps_u32 a b ha hb).2
theorem or_sum (i x y : Nat) (hx : x % 2 ^ i = 0) (hy : y < 2 ^ i) : x ||| y = x + y := nat_join i x y hx hy
theorem or3 (a b c : Nat) (ha : a < 256) (hb : b < 256) (hc : c < 256) : bits .or .i64 (bits .or .i64 ((a : Int) * 65536) ((b : Int) * 256)) (c : Int) = ((a * 65536 + b * 256 + c : Nat) : Int) := by
  have e1 : ((a : Int) * 65536) = ((a * 65536 : Nat) : Int) := by simp
  have e2 : ((b : Int) * 256) = ((b * 256 : Nat) : Int) := by simp
  rw [e1, e2, or_i64 _ _ (by omega) (by omega), or_sum 16 _ _ (by omega) (by omega), or_i64 _ _ (by omega) (by omega), or_sum 8 _ _ (by omega) (by omega)]
theorem or4 (a b c d : Nat) (ha : a < 256) (hb : b < 256) (hc : c < 256) (hd : d < 256) : bits .or .u32 (bits .or .u32 (bits .or .u32 (a : Int) ((b : Int) * 256)) ((c : Int) * 65536)) ((d : Int) * 16777216) = ((a + b * 256 + c * 65536 + d * 16777216 : Nat) : Int) := by
  have e1 : ((c : Int) * 65536) = ((c * 65536 : Nat) : Int) := by simp
  have e2 : ((b : Int) * 256) = ((b * 256 : Nat) : Int) := by simp
  have e3 : ((d : Int) * 16777216) = ((d * 16777216 : Nat) : Int) := by simp
  rw [e1, e2, e3, or_u32 _ _ (by omega) (by omega), Nat.or_comm, or_sum 8 _ _ (by omega) (by omega), or_u32 _ _ (by omega) (by omega), Nat.or_comm, or_sum 16 _ _ (by omega) (by omega), or_u32 _ _ (by omega) (by omega), Nat.or_comm, or_sum 24 _ _ (by omega) (by omega)]
  omega

namespace Fr
/-- kind, payload, used, error -/
structure Got where
  kind : UInt8
  body : List UInt8
  used : Nat
  err : Nat
def bad (e : Nat) : Got := ⟨0, [], 0, e⟩
def num (x2 x3 x4 : UInt8) : Nat := x2.toNat * 65536 + x3.toNat * 256 + x4.toNat
def num4 (x5 x6 x7 x8 : UInt8) : Nat := x5.toNat + x6.toNat * 256 + x7.toNat * 65536 + x8.toNat * 16777216
def fin (x1 : UInt8) (p : List UInt8) (n m : Nat) : Got := if sum x1 p = m then ⟨x1, p, 9 + n, 0⟩ else bad 30
def opened : List UInt8 → Got
  | x0 :: x1 :: x2 :: x3 :: x4 :: x5 :: x6 :: x7 :: x8 :: t =>
    if x0 ≠ 167 then bad 10
    else if 1048576 < num x2 x3 x4 then bad 8
    else if t.length < num x2 x3 x4 then bad 9
    else fin x1 (t.take (num x2 x3 x4)) (num x2 x3 x4) (num4 x5 x6 x7 x8)
  | x0 :: _ => if x0 ≠ 167 then bad 10 else bad 9
  | [] => bad 9
end Fr


/-- the first nine bytes of a slice, and what is behind them -/
theorem rd8_nine {w : World} {v : Value} {x0 x1 x2 x3 x4 x5 x6 x7 x8 : UInt8} {t : List UInt8} (h : Rd8 w v (x0 :: x1 :: x2 :: x3 :: x4 :: x5 :: x6 :: x7 :: x8 :: t)) :
    ∃ bb o cap, v = .slice (some ⟨bb, o, none⟩) (t.length + 9) cap ∧ t.length + 9 ≤ cap ∧ cap ≤ 9223372036854775807 ∧
      w.cell? ⟨bb, o, none⟩ = some (.int .u8 (x0.toNat : Int)) ∧ w.cell? ⟨bb, o + 1, none⟩ = some (.int .u8 (x1.toNat : Int)) ∧ w.cell? ⟨bb, o + 2, none⟩ = some (.int .u8 (x2.toNat : Int)) ∧
      w.cell? ⟨bb, o + 3, none⟩ = some (.int .u8 (x3.toNat : Int)) ∧ w.cell? ⟨bb, o + 4, none⟩ = some (.int .u8 (x4.toNat : Int)) ∧ w.cell? ⟨bb, o + 5, none⟩ = some (.int .u8 (x5.toNat : Int)) ∧
      w.cell? ⟨bb, o + 6, none⟩ = some (.int .u8 (x6.toNat : Int)) ∧ w.cell? ⟨bb, o + 7, none⟩ = some (.int .u8 (x7.toNat : Int)) ∧ w.cell? ⟨bb, o + 8, none⟩ = some (.int .u8 (x8.toNat : Int)) := by
  obtain ⟨a, cap, rfl, hcap, hbig, hn, hc⟩ := h.open
  obtain ⟨bb, o, rfl, _⟩ := hc 0 (by simp)
  have hcell : ∀ j (h : j < (x0 :: x1 :: x2 :: x3 :: x4 :: x5 :: x6 :: x7 :: x8 :: t).length), w.cell? ⟨bb, o + j, none⟩ = some (.int .u8 ((x0 :: x1 :: x2 :: x3 :: x4 :: x5 :: x6 :: x7 :: x8 :: t)[j].toNat : Int)) := by
    intro j h
    obtain ⟨b', o', e, hc'⟩ := hc j h
    cases e
    exact hc'
  refine ⟨bb, o, cap, rfl, by simpa using hcap, by simpa [maxLen] using hbig, hcell 0 (by simp), hcell 1 (by simp), hcell 2 (by simp), hcell 3 (by simp), hcell 4 (by simp), hcell 5 (by simp), hcell 6 (by simp), hcell 7 (by simp), hcell 8 (by simp)⟩

/-- what Open answers, as values -/
def Opens (B : World) (r : Fr.Got) (e : Ending) (w' : World) : Prop :=
  ∃ pv, e = .returned (.tuple #[by8 r.kind, pv, .int .i64 (r.used : Int), .int .i64 (r.err : Int)]) ∧ Mine8 5 B w' pv r.body ∧ Below B.heap.size B w'

theorem opens_bad {B w' : World} (n : Nat) (hb : Below B.heap.size B w') : Opens B (Fr.bad n) (.returned (.tuple #[.int .u8 0, .slice none 0 0, .int .i64 0, .int .i64 (n : Int)])) w' :=
  ⟨_, rfl, mine8_nil _ _ _, hb⟩

theorem bne8 (x y : UInt8) (z : Int) (hz : z = y.toNat) : ((x.toNat : Int) != z) = (x != y) := by
  subst hz
  rw [Bool.eq_iff_iff]
  simp only [bne_iff_ne, ne_eq, Int.natCast_inj]
  exact not_congr UInt8.toNat_inj

theorem open_form (v : Value) (x0 : UInt8) (t : List UInt8) (w : World) (hv : Rd8 w v (x0 :: t)) (hx : x0 ≠ 167) : Calls Try.prog 57 #[v] w (Opens w (Fr.bad 10)) := by
  obtain ⟨a, cap, rfl, hcap, hbig, hn, hc⟩ := hv.open
  obtain ⟨bb, o, rfl, hcell⟩ := hc 0 (by simp)
  simp only [Nat.add_zero, List.getElem_cons_zero] at hcell
  have hb := bne8 x0 167 167 rfl
  rw [show (x0 != 167) = true by simpa using hx] at hb
  simp only [List.length_cons] at hcap ⊢
  unfold maxLen at hbig
  clear hc hn hv hx
  go_enter Try.func57, Try.ntmps57
  go_wp2_with fail
  exact bodyPost_ret (v := .tuple #[.int .u8 0, .slice none 0 0, .int .i64 0, .int .i64 10]) (by simp [results, Try.results57, go_sem]) rfl (opens_bad 10 (Below.refl _ _))

theorem open_empty (v : Value) (w : World) (hv : Rd8 w v []) : Calls Try.prog 57 #[v] w (Opens w (Fr.bad 9)) := by
  obtain ⟨a, cap, rfl, hcap, hbig, hn, hc⟩ := hv.open
  simp only [List.length_nil] at hcap ⊢
  unfold maxLen at hbig
  clear hc hn hv
  go_enter Try.func57, Try.ntmps57
  go_wp2_with fail
  exact bodyPost_ret (v := .tuple #[.int .u8 0, .slice none 0 0, .int .i64 0, .int .i64 9]) (by simp [results, Try.results57, go_sem]) rfl (opens_bad 9 (Below.refl _ _))

theorem open_short (v : Value) (t : List UInt8) (w : World) (hv : Rd8 w v (167 :: t)) (hs : t.length < 8) : Calls Try.prog 57 #[v] w (Opens w (Fr.bad 9)) := by
  obtain ⟨a, cap, rfl, hcap, hbig, hn, hc⟩ := hv.open
  obtain ⟨bb, o, rfl, hcell⟩ := hc 0 (by simp)
  simp only [Nat.add_zero, List.getElem_cons_zero, show UInt8.toNat 167 = 167 by rfl] at hcell
  have hcell' : w.cell? ⟨bb, o, none⟩ = some (.int .u8 167) := hcell
  simp only [List.length_cons] at hcap ⊢
  unfold maxLen at hbig
  clear hc hn hv hcell
  go_enter Try.func57, Try.ntmps57
  go_wp2_with fail
  exact bodyPost_ret (v := .tuple #[.int .u8 0, .slice none 0 0, .int .i64 0, .int .i64 9]) (by simp [results, Try.results57, go_sem]) rfl (opens_bad 9 (Below.refl _ _))

section
variable (v : Value) (w : World) (x1 x2 x3 x4 x5 x6 x7 x8 : UInt8) (t : List UInt8) (hv : Rd8 w v (167 :: x1 :: x2 :: x3 :: x4 :: x5 :: x6 :: x7 :: x8 :: t))
include hv
set_option maxHeartbeats 400000 in
theorem open_limit (hl : 1048576 < Fr.num x2 x3 x4) : Calls Try.prog 57 #[v] w (Opens w (Fr.bad 8)) := by
  obtain ⟨bb, o, cap, rfl, hcap, hbig, h0, h1, h2, h3, h4, h5, h6, h7, h8⟩ := rd8_nine hv
  have h0' : w.cell? ⟨bb, o, none⟩ = some (.int .u8 167) := h0
  clear h0
  have b2 := x2.toNat_lt
  have b3 := x3.toNat_lt
  have b4 := x4.toNat_lt
  unfold Fr.num at hl
  generalize x2.toNat = y2 at *
  generalize x3.toNat = y3 at *
  generalize x4.toNat = y4 at *
  clear hv h5 h6 h7 h8 h1
  go_enter Try.func57, Try.ntmps57
  go_wp2_with fail
  go_quiet (fail)
  rw [or3 y2 y3 y4 b2 b3 b4]
  generalize hn : y2 * 65536 + y3 * 256 + y4 = n at *
  have Hn := Lib.hid hn
  clear hn
  go_wp2_with fail
  exact bodyPost_ret (v := .tuple #[.int .u8 0, .slice none 0 0, .int .i64 0, .int .i64 8]) (by simp [results, Try.results57, go_sem]) rfl (opens_bad 8 (below_drewN _ _))

set_option maxHeartbeats 400000 in
theorem open_cut (hl : Fr.num x2 x3 x4 ≤ 1048576) (hs : t.length < Fr.num x2 x3 x4) : Calls Try.prog 57 #[v] w (Opens w (Fr.bad 9)) := by
  obtain ⟨bb, o, cap, rfl, hcap, hbig, h0, h1, h2, h3, h4, h5, h6, h7, h8⟩ := rd8_nine hv
  have h0' : w.cell? ⟨bb, o, none⟩ = some (.int .u8 167) := h0
  clear h0
  have b2 := x2.toNat_lt
  have b3 := x3.toNat_lt
  have b4 := x4.toNat_lt
  unfold Fr.num at hl hs
  generalize x2.toNat = y2 at *
  generalize x3.toNat = y3 at *
  generalize x4.toNat = y4 at *
  clear hv h5 h6 h7 h8 h1
  go_enter Try.func57, Try.ntmps57
  go_wp2_with fail
  go_quiet (fail)
  rw [or3 y2 y3 y4 b2 b3 b4]
  generalize hn : y2 * 65536 + y3 * 256 + y4 = n at *
  have Hn := Lib.hid hn
  clear hn
  go_wp2_with fail
  exact bodyPost_ret (v := .tuple #[.int .u8 0, .slice none 0 0, .int .i64 0, .int .i64 9]) (by simp [results, Try.results57, go_sem]) rfl (opens_bad 9 (below_drewN _ _))

set_option maxHeartbeats 1000000 in
theorem open_sum (hl : Fr.num x2 x3 x4 ≤ 1048576) (hs : Fr.num x2 x3 x4 ≤ t.length) :
    Calls Try.prog 57 #[v] w (Opens w (Fr.fin x1 (t.take (Fr.num x2 x3 x4)) (Fr.num x2 x3 x4) (Fr.num4 x5 x6 x7 x8))) := by
  have hv0 := Lib.hid hv
  obtain ⟨bb, o, cap, rfl, hcap, hbig, h0, h1, h2, h3, h4, h5, h6, h7, h8⟩ := rd8_nine hv
  have h0' : w.cell? ⟨bb, o, none⟩ = some (.int .u8 167) := h0
  clear h0
  have b2 := x2.toNat_lt
  have b3 := x3.toNat_lt
  have b4 := x4.toNat_lt
  have b5 := x5.toNat_lt
  have b6 := x6.toNat_lt
  have b7 := x7.toNat_lt
  have b8 := x8.toNat_lt
  have Hh : Hid ([x1, x2, x3, x4] = Fr.head4 x1 (Fr.num x2 x3 x4)) := Lib.hid (by
    unfold Fr.head4 Fr.num
    congr 1
    have e (x : UInt8) (n : Nat) (h : n % 256 = x.toNat) : x = UInt8.ofNat n := by
      apply UInt8.toNat_inj.1; rw [UInt8.toNat_ofNat', h]
    rw [← e x2 _ (by omega), ← e x3 _ (by omega), ← e x4 _ (by omega)])
  have hN : Fr.num x2 x3 x4 = x2.toNat * 65536 + x3.toNat * 256 + x4.toNat := rfl
  have hM : Fr.num4 x5 x6 x7 x8 = x5.toNat + x6.toNat * 256 + x7.toNat * 65536 + x8.toNat * 16777216 := rfl
  generalize Fr.num x2 x3 x4 = n at *
  generalize Fr.num4 x5 x6 x7 x8 = m at *
  generalize x2.toNat = y2 at *
  generalize x3.toNat = y3 at *
  generalize x4.toNat = y4 at *
  generalize x5.toNat = y5 at *
  generalize x6.toNat = y6 at *
  generalize x7.toNat = y7 at *
  generalize x8.toNat = y8 at *
  have HN := Lib.hid hN
  have HM := Lib.hid hM
  clear hN hM hv
  have Hp : Hid ((t.take n).length = n) := Lib.hid (by simp; omega)
  have hsz : n < 16777216 := by omega
  have Hcr : Hid (Fr.crc (Fr.crc 0 [x1, x2, x3, x4]) (t.take n) = Fr.sum x1 (t.take n)) := Lib.hid (by
    unfold Fr.sum; rw [Hp.out, ← Hh.out, Fr.crc_append])
  generalize hpp : t.take n = p at *
  have Hpp := Lib.hid hpp
  clear hpp
  go_enter Try.func57, Try.ntmps57
  go_wp2_with fail
  go_quiet (fail)
  rw [or3 y2 y3 y4 b2 b3 b4, ← HN.out]
  go_wp2_with fail
  go_quiet (fail)
  rw [or4 y5 y6 y7 y8 b5 b6 b7 b8, ← HM.out]
  go_wp2_with (with_reducible refine hold_slice ?_)
  unfold Hold
  refine wpList_cut8 ok23 _ 9 (9 + n) rfl rfl rfl rfl (by simp) (hv0.out.below (below_drewN _ _)) (by omega) (by simp only [List.length_cons]; omega) ?_
  intro v1 hv1
  have Hv1 : Hid (Rd8 w v1 p) := Lib.hid (by simpa [Hpp.out] using hv1.undrewN)
  clear hv1
  go_wp2_with (with_reducible refine hold_slice ?_)
  unfold Hold
  refine wpList_cut8 ok23 _ 1 5 rfl rfl rfl rfl rfl (hv0.out.below (below_drewN _ _)) (by omega) (by simp only [List.length_cons]; omega) ?_
  intro v2 hv2
  have Hv2 : Hid (Rd8 _ v2 [x1, x2, x3, x4]) := Lib.hid (by simpa using hv2)
  clear hv2
  go_wp2_with fail
  refine (crc_any 0 _ _ _ (by omega) (by omega) Hv2.out).mono ?_
  rintro e w' ⟨rfl, rfl⟩
  have hc1 := Fr.crc_lt 0 [x1, x2, x3, x4]
  have e0 : Int.toNat 0 = 0 := rfl
  rw [e0]
  generalize Fr.crc 0 [x1, x2, x3, x4] = c1 at hc1 Hcr ⊢
  go_wp2_with fail
  refine (crc_any c1 _ _ _ (by omega) (by omega) (Hv1.out.drewN _)).mono ?_
  rintro e w' ⟨rfl, rfl⟩
  rw [Int.toNat_natCast, Hcr.out]
  have Hfin : Hid (Fr.fin x1 p n m = if Fr.sum x1 p = m then ⟨x1, p, 9 + n, 0⟩ else Fr.bad 30) := Lib.hid rfl
  have hcl : Fr.sum x1 p < 4294967296 := by unfold Fr.sum; exact Fr.crc_lt _ _
  generalize Fr.fin x1 p n m = r at *
  generalize Fr.sum x1 p = c at *
  by_cases hsum : c = m
  · have ht : ((c : Int) != (m : Int)) = false := by simp [hsum]
    have Hr : Hid (r = ⟨x1, p, 9 + n, 0⟩) := Lib.hid (by rw [Hfin.out, if_pos hsum])
    clear hsum
    go_wp2_with fail
    have hlt1 : bb < w.heap.size := World.block_lt_of_cell? w _ h1
    have hi1 : (1 : Int) < ↑t.length + 9 := by omega
    go_region_held3 (fun w' => w'.cell? ⟨bb, o + 1, none⟩ = some (.int .u8 (x1.toNat : Int))) (first | go_keep | (exact (hb.cell (p := ⟨bb, o + 1, none⟩) hlt1).trans h1))
      ((refine step_app8_mine rfl _ _ 22 (by rfl) ok23 [] p (by rfl) (by rfl) w (by exact (below_drewN _ _).alloc (by simp) _) (by exact mine8_at [] (by simp [maxLen]) rfl (by simp) (by simp) rfl) (by exact Hv1.out.below ((below_drewN _ _).alloc (by simp) _)) (by rw [Hp.out]; simp only [List.length_nil]; omega) ?_; intro v' w' hm hb hg hz))
    go_wp2_with fail
    have hs9 := wraps_i64 (9 + (n : Int)) (by omega) (by omega)
    refine bodyPost_ret (v := .tuple #[.int .u8 (x1.toNat : Int), v', .int .i64 ((9 : Int) + n), .int .i64 0]) (by simp [results, Try.results57, go_sem, hs9]) rfl ?_
    rw [Hr.out]
    exact ⟨v', by simp [by8], by simpa using hm, hb⟩
  · have Hr : Hid (r = Fr.bad 30) := Lib.hid (by rw [Hfin.out, if_neg hsum])
    have ht : ((c : Int) != (m : Int)) = true := by rw [bne_iff_ne]; omega
    go_wp2_with fail
    exact bodyPost_ret (v := .tuple #[.int .u8 0, .slice none 0 0, .int .i64 0, .int .i64 30]) (by simp [results, Try.results57, go_sem]) rfl (by rw [Hr.out]; exact opens_bad 30 (below_drewN _ _))
end

theorem open_any (v : Value) (b : List UInt8) (w : World) (hv : Rd8 w v b) : Calls Try.prog 57 #[v] w (Opens w (Fr.opened b)) := by
  match b, hv with
  | [], hv => exact open_empty v w hv
  | x0 :: t, hv =>
    by_cases hx : x0 = 167
    case neg =>
      have e : Fr.opened (x0 :: t) = Fr.bad 10 := by
        unfold Fr.opened; split <;> simp_all
      rw [e]; exact open_form v x0 t w hv hx
    subst hx
    match t, hv with
    | x1 :: x2 :: x3 :: x4 :: x5 :: x6 :: x7 :: x8 :: t, hv =>
      unfold Fr.opened
      simp only [ne_eq, not_true_eq_false, if_false]
      by_cases h1 : 1048576 < Fr.num x2 x3 x4
      · rw [if_pos h1]; exact open_limit v w x1 x2 x3 x4 x5 x6 x7 x8 t hv h1
      rw [if_neg h1]
      by_cases h2 : t.length < Fr.num x2 x3 x4
      · rw [if_pos h2]; exact open_cut v w x1 x2 x3 x4 x5 x6 x7 x8 t hv (by omega) h2
      rw [if_neg h2]
      exact open_sum v w x1 x2 x3 x4 x5 x6 x7 x8 t hv (by omega) (by omega)
    | [], hv => exact open_short v _ w hv (by simp)
    | [_], hv => exact open_short v _ w hv (by simp)
    | [_, _], hv => exact open_short v _ w hv (by simp)
    | [_, _, _], hv => exact open_short v _ w hv (by simp)
    | [_, _, _, _], hv => exact open_short v _ w hv (by simp)
    | [_, _, _, _, _], hv => exact open_short v _ w hv (by simp)
    | [_, _, _, _, _, _], hv => exact open_short v _ w hv (by simp)
    | [_, _, _, _, _, _, _], hv => exact open_short v _ w hv (by simp)
end Go.Proofs.Ytokmiphgalpahaa.Fm
