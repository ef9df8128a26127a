/- From (12), Same (11); PostNil (6). -/
import Derived.Test.YtjhjbgdekpegdaaW8
namespace Go.Proofs.Ytjhjbgdekpegdaa
open Go.RowKit Go.Kt Go.Conc

theorem from_any (f t : Int) (a : Option Addr) (n cap : Nat) (w : World) : Calls Try.prog 12 #[.agg #[.int .i64 f, .int .i64 t, .slice a n cap]] w fun e w' => e = .returned (.agg #[.int .i64 f, .int .i64 t, .slice a n cap]) ∧ Below w.heap.size w w' := by
  go_enter Try.func12, Try.ntmps12
  go_wp2_with fail
  exact bodyPost_ret (v := .agg #[.int .i64 f, .int .i64 t, .slice a n cap]) (by simp [results, Try.results12, go_sem]) rfl ⟨rfl, bel_alloc (below_alloc w _)⟩
set_option maxHeartbeats 1000000 in
theorem same_yes (f t : Int) (l : List UInt8) (v1 v2 : Value) (w : World) (h1 : Rd8 w v1 l) (h2 : Rd8 w v2 l) :
    Calls Try.prog 11 #[.agg #[.int .i64 f, .int .i64 t, v1], .agg #[.int .i64 f, .int .i64 t, v2]] w fun e w' => e = .returned (.bool true) ∧ Below w.heap.size w w' := by
  have H1 := Lib.hid h1
  have H2 := Lib.hid h2
  obtain ⟨a1, c1, rfl, _⟩ := h1.open
  obtain ⟨a2, c2, rfl, _⟩ := h2.open
  clear h1 h2
  go_enter Try.func11, Try.ntmps11
  go_wp2_with (with_reducible refine hold_conv 28 9 ?_)
  unfold Hold
  refine wpList_str8 rfl Try.underlying28 Try.underlying5 Try.underlying9 rfl (H1.out.below (bel_alloc (below_alloc w _))) ?_
  go_wp2_with (with_reducible refine hold_conv 28 9 ?_)
  unfold Hold
  refine wpList_str8 rfl Try.underlying28 Try.underlying5 Try.underlying9 rfl (H2.out.below (bel_alloc (below_alloc w _))) ?_
  generalize (⟨l.toArray⟩ : ByteArray) = ss
  go_wp2_with fail
  go_ret
  exact ⟨by simp, bel_alloc (below_alloc w _)⟩
def zeros (n : Nat) : List UInt8 := List.replicate n 0
theorem zeros_len (n : Nat) : (zeros n).length = n := by simp [zeros]
theorem own8_zeros {w' : World} {v : Value} {n : Nat} (h : w'.ownsRow 0 5 1 v n (madeCells (Value.int .u8 0).cells (n * 1)).toList) : Own8 5 w' v (zeros n) := by
  have : Own8 5 w' v (zeros n) = Own 5 1 w' v n ((zeros n).map by8) := by unfold Own8; rw [zeros_len]
  rw [this]
  have e : (madeCells (Value.int .u8 0).cells (n * 1)).toList = (zeros n).map by8 := by
    show (madeCells #[Value.int .u8 0] (n * 1)).toList = _
    rw [toList_madeCells_one, Nat.mul_one]
    simp [zeros, by8]
  rw [e] at h
  exact h
set_option maxRecDepth 100000 in
set_option maxHeartbeats 2000000 in
theorem nil_any (i : Int) (w : World) : Calls Try.prog 6 #[.int .i64 i] w fun e w' => e = .returned (.bool true) ∧ Below w.heap.size w w' := by
  obtain ⟨i5, hi5, hz5, hs5, hb5⟩ := ok28.info
  obtain ⟨N, hN1, hN2⟩ : ∃ N : Nat, 1048577 ≤ N ∧ N ≤ 1048577 := ⟨1048577, by omega, by omega⟩
  have Hi5 := Lib.hid hi5
  have Hz5 := Lib.hid hz5
  have Hs5 := Lib.hid hs5
  have Hb5 := Lib.hid hb5
  clear hi5 hz5 hs5 hb5
  go_enter Try.func6, Try.ntmps6
  go_wp2_with fail
  refine (look_nil i _).mono ?_
  unfold noMsg
  rintro e w1 ⟨rfl, hb⟩
  have HB1 := Lib.hid hb
  clear hb
  go_wp2_with fail
  refine (take_nil i _).mono ?_
  unfold noMsg
  rintro e w2 ⟨rfl, hb⟩
  have HB2 := Lib.hid (bel_trans (bel_alloc HB1.out) hb)
  clear hb
  go_wp2_with fail
  refine (new_yes 2 _ (by omega)).mono ?_
  intro e w3 h3
  obtain ⟨pb, rfl, hp3, hb3⟩ := h3
  have HB3 := Lib.hid (bel_trans (bel_alloc HB2.out) hb3)
  have HP3 := Lib.hid hp3
  have HZ3 := Lib.hid hb3.size
  clear hp3 hb3
  go_wp2_with (at_make; apply Hold.mk)
  unfold Hold
  refine wpList_make_full w3 rfl _ _ 28 rfl 0 5 i5 _ 1 Try.underlying28 Hi5.out Hz5.out Hs5.out .i64 .i64 _ _ N rfl rfl (by omega) (by omega) (by rw [Hb5.out]; omega) (by simp [maxLen]; omega) (by omega) ?_
  intro w4 hown hg
  have hb4 : Below w3.heap.size w3 w4 := (Below.refl _ _).grown hg (Nat.le_refl _) (fun k h => by cases h)
  have HB4 := Lib.hid (bel_trans HB3.out hb4)
  have HP4 := Lib.hid (HP3.out.below hb4)
  have HZ4 := Lib.hid (Nat.le_trans HZ3.out hb4.size)
  have H1 := Lib.hid (own8_zeros hown)
  clear hown hg hb4
  have hlen := zeros_len N
  generalize zeros N = z at *
  have Hlen := Lib.hid hlen
  clear hlen
  go_wp2_with fail
  refine (awake_any _).mono ?_
  rintro e w5 ⟨rfl, hb⟩
  have HB5 := Lib.hid (bel_trans HB4.out hb)
  have HP5 := Lib.hid (HP4.out.below hb)
  have HZ5 := Lib.hid (Nat.le_trans HZ4.out hb.size)
  have H5 := Lib.hid (H1.out.below hb)
  clear hb
  go_wp2_with fail
  refine (send_nil 0 0 _ [] _ (rd_nil _)).mono ?_
  rintro e w6 ⟨rfl, hb⟩
  have HB6 := Lib.hid (bel_trans HB5.out hb)
  have HP6 := Lib.hid (HP5.out.below hb)
  have HZ6 := Lib.hid (Nat.le_trans HZ5.out hb.size)
  have H6 := Lib.hid (H5.out.below hb)
  clear hb
  go_wp2_with fail
  refine (copy_nil i _).mono ?_
  rintro e w7 ⟨rfl, hb⟩
  have HB7 := Lib.hid (bel_trans HB6.out hb)
  have HP7 := Lib.hid (HP6.out.below hb)
  have HZ7 := Lib.hid (Nat.le_trans HZ6.out hb.size)
  have H7 := Lib.hid (H6.out.below hb)
  clear hb
  go_wp2_with fail
  refine (len_nil _).mono ?_
  rintro e w8 ⟨rfl, rfl⟩
  go_wp2_with fail
  refine (all_nil _).mono ?_
  rintro e w8 ⟨rfl, rfl⟩
  go_wp2_with fail
  refine (send_long _ pb 2 [] 0 0 _ z w7 HP7.out HZ7.out H7.out.rd (by have := Hlen.out; omega)).mono ?_
  rintro e w8 ⟨rfl, hp8, hc8, hb8⟩
  have HP8 := Lib.hid hp8
  have HZ8 := Lib.hid (Nat.le_trans HZ7.out hb8.size)
  have hwz : w.heap.size ≤ w2.heap.size := HB2.out.size
  have HB8 : Hid (Below w.heap.size w w8) := Lib.hid (HB7.out.trans (hb8.mono (by simp; omega)))
  have H8 : Hid (Rd8 w8 (.slice (some ⟨w3.heap.size, 0, none⟩) N N) z) := Lib.hid (Own.rd (Own8.calm H7.out hc8))
  clear hp8 hc8 hb8
  have hz2 : (1 : Int) ≤ (N : Int) := by omega
  go_wp2_with (with_reducible refine hold_slice ?_)
  unfold Hold
  refine wpList_cut_lo' ok28 (by rfl) 1 rfl rfl rfl (by have h := H8.out; unfold Rd8 at h; rw [Hlen.out] at h; exact h) (by omega) ?_
  intro v9 hv9
  have H9 : Hid (Rd8 w8 v9 (z.drop 1)) := Lib.hid (by
    have h := H8.out
    unfold Rd8 at h ⊢
    rw [Hlen.out] at h
    rw [List.length_drop, Hlen.out, List.map_drop]
    simpa using hv9 _ _ h)
  clear hv9
  have Hl9 : Hid ((z.drop 1).length = N - 1) := Lib.hid (by rw [List.length_drop, Hlen.out])
  generalize z.drop 1 = z9 at *
  obtain ⟨a9, c9, rfl, _⟩ := H9.out.open
  go_wp2_with fail
  refine (send_ok _ pb 2 [] ⟨0, 0, z9⟩ _ w8 HP8.out HZ8.out H9.out (by have := Hl9.out; simp; omega) (by simp)).mono ?_
  rintro e w10 ⟨rfl, hp10, hc10, hb10⟩
  have HP10 := Lib.hid hp10
  have HB10 : Hid (Below w.heap.size w w10) := Lib.hid (HB8.out.trans (hb10.mono (by simp; omega)))
  clear hp10 hc10 hb10
  go_wp2_with fail
  refine (len_any _ pb 2 _ _ HP10.out).mono ?_
  rintro e w11 ⟨rfl, rfl⟩
  go_wp2_with fail
  go_ret
  exact ⟨rfl, HB10.out⟩
end Go.Proofs.Ytjhjbgdekpegdaa
