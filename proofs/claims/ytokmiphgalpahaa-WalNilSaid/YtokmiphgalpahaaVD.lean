/- WalNil (3). -/
import Derived.Test.YtokmiphgalpahaaVC
import Derived.Test.YtokmiphgalpahaaFW6
namespace Go.Proofs.Ytokmiphgalpahaa
open Go.RowKit Go.Kt
set_option maxRecDepth 100000
variable {F G K : Nat → Prop} {w w' w0 w1 w2 W : World} {d mb wb : Nat} {P : Pd} {seg : Int}
theorem full_app (b : List UInt8) (s : Nat) (l : List UInt8) (h : 100 < l.length) : (exP 100 b s).app 2 l = (4, exP 100 b s) := by
  unfold Pd.app
  rw [if_neg (by simp [exP]), if_neg (by omega), if_pos]
  left
  simp only [exP]
  omega
theorem append_long (w : World) (wb : Nat) {v : Value} {p : List UInt8} (hv : Rd8 w v p) (hlong : 1048576 < p.length) : Calls Try.prog 9 #[.pointer (some ⟨wb, 0, none⟩), v] w fun e w' => e = .returned (.int .i64 8) ∧ w = w' := by
  obtain ⟨a, cap, rfl, hcap, hbig, -, -⟩ := hv.open
  unfold maxLen at hbig
  have d1 : decide (1048576 < (p.length : Int)) = true := by simp only [decide_eq_true_eq]; omega
  clear hv
  go_enter Try.func9, Try.ntmps9
  go_wp2_with fail
  go_ret
  exact ⟨rfl, rfl⟩
theorem rebase_long (w : World) (wb : Nat) {v : Value} {p : List UInt8} (hv : Rd8 w v p) (hlong : 1048576 < p.length) : Calls Try.prog 11 #[.pointer (some ⟨wb, 0, none⟩), v] w fun e w' => e = .returned (.int .i64 8) ∧ w = w' := by
  obtain ⟨a, cap, rfl, hcap, hbig, -, -⟩ := hv.open
  unfold maxLen at hbig
  have d1 : decide (1048576 < (p.length : Int)) = true := by simp only [decide_eq_true_eq]; omega
  clear hv
  go_enter Try.func11, Try.ntmps11
  go_wp2_with fail
  go_ret
  exact ⟨rfl, rfl⟩
set_option maxHeartbeats 4000000 in
theorem nil_any (v : Value) (pl : List UInt8) (w : World) (hv : Rd8 w v pl) : Calls Try.prog 3 #[v] w fun e w' => e = .returned (.bool true) ∧ Below w.heap.size w w' := by
  obtain ⟨pa, pc, rfl, -, -, -, -⟩ := hv.open
  clear hv
  obtain ⟨i5, hi5, hz5, hs5, hb5⟩ := ok22.info
  obtain ⟨N, hN1, hN2⟩ : ∃ N : Nat, 1048577 ≤ N ∧ N ≤ 1048577 := ⟨1048577, by omega, by omega⟩
  go_enter Try.func3, Try.ntmps3
  go_wp2_with fail
  refine (open_nil w).mono ?_
  rintro e w1 ⟨rfl, rfl⟩
  go_wp2_with fail
  refine (new_ds 100 w (by omega)).mono ?_
  rintro e w1 ⟨d, mb, rfl, hd1⟩
  have HD1 := Lib.hid hd1
  clear hd1
  go_wp2_with fail
  refine (lg_open HD1.out (no_small _) ex7).mono ?_
  rintro e w2 ⟨wb, bv, rv, rfl, hl2, hb2, hr2⟩
  obtain ⟨ba, bc, rfl, -, -, -, -⟩ := hb2.open
  obtain ⟨ra, rc, rfl, -, -, -⟩ := hr2.open
  have HL2 := Lib.hid hl2
  clear hl2 hb2 hr2
  simp only [List.length_nil]
  go_wp2_with (at_make; apply Hold.mk)
  unfold Hold
  refine wpList_make_full w2 rfl _ _ 22 rfl 0 5 i5 _ 1 Try.underlying22 hi5 hz5 hs5 .i64 .i64 _ _ N rfl rfl (by omega) (by omega) (by rw [hb5]; omega) (by simp [maxLen]; omega) (by omega) ?_
  intro w3 hown hg
  have hb3 : Below w2.heap.size w2 w3 := (Below.refl _ _).grown hg (Nat.le_refl _) (fun k h => by cases h)
  have HL3 := Lib.hid (HL2.out.next hb3)
  have H1 := Lib.hid (Fm.rd8_zeros hown)
  clear hown hg hb3
  have hlen := Fm.zeros_len N
  generalize Fm.zeros N = z at *
  have hz : 1048576 < z.length := by omega
  have R3 : Hid (rebaseW (exP 100 exB0 18) 1 (z.drop 1) = (4, 1, exP 100 exB0 18)) := Lib.hid (by
    unfold rebaseW
    rw [if_neg (by simp; omega)]
    have hf := full_app exB0 18 (wholeW (z.drop 1) []) (by
      simp only [wholeW, List.length_append, Fm.Fr.sealed_len, List.length_drop]
      omega)
    rw [show (1 : Int) + 1 = 2 from rfl, hf, if_pos (by simp)])
  go_wp2_with fail
  refine (awake_any _).mono ?_
  rintro e w4 ⟨rfl, hb4⟩
  have HL4 := Lib.hid (HL3.out.next hb4)
  have H4 := Lib.hid (H1.out.below hb4)
  clear hb4
  go_wp2_with fail
  refine (append_nilw _ _).mono ?_
  rintro e w5 ⟨rfl, rfl⟩
  go_wp2_with fail
  refine (sync_nilw _).mono ?_
  rintro e w5 ⟨rfl, rfl⟩
  go_wp2_with fail
  refine (rebase_nilw _ _).mono ?_
  rintro e w5 ⟨rfl, rfl⟩
  go_wp2_with fail
  refine (append_long _ _ H4.out hz).mono ?_
  rintro e w5 ⟨rfl, rfl⟩
  go_wp2_with fail
  refine (rebase_long _ _ H4.out hz).mono ?_
  rintro e w5 ⟨rfl, rfl⟩
  go_wp2_with (with_reducible refine hold_slice ?_)
  unfold Hold
  refine wpList_cut_lo' ok22 (by rfl) 1 (by rfl) (by rfl) rfl (show RdRow 1 _ _ z.length (z.map by8) from H4.out) (by omega) ?_
  intro v2 hv2
  have H2 : Hid (Rd8 _ v2 (z.drop 1)) := Lib.hid (by
    have h := hv2 _ _ (show RdRow 1 _ _ z.length (z.map by8) from H4.out)
    unfold Rd8
    rw [List.length_drop, List.map_drop]
    simpa using h)
  clear hv2
  go_wp2_with fail
  refine (lg_rebase HL4.out (by omega) (by omega) H2.out).mono ?_
  rw [R3.out]
  rintro e w6 ⟨rfl, hl6⟩
  have HL6 := Lib.hid hl6
  clear hl6
  go_wp2_with fail
  refine (lg_append HL6.out rng_one (p := []) (rd_nil _)).mono ?_
  rw [ex8]
  rintro e w7 ⟨rfl, hl7⟩
  have HB7 := Lib.hid hl7.bel
  clear hl7
  go_wp2_with fail
  go_ret
  exact ⟨rfl, HB7.out⟩
end Go.Proofs.Ytokmiphgalpahaa
