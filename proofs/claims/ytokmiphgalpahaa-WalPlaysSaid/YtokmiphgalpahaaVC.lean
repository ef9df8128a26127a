/- awake (8). -/
import Derived.Test.YtokmiphgalpahaaVB
import Derived.Test.YtokmiphgalpahaaKtL
namespace Go.Proofs.Ytokmiphgalpahaa
open Go.RowKit Go.Kt
set_option maxRecDepth 100000
variable {F G K : Nat → Prop} {w w' w0 w1 w2 W : World} {d mb wb : Nat} {P : Pd} {seg : Int}
theorem exP_small (r : Int) (b : List UInt8) (s : Nat) : ∀ p ∈ (exP r b s).L, p.n ≤ 4611686018427387904 := by
  intro p hp
  simp only [exP, List.mem_cons, List.not_mem_nil, or_false] at hp
  subst hp
  simp
theorem no_small (r : Int) : ∀ p ∈ (⟨r, -1, false, []⟩ : Pd).L, p.n ≤ 4611686018427387904 := by
  intro p hp
  simp at hp
theorem rng_one : Rng 1 := ⟨by omega, by omega⟩
set_option maxHeartbeats 1000000 in
theorem awake_any (w : World) : Calls Try.prog 8 #[] w fun e w' => e = .returned (.bool true) ∧ Below w.heap.size w w' := by
  have kc := fun (w : World) (C : Array Value) (n c : Nat) => Lib.run_convert_bytes_const (P := Try.prog) w 22 5 C n c Try.underlying22 Try.underlying5
  go_enter Try.func8, Try.ntmps8
  go_wp2_with fail
  refine (new_ds 1000 w (by omega)).mono ?_
  rintro e w1 ⟨d, mb, rfl, hd1⟩
  have HD1 := Lib.hid hd1
  clear hd1
  go_wp2_with fail
  refine (lg_open HD1.out (no_small _) ex1).mono ?_
  rintro e w2 ⟨wb, bv, rv, rfl, hl2, hb2, hr2⟩
  obtain ⟨ba, bc, rfl, -, -, -, -⟩ := hb2.open
  obtain ⟨ra, rc, rfl, -, -, -⟩ := hr2.open
  have HL2 := Lib.hid hl2
  clear hl2 hb2 hr2
  simp only [List.length_nil]
  go_wp2_with fail
  refine (lg_append (HL2.out.next (below_alloc w2 _)) rng_one (p := [97]) (rd8_new _ (by simp [maxLen]) rfl rfl rfl)).mono ?_
  rw [ex2]
  rintro e w3 ⟨rfl, hl3⟩
  have HL3 := Lib.hid hl3
  clear hl3
  go_wp2_with fail
  refine (lg_sync HL3.out rng_one).mono ?_
  rw [ex3]
  rintro e w4 ⟨rfl, hl4⟩
  have HL4 := Lib.hid hl4
  clear hl4
  go_wp2_with fail
  refine (lg_append (HL4.out.next (below_alloc w4 _)) rng_one (p := [98]) (rd8_new _ (by simp [maxLen]) rfl rfl rfl)).mono ?_
  rw [ex4]
  rintro e w5 ⟨rfl, hl5⟩
  have HL5 := Lib.hid hl5
  clear hl5
  go_wp2_with fail
  refine (crash_ds HL5.out.ds (bel_refl _) (keep := []) (own_nil _ 3 1).rd (aside_nil _ _ _ _)).mono ?_
  rw [ex5]
  rintro e w6 ⟨rfl, hd6⟩
  have HD6 := Lib.hid hd6
  clear hd6
  go_wp2_with fail
  refine (lg_open HD6.out (exP_small _ _ _) ex6).mono ?_
  rintro e w7 ⟨wb7, bv7, rv7, rfl, hl7, hb7, hr7⟩
  obtain ⟨ba7, bc7, rfl, -, -, -, -⟩ := hb7.open
  obtain ⟨ra7, rc7, rfl, -, -, hc7⟩ := hr7.open
  obtain ⟨bb, o, x, rfl, c0, hx⟩ := hc7 0 [97] rfl
  obtain ⟨xa, xc, rfl, -, -, -, -⟩ := hx.open
  have HB7 := Lib.hid hl7.bel
  have hstr : (convert 22 9 (.slice xa 1 xc)).run Try.prog w7 = .ok (.string ⟨#[97]⟩) w7 := run_str8 (src := 22) (dst := 9) Try.underlying22 Try.underlying5 Try.underlying9 hx
  simp only [List.length_cons, List.length_nil, Nat.zero_add, Nat.add_zero] at c0 ⊢
  clear hl7 hb7 hr7 hc7 hx
  go_wp2_with fail
  go_ret
  exact ⟨rfl, HB7.out⟩
end Go.Proofs.Ytokmiphgalpahaa

