/- Append (10). -/
import Derived.Test.YtokmiphgalpahaaWA
import Derived.Test.YtokmiphgalpahaaKtL
import Derived.BigQuiet
import Derived.Deep.QuietTactic
import Derived.Deep.RegionHeld3
import Derived.Deep.DeepFit
import Derived.Deep.CutBlock
import Derived.Deep.RegionLaw
namespace Go.Proofs.Ytokmiphgalpahaa
open Go.RowKit Go.Kt
set_option maxRecDepth 100000
variable {F : Nat → Prop} {w w' : World} {d mb : Nat} {room fuse : Int} {down : Bool} {l : List Sg}

theorem rd8_turn {w w' : World} {v : Value} {pl : List UInt8} (h : Rd8 w v pl) {F : Nat → Prop} (hT : Turn F w w') (hlt : ∀ x, v.ownBlock = some x → pl ≠ [] → x < w.heap.size) (hF : ∀ x, v.ownBlock = some x → pl ≠ [] → ¬ F x) : Rd8 w' v pl :=
  by
    by_cases hp : pl = []
    · subst hp
      obtain ⟨hl, a, cap, rfl, h1, h2, h3, _⟩ := h
      exact ⟨hl, a, cap, rfl, h1, h2, h3, fun j u hj => by simp at hj⟩
    · exact RdRow.keep h fun b hb => hT.block b (hlt b hb hp) (hF b hb hp)
theorem append_down (h : DiskIs F w d mb room fuse true l) (n : Int) (v : Value) : Calls Try.prog 26 #[.pointer (some ⟨d, 0, none⟩), .int .i64 n, v] w fun e w' => e = .returned (.int .i64 5) ∧ w = w' := by
  have H := Lib.hid h
  clear h
  go_enter Try.func26, Try.ntmps26
  go_wp2_with (go_at_call 44; refine (up_any H.out).mono ?_; rintro e w1 ⟨rfl, rfl⟩)
  go_ret
  exact ⟨rfl, rfl⟩
theorem append_nil (w : World) (n : Int) (v : Value) : Calls Try.prog 26 #[.pointer none, .int .i64 n, v] w fun e w' => e = .returned (.int .i64 2) ∧ w = w' := by
  go_enter Try.func26, Try.ntmps26
  go_wp2_with (go_at_call 44; refine (up_nil _).mono ?_; rintro e w1 ⟨rfl, rfl⟩)
  go_ret
  exact ⟨rfl, rfl⟩
/-- a number that no segment may have -/
theorem append_arg (h : DiskIs F w d mb room fuse false l) {n : Int} (hn : Rng n) (h1 : n < 1) (v : Value) : Calls Try.prog 26 #[.pointer (some ⟨d, 0, none⟩), .int .i64 n, v] w fun e w' => e = .returned (.int .i64 1) ∧ w = w' := by
  have hl := look_no h hn (fun s hs e => by have := (h.seg s hs).2.2.2.1; omega)
  have d1 : decide (n < 1) = true := by simpa using h1
  obtain ⟨c0, c1, c2, c3⟩ := h.cell
  have H := Lib.hid h
  clear h hn
  go_enter Try.func26, Try.ntmps26
  go_wp2_with (go_at_call 44; refine (up_any H.out).mono ?_; rintro e w1 ⟨rfl, rfl⟩)
  go_ret
  exact ⟨rfl, rfl⟩
set_option maxRecDepth 100000 in
theorem append_full (h : DiskIs F w d mb room fuse false l) {s : Sg} (hs : s ∈ l) {v : Value} {pl : List UInt8} (hv : Rd8 w v pl) (hroom : room - used l < pl.length) : Calls Try.prog 26 #[.pointer (some ⟨d, 0, none⟩), .int .i64 s.n, v] w fun e w' => e = .returned (.int .i64 4) ∧ Below w.heap.size w w' := by
  have hl := look_yes h hs
  unfold Sg.ptr at hl
  have h1 := (h.seg s hs).2.2.2.1
  have d1 : decide (s.n < 1) = false := by simp only [decide_eq_false_iff_not]; omega
  obtain ⟨c0, c1, c2, c3⟩ := h.cell
  have hr0 := h.room0
  have hr1 := h.room1
  have ht := h.tot
  obtain ⟨a, cap, rfl, hcap, hbig, hz1⟩ := hv.open
  clear hz1
  have H := Lib.hid h
  have d2 : decide (room - (used l : Int) < (pl.length : Int)) = true := by simpa using hroom
  clear h hv hs
  generalize hu : used l = u at *
  generalize hp : pl.length = m at *
  go_enter Try.func26, Try.ntmps26
  have hw : IntKind.wrap .i64 (room - (u : Int)) = room - u := by
    simp [IntKind.wrap, IntKind.bits, IntKind.signed]
    omega
  have HU : Hid (∀ W, Below w.heap.size w W → Calls Try.prog 38 #[.pointer (some ⟨d, 0, none⟩)] W fun e w' => e = .returned (.int .i64 u) ∧ Below W.heap.size W w') := Lib.hid (fun W hW => by
    have := used_any (H.out.next hW)
    rwa [hu] at this)
  have HC : Hid (∀ W, Below w.heap.size w W → W.cell? ⟨d, 0, none⟩ = some (.int .i64 room) ∧ W.cell? ⟨d, 1, none⟩ = some (.map (some mb)) ∧ W.cell? ⟨d, 2, none⟩ = some (.int .i64 fuse) ∧ W.cell? ⟨d, 3, none⟩ = some (.bool false)) := Lib.hid (fun W hW => (H.out.next hW).cell)
  have hx1 := bel_refl w
  have hx0 : Hid (w.heap.size ≤ w.heap.size) := Lib.hid (Nat.le_refl _)
  go_wp2_with (go_at_call 44; refine (up_any H.out).mono ?_; rintro e w1 ⟨rfl, rfl⟩)
  go_region_law
    (go_simp; go_at_call 38; refine (HU.out _ (by repeat (first | assumption | apply bel_alloc | apply bel_drew))).mono ?_; intro e w3 h3; obtain ⟨rfl, hb3⟩ := h3; have hx3 : Below w.heap.size w w3 := bel_trans (by repeat (first | assumption | apply bel_alloc | apply bel_drew)) hb3; obtain ⟨k0, k1, k2, k3⟩ := HC.out _ hx3; clear hb3)
  all_goals (go_wp2_with fail)
  all_goals (first
    | (go_ret; refine ⟨rfl, ?_⟩; first | with_reducible assumption | exact hx3)
    | (exfalso; rw [hw] at *; omega))
end Go.Proofs.Ytokmiphgalpahaa
