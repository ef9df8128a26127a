/- Append (10) at the end of the power. -/
import Derived.Test.YtokmiphgalpahaaWC
namespace Go.Proofs.Ytokmiphgalpahaa
open Go.RowKit Go.Kt
set_option maxRecDepth 100000
variable {F : Nat → Prop} {w w' : World} {d mb : Nat} {room fuse : Int} {down : Bool} {l : List Sg}
set_option maxRecDepth 100000 in
set_option maxHeartbeats 1000000 in
theorem append_dead (h : DiskIs F w d mb room 0 false l) {s : Sg} (hs : s ∈ l) {v : Value} {pl : List UInt8} (hv : Rd8 w v pl) (hF : ∀ x, v.ownBlock = some x → pl ≠ [] → ¬ F x) (hlt : ∀ x, v.ownBlock = some x → pl ≠ [] → x < w.heap.size) (hroom : (pl.length : Int) ≤ room - used l) :
    Calls Try.prog 26 #[.pointer (some ⟨d, 0, none⟩), .int .i64 s.n, v] w fun e w' => e = .returned (.int .i64 5) ∧ DiskIs F w' d mb room 0 true l ∧ Turn F w w' := by
  have hl := look_yes h hs
  unfold Sg.ptr at hl
  have h1 := (h.seg s hs).2.2.2.1
  have d1 : decide (s.n < 1) = false := by simp only [decide_eq_false_iff_not]; omega
  obtain ⟨c0, c1, c2, c3⟩ := h.cell
  have hr0 := h.room0
  have hr1 := h.room1
  have ht := h.tot
  have Hv : Hid (Rd8 w v pl) := Lib.hid hv
  have HF := Lib.hid hF
  have Hlt := Lib.hid hlt
  obtain ⟨a, cap, rfl, hcap, hbig, hz1⟩ := hv.open
  clear hz1
  have H := Lib.hid h
  have Hs := Lib.hid hs
  have d2 : decide (room - (used l : Int) < (pl.length : Int)) = false := by simp only [decide_eq_false_iff_not]; omega
  clear h hv hs hF hlt
  generalize hu : used l = u at *
  have hw : IntKind.wrap .i64 (room - (u : Int)) = room - u := by
    simp [IntKind.wrap, IntKind.bits, IntKind.signed]
    omega
  have HU : Hid (∀ W, Below w.heap.size w W → Calls Try.prog 38 #[.pointer (some ⟨d, 0, none⟩)] W fun e w' => e = .returned (.int .i64 u) ∧ Below W.heap.size W w') := Lib.hid (fun W hW => by
    have := used_any (H.out.next hW)
    rwa [hu] at this)
  have HC : Hid (∀ W, Below w.heap.size w W → W.cell? ⟨d, 0, none⟩ = some (.int .i64 room) ∧ W.cell? ⟨d, 1, none⟩ = some (.map (some mb)) ∧ W.cell? ⟨d, 2, none⟩ = some (.int .i64 0) ∧ W.cell? ⟨d, 3, none⟩ = some (.bool false)) := Lib.hid (fun W hW => (H.out.next hW).cell)
  have hx1 := bel_refl w
  go_enter Try.func26, Try.ntmps26
  go_wp2_with (go_at_call 44; refine (up_any H.out).mono ?_; rintro e w1 ⟨rfl, rfl⟩)
  go_region_law
    (go_simp; go_at_call 38; refine (HU.out _ (by repeat (first | assumption | apply bel_alloc | apply bel_drew))).mono ?_; intro e w3 h3; obtain ⟨rfl, hb3⟩ := h3; have hx3 : Below w.heap.size w w3 := bel_trans (by repeat (first | assumption | apply bel_alloc | apply bel_drew)) hb3; obtain ⟨k0, k1, k2, k3⟩ := HC.out _ hx3; clear hb3)
  all_goals (go_wp2_with (go_at_call 50; refine (power_any (H.out.next hx3)).mono ?_; rintro e w4 ⟨rfl, hD4, hT4⟩; have HD4 := Lib.hid hD4; have HT4 : Hid (Turn F w w4) := Lib.hid ((Turn.of (F := F) hx3).trans hT4 (fun x hx => .inl (hx ▸ H.out.Fd))); clear hD4 hT4))
  all_goals (first
    | (go_ret; exact ⟨rfl, HD4.out, HT4.out⟩)
    | (exfalso; rw [hw] at *; omega))
end Go.Proofs.Ytokmiphgalpahaa
