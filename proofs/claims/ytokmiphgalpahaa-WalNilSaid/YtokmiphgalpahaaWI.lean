/- Append (10) to a segment that is not there. -/
import Derived.Test.YtokmiphgalpahaaWH
namespace Go.Proofs.Ytokmiphgalpahaa
open Go.RowKit Go.Kt
set_option maxRecDepth 100000
variable {F : Nat → Prop} {w w' : World} {d mb : Nat} {room fuse : Int} {down : Bool} {l : List Sg}
theorem run_len48 (h : DiskIs F w d mb room fuse down l) (ty : TypeId) : (Builtin.len_ #[67] ty #[.map (some mb)]).run Try.prog w = .ok (.int .i64 (l.length : Int)) w := by
  obtain ⟨f, hm, hf⟩ := h.map
  exact hm.len Try.underlying67 ty
set_option maxRecDepth 100000 in
set_option maxHeartbeats 1000000 in
theorem append_full2 (h : DiskIs F w d mb room fuse false l) {n : Int} (hn : Rng n) (h1 : 1 ≤ n) (hlk : Lacks l n) {v : Value} {pl : List UInt8} (hv : Rd8 w v pl) (hroom : room - used l < pl.length ∨ 1024 ≤ l.length) :
    Calls Try.prog 26 #[.pointer (some ⟨d, 0, none⟩), .int .i64 n, v] w fun e w' => e = .returned (.int .i64 4) ∧ Below w.heap.size w w' := by
  have hl := look_no h hn hlk
  have hn2 := hn.2
  have d1 : decide (n < 1) = false := by simp only [decide_eq_false_iff_not]; omega
  obtain ⟨c0, c1, c2, c3⟩ := h.cell
  have hr0 := h.room0
  have hr1 := h.room1
  have ht := h.tot
  have Hv : Hid (Rd8 w v pl) := Lib.hid hv
  obtain ⟨a, cap, rfl, hcap, hbig, hz1⟩ := hv.open
  clear hz1
  have H := Lib.hid h
  have Hlk := Lib.hid hlk
  have hle := h.len
  by_cases hp : room - (used l : Int) < (pl.length : Int)
  · have d2 : decide (room - (used l : Int) < (pl.length : Int)) = true := by simpa using hp
    clear h hv hlk hroom hn hp
    generalize hm : l.length = m at *
    generalize hu : used l = u at *
    have hw : IntKind.wrap .i64 (room - (u : Int)) = room - u := by
      simp [IntKind.wrap, IntKind.bits, IntKind.signed]
      omega
    have HU : Hid (∀ W, Below w.heap.size w W → Calls Try.prog 38 #[.pointer (some ⟨d, 0, none⟩)] W fun e w' => e = .returned (.int .i64 u) ∧ Below W.heap.size W w') := Lib.hid (fun W hW => by
      have := used_any (H.out.next hW)
      rwa [hu] at this)
    have HC : Hid (∀ W, Below w.heap.size w W → W.cell? ⟨d, 0, none⟩ = some (.int .i64 room) ∧ W.cell? ⟨d, 1, none⟩ = some (.map (some mb)) ∧ W.cell? ⟨d, 2, none⟩ = some (.int .i64 fuse) ∧ W.cell? ⟨d, 3, none⟩ = some (.bool false) ∧ (Builtin.len_ #[67] 3 #[.map (some mb)]).run Try.prog W = .ok (.int .i64 (m : Int)) W) := Lib.hid (fun W hW => by
      have h1 := (H.out.next hW).cell
      have h2 := run_len48 (H.out.next hW) 3
      rw [hm] at h2
      exact ⟨h1.1, h1.2.1, h1.2.2.1, h1.2.2.2, h2⟩)
    have hx1 := bel_refl w
    go_enter Try.func26, Try.ntmps26
    go_wp2_with (go_at_call 44; refine (up_any H.out).mono ?_; rintro e w1 ⟨rfl, rfl⟩)
    go_region_law
      (go_simp; go_at_call 38; refine (HU.out _ (by repeat (first | assumption | apply bel_alloc | apply bel_drew))).mono ?_; intro e w3 h3; obtain ⟨rfl, hb3⟩ := h3; have hx3 : Below w.heap.size w w3 := bel_trans (by repeat (first | assumption | apply bel_alloc | apply bel_drew)) hb3; obtain ⟨k0, k1, k2, k3, k4⟩ := HC.out _ hx3; clear hb3)
    all_goals (go_wp2_with fail)
    all_goals (first
      | (go_ret; refine ⟨rfl, ?_⟩; first | with_reducible assumption | exact hx3)
      | (exfalso; rw [hw] at *; omega))
  · have d2 : decide (room - (used l : Int) < (pl.length : Int)) = false := by simpa using hp
    have d3 : decide (1024 ≤ (l.length : Int)) = true := by simp only [decide_eq_true_eq]; omega
    clear h hv hlk hroom hn hp
    generalize hm : l.length = m at *
    generalize hu : used l = u at *
    have hw : IntKind.wrap .i64 (room - (u : Int)) = room - u := by
      simp [IntKind.wrap, IntKind.bits, IntKind.signed]
      omega
    have HU : Hid (∀ W, Below w.heap.size w W → Calls Try.prog 38 #[.pointer (some ⟨d, 0, none⟩)] W fun e w' => e = .returned (.int .i64 u) ∧ Below W.heap.size W w') := Lib.hid (fun W hW => by
      have := used_any (H.out.next hW)
      rwa [hu] at this)
    have HC : Hid (∀ W, Below w.heap.size w W → W.cell? ⟨d, 0, none⟩ = some (.int .i64 room) ∧ W.cell? ⟨d, 1, none⟩ = some (.map (some mb)) ∧ W.cell? ⟨d, 2, none⟩ = some (.int .i64 fuse) ∧ W.cell? ⟨d, 3, none⟩ = some (.bool false) ∧ (Builtin.len_ #[67] 3 #[.map (some mb)]).run Try.prog W = .ok (.int .i64 (m : Int)) W) := Lib.hid (fun W hW => by
      have h1 := (H.out.next hW).cell
      have h2 := run_len48 (H.out.next hW) 3
      rw [hm] at h2
      exact ⟨h1.1, h1.2.1, h1.2.2.1, h1.2.2.2, h2⟩)
    have hx1 := bel_refl w
    go_enter Try.func26, Try.ntmps26
    go_wp2_with (go_at_call 44; refine (up_any H.out).mono ?_; rintro e w1 ⟨rfl, rfl⟩)
    go_region_law
      (go_simp; go_at_call 38; refine (HU.out _ (by repeat (first | assumption | apply bel_alloc | apply bel_drew))).mono ?_; intro e w3 h3; obtain ⟨rfl, hb3⟩ := h3; have hx3 : Below w.heap.size w w3 := bel_trans (by repeat (first | assumption | apply bel_alloc | apply bel_drew)) hb3; obtain ⟨k0, k1, k2, k3, k4⟩ := HC.out _ hx3; clear hb3)
    all_goals (go_wp2_with fail)
    all_goals (first
      | (go_ret; refine ⟨rfl, ?_⟩; first | with_reducible assumption | exact hx3)
      | (exfalso; rw [hw] at *; omega))
set_option maxRecDepth 100000 in
set_option maxHeartbeats 1000000 in
theorem append_dead2 (h : DiskIs F w d mb room 0 false l) {n : Int} (hn : Rng n) (h1 : 1 ≤ n) (hlk : Lacks l n) (hlen : l.length < 1024) {v : Value} {pl : List UInt8} (hv : Rd8 w v pl) (hF : ∀ x, v.ownBlock = some x → pl ≠ [] → ¬ F x) (hlt : ∀ x, v.ownBlock = some x → pl ≠ [] → x < w.heap.size) (hroom : (pl.length : Int) ≤ room - used l) :
    Calls Try.prog 26 #[.pointer (some ⟨d, 0, none⟩), .int .i64 n, v] w fun e w' => e = .returned (.int .i64 5) ∧ DiskIs F w' d mb room 0 true l ∧ Turn F w w' := by
  have hl := look_no h hn hlk
  have hn2 := hn.2
  have d1 : decide (n < 1) = false := by simp only [decide_eq_false_iff_not]; omega
  obtain ⟨c0, c1, c2, c3⟩ := h.cell
  have hr0 := h.room0
  have hr1 := h.room1
  have ht := h.tot
  have Hv : Hid (Rd8 w v pl) := Lib.hid hv
  have HF := Lib.hid hF
  have Hlt := Lib.hid hlt
  obtain ⟨a, cap, rfl, hcap, hbig, hz1⟩ := hv.open
  clear hz1
  have H := Lib.hid h
  have Hlk := Lib.hid hlk
  have d2 : decide (room - (used l : Int) < (pl.length : Int)) = false := by simp only [decide_eq_false_iff_not]; omega
  have d3 : decide (1024 ≤ (l.length : Int)) = false := by simp only [decide_eq_false_iff_not]; omega
  clear h hv hlk hF hlt hn
  generalize hm : l.length = m at *
  generalize hu : used l = u at *
  have hw : IntKind.wrap .i64 (room - (u : Int)) = room - u := by
    simp [IntKind.wrap, IntKind.bits, IntKind.signed]
    omega
  have HU : Hid (∀ W, Below w.heap.size w W → Calls Try.prog 38 #[.pointer (some ⟨d, 0, none⟩)] W fun e w' => e = .returned (.int .i64 u) ∧ Below W.heap.size W w') := Lib.hid (fun W hW => by
    have := used_any (H.out.next hW)
    rwa [hu] at this)
  have HC : Hid (∀ W, Below w.heap.size w W → W.cell? ⟨d, 0, none⟩ = some (.int .i64 room) ∧ W.cell? ⟨d, 1, none⟩ = some (.map (some mb)) ∧ W.cell? ⟨d, 2, none⟩ = some (.int .i64 0) ∧ W.cell? ⟨d, 3, none⟩ = some (.bool false) ∧ (Builtin.len_ #[67] 3 #[.map (some mb)]).run Try.prog W = .ok (.int .i64 (m : Int)) W) := Lib.hid (fun W hW => by
    have h1 := (H.out.next hW).cell
    have h2 := run_len48 (H.out.next hW) 3
    rw [hm] at h2
    exact ⟨h1.1, h1.2.1, h1.2.2.1, h1.2.2.2, h2⟩)
  have hx1 := bel_refl w
  go_enter Try.func26, Try.ntmps26
  go_wp2_with (go_at_call 44; refine (up_any H.out).mono ?_; rintro e w1 ⟨rfl, rfl⟩)
  go_region_law
    (go_simp; go_at_call 38; refine (HU.out _ (by repeat (first | assumption | apply bel_alloc | apply bel_drew))).mono ?_; intro e w3 h3; obtain ⟨rfl, hb3⟩ := h3; have hx3 : Below w.heap.size w w3 := bel_trans (by repeat (first | assumption | apply bel_alloc | apply bel_drew)) hb3; obtain ⟨k0, k1, k2, k3, k4⟩ := HC.out _ hx3; clear hb3)
  all_goals (go_wp2_with (go_at_call 50; refine (power_any (H.out.next hx3)).mono ?_; rintro e w4 ⟨rfl, hD4, hT4⟩; have HD4 := Lib.hid hD4; have HT4 : Hid (Turn F w w4) := Lib.hid ((Turn.of (F := F) hx3).trans hT4 (fun x hx => .inl (hx ▸ H.out.Fd))); clear hD4 hT4))
  all_goals (first
    | (go_ret; exact ⟨rfl, HD4.out, HT4.out⟩)
    | (exfalso; rw [hw] at *; omega))
end Go.Proofs.Ytokmiphgalpahaa
