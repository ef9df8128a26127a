/- The contracts of the small functions on stamps: Right (12, 15), Compare (13), Below (16), To (8). -/
import Derived.Test.YtgfegadklkecdaaRows
import Derived.Test.YtgfegadklkecdaaKtM
import Derived.BigQuiet
import Derived.Deep.QuietTactic
import Derived.Deep.RegionHeld3
import Derived.Deep.DeepFit
namespace Go.Proofs.Ytgfegadklkecdaa
open Go.RowKit Go.Kt

structure St where
  wall : Int
  tick : Int
  mark : Int
def St.val (s : St) : Value := .agg #[.int .i64 s.wall, .int .u32 s.tick, .int .u32 s.mark]
def St.cells (s : St) : List Value := [.int .i64 s.wall, .int .u32 s.tick, .int .u32 s.mark]
def stR (s : St) : Bool := decide (0 ≤ s.wall) && decide (s.wall ≤ 4611686018427387904)
def cmp (a b : St) : Int := if a.wall ≠ b.wall then (if a.wall < b.wall then -1 else 1) else if a.tick ≠ b.tick then (if a.tick < b.tick then -1 else 1) else if a.mark ≠ b.mark then (if a.mark < b.mark then -1 else 1) else 0
def blw (a b : St) : Bool := if a.wall ≠ b.wall then decide (a.wall < b.wall) else if a.tick ≠ b.tick then decide (a.tick < b.tick) else decide (a.mark < b.mark)

theorem ret_bool {a b : Bool} (h : a = b) : Ending.returned (.bool a) = .returned (.bool b) := by rw [h]
theorem ret_int {k : IntKind} {a b : Int} (h : a = b) : Ending.returned (.int k a) = .returned (.int k b) := by rw [h]

set_option maxHeartbeats 400000 in
theorem str_any (s : St) (w : World) : Calls Try.prog 12 #[s.val] w fun e w' => e = .returned (.bool (stR s)) ∧ Below w.heap.size w w' := by
  generalize hp : stR s = p
  have Hp := Lib.hid hp
  clear hp
  obtain ⟨a, t, m⟩ := s
  unfold St.val
  unfold stR at Hp
  simp only at Hp ⊢
  by_cases h1 : 0 ≤ a
  · have HH : Hid (p = decide (a ≤ 4611686018427387904)) := Lib.hid (by rw [← Hp.out]; simp [h1])
    go_enter Try.func12, Try.ntmps12
    go_wp2_with fail
    go_ret
    exact ⟨by rw [HH.out]; rfl, below_alloc _ _⟩
  · have HH : Hid (p = false) := Lib.hid (by rw [← Hp.out]; simp [h1])
    have h3' : decide (0 ≤ a) = false := by simpa using h1
    go_enter Try.func12, Try.ntmps12
    go_wp2_with fail
    go_ret
    exact ⟨by rw [HH.out]; rfl, below_alloc _ _⟩

set_option maxHeartbeats 400000 in
theorem refstr_any (s : St) (w : World) : Calls Try.prog 15 #[s.val] w fun e w' => e = .returned (.bool (stR s)) ∧ Below w.heap.size w w' := by
  generalize hp : stR s = p
  have Hp := Lib.hid hp
  clear hp
  obtain ⟨a, t, m⟩ := s
  unfold St.val
  unfold stR at Hp
  simp only at Hp ⊢
  by_cases h1 : 0 ≤ a
  · have HH : Hid (p = decide (a ≤ 4611686018427387904)) := Lib.hid (by rw [← Hp.out]; simp [h1])
    go_enter Try.func15, Try.ntmps15
    go_wp2_with fail
    go_ret
    exact ⟨by rw [HH.out]; rfl, below_alloc _ _⟩
  · have HH : Hid (p = false) := Lib.hid (by rw [← Hp.out]; simp [h1])
    have h3' : decide (0 ≤ a) = false := by simpa using h1
    go_enter Try.func15, Try.ntmps15
    go_wp2_with fail
    go_ret
    exact ⟨by rw [HH.out]; rfl, below_alloc _ _⟩

theorem to_any1 (s : St) (w : World) : Calls Try.prog 8 #[s.val] w fun e w' => e = .returned s.val ∧ Below w.heap.size w w' := by
  unfold St.val
  go_enter Try.func8, Try.ntmps8
  go_wp2_with fail
  refine bodyPost_ret (v := s.val) (by simp [results, Try.results8, go_sem, St.val]) rfl ⟨rfl, (below_alloc _ _).alloc (by simp) _⟩

set_option maxHeartbeats 1000000 in
theorem compare_any (a b : St) (w : World) : Calls Try.prog 13 #[a.val, b.val] w fun e w' => e = .returned (.int .i64 (cmp a b)) ∧ Below w.heap.size w w' := by
  generalize hp : cmp a b = p
  have Hp := Lib.hid hp
  clear hp
  obtain ⟨a1, a2, a3⟩ := a
  obtain ⟨b1, b2, b3⟩ := b
  unfold St.val
  unfold cmp at Hp
  simp only at Hp ⊢
  by_cases h1 : a1 = b1
  · have d1 : (a1 != b1) = false := by simp [h1]
    by_cases h2 : a2 = b2
    · have d2 : (a2 != b2) = false := by simp [h2]
      by_cases h3 : a3 = b3
      · have d3 : (a3 != b3) = false := by simp [h3]
        have HH : Hid (p = 0) := Lib.hid (by rw [← Hp.out]; simp [h1, h2, h3])
        clear h1 h2 h3
        go_enter Try.func13, Try.ntmps13
        go_wp2_with (first | go_in | fail)
        go_ret
        exact ⟨by rw [HH.out]; rfl, (below_alloc _ _).alloc (by simp) _⟩
      · have d3 : (a3 != b3) = true := by simp [h3]
        by_cases hl : a3 < b3
        · have HH : Hid (p = -1) := Lib.hid (by rw [← Hp.out]; simp [h1, h2, h3, hl])
          clear h1 h2 h3
          go_enter Try.func13, Try.ntmps13
          go_wp2_with (first | go_in | fail)
          go_ret
          exact ⟨by rw [HH.out]; rfl, (below_alloc _ _).alloc (by simp) _⟩
        · have HH : Hid (p = 1) := Lib.hid (by rw [← Hp.out]; simp [h1, h2, h3, hl])
          clear h1 h2 h3
          go_enter Try.func13, Try.ntmps13
          go_wp2_with (first | go_in | fail)
          go_ret
          exact ⟨by rw [HH.out]; rfl, (below_alloc _ _).alloc (by simp) _⟩
    · have d2 : (a2 != b2) = true := by simp [h2]
      by_cases hl : a2 < b2
      · have HH : Hid (p = -1) := Lib.hid (by rw [← Hp.out]; simp [h1, h2, hl])
        clear h1 h2
        go_enter Try.func13, Try.ntmps13
        go_wp2_with (first | go_in | fail)
        go_ret
        exact ⟨by rw [HH.out]; rfl, (below_alloc _ _).alloc (by simp) _⟩
      · have HH : Hid (p = 1) := Lib.hid (by rw [← Hp.out]; simp [h1, h2, hl])
        clear h1 h2
        go_enter Try.func13, Try.ntmps13
        go_wp2_with (first | go_in | fail)
        go_ret
        exact ⟨by rw [HH.out]; rfl, (below_alloc _ _).alloc (by simp) _⟩
  · have d1 : (a1 != b1) = true := by simp [h1]
    by_cases hl : a1 < b1
    · have HH : Hid (p = -1) := Lib.hid (by rw [← Hp.out]; simp [h1, hl])
      clear h1
      go_enter Try.func13, Try.ntmps13
      go_wp2_with (first | go_in | fail)
      go_ret
      exact ⟨by rw [HH.out]; rfl, (below_alloc _ _).alloc (by simp) _⟩
    · have HH : Hid (p = 1) := Lib.hid (by rw [← Hp.out]; simp [h1, hl])
      clear h1
      go_enter Try.func13, Try.ntmps13
      go_wp2_with (first | go_in | fail)
      go_ret
      exact ⟨by rw [HH.out]; rfl, (below_alloc _ _).alloc (by simp) _⟩

set_option maxHeartbeats 1000000 in
theorem blw_any (a b : St) (w : World) : Calls Try.prog 16 #[a.val, b.val] w fun e w' => e = .returned (.bool (blw a b)) ∧ Below w.heap.size w w' := by
  generalize hp : blw a b = p
  have Hp := Lib.hid hp
  clear hp
  obtain ⟨a1, a2, a3⟩ := a
  obtain ⟨b1, b2, b3⟩ := b
  unfold St.val
  unfold blw at Hp
  simp only at Hp ⊢
  by_cases h1 : a1 = b1
  · have d1 : (a1 != b1) = false := by simp [h1]
    by_cases h2 : a2 = b2
    · have d2 : (a2 != b2) = false := by simp [h2]
      have HH : Hid (p = decide (a3 < b3)) := Lib.hid (by rw [← Hp.out]; simp [h1, h2])
      clear h1 h2
      go_enter Try.func16, Try.ntmps16
      go_wp2_with (first | go_in | fail)
      go_ret
      exact ⟨by rw [HH.out]; rfl, (below_alloc _ _).alloc (by simp) _⟩
    · have d2 : (a2 != b2) = true := by simp [h2]
      have HH : Hid (p = decide (a2 < b2)) := Lib.hid (by rw [← Hp.out]; simp [h1, h2])
      clear h1 h2
      go_enter Try.func16, Try.ntmps16
      go_wp2_with (first | go_in | fail)
      go_ret
      exact ⟨by rw [HH.out]; rfl, (below_alloc _ _).alloc (by simp) _⟩
  · have d1 : (a1 != b1) = true := by simp [h1]
    have HH : Hid (p = decide (a1 < b1)) := Lib.hid (by rw [← Hp.out]; simp [h1])
    clear h1
    go_enter Try.func16, Try.ntmps16
    go_wp2_with (first | go_in | fail)
    go_ret
    exact ⟨by rw [HH.out]; rfl, (below_alloc _ _).alloc (by simp) _⟩

end Go.Proofs.Ytgfegadklkecdaa
