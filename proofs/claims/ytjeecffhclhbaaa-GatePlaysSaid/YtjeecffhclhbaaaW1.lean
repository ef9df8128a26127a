/- Gates: what a gate is in memory, and as plain numbers; the contracts of right (16), fill (19). -/
import Derived.Test.YtjeecffhclhbaaaRows
import Derived.Test.YtjeecffhclhbaaaKtM
import Derived.Deep.DeepFit
import Derived.BigQuiet
import Derived.Deep.QuietTactic
import Derived.Deep.RegionHeld3
namespace Go.Proofs.Ytjeecffhclhbaaa
open Go.RowKit Go.Kt

def bkt (b : Int × Int) : Value := .agg #[.int .i64 b.1, .int .i64 b.2]
/-- what a gate is set to, and what it knows of its clients -/
structure Gt where
  burst : Int
  each : Int
  room : Int
  f : Lit → Option (Int × Int)
  n : Nat
structure Gt.ok (G : Gt) : Prop where
  b1 : 1 ≤ G.burst
  b2 : G.burst ≤ 1099511627776
  e1 : 0 ≤ G.each
  e2 : G.each ≤ 1099511627776
  r1 : 1 ≤ G.room
  r2 : G.room ≤ 65536
  n1 : (G.n : Int) ≤ G.room
  has : ∀ k b, G.f k = some b → 0 ≤ b.1 ∧ b.1 ≤ G.burst ∧ 0 ≤ b.2 ∧ b.2 ≤ 4611686018427387904
def GateAt (w : World) (g m : Nat) (G : Gt) : Prop :=
  w.heap[g]? = some (.cells #[.int .i64 G.burst, .int .i64 G.each, .int .i64 G.room, .map (some m)] 51 (0, 0)) ∧ MapIs Try.prog 9 w m (fun k => (G.f k).map bkt) G.n
theorem GateAt.cell {w : World} {g m : Nat} {G : Gt} (h : GateAt w g m G) : w.cell? ⟨g, 0, none⟩ = some (.int .i64 G.burst) ∧ w.cell? ⟨g, 1, none⟩ = some (.int .i64 G.each) ∧ w.cell? ⟨g, 2, none⟩ = some (.int .i64 G.room) ∧ w.cell? ⟨g, 3, none⟩ = some (.map (some m)) :=
  ⟨cell_of_row w g 0 _ 51 (0, 0) h.1, cell_of_row w g 1 _ 51 (0, 0) h.1, cell_of_row w g 2 _ 51 (0, 0) h.1, cell_of_row w g 3 _ 51 (0, 0) h.1⟩
theorem GateAt.lt {w : World} {g m : Nat} {G : Gt} (h : GateAt w g m G) : g < w.heap.size := (Array.getElem?_eq_some_iff.1 h.1).1
theorem GateAt.ne {w : World} {g m : Nat} {G : Gt} (h : GateAt w g m G) : g ≠ m := by
  rintro rfl
  obtain ⟨D, ⟨es, clock, hb, _⟩, _⟩ := h.2
  rw [h.1] at hb
  cases hb
theorem GateAt.below {w w' : World} {g m : Nat} {G : Gt} (h : GateAt w g m G) (hb : Below w.heap.size w w') : GateAt w' g m G := ⟨(hb.block g h.lt).trans h.1, h.2.below hb⟩
/-- a step that turned another map alone -/
theorem GateAt.grown {w w' : World} {g m : Nat} {G : Gt} (h : GateAt w g m G) {row : Option Nat} (hb : w.grownBy w' row) (h1 : some g ≠ row) (h2 : some m ≠ row) : GateAt w' g m G := ⟨(hb.block g h.lt h1).trans h.1, h.2.grown hb h2⟩

def rightB (s : ByteArray) (t : Int) : Bool := !s.toList.isEmpty && decide ((s.size : Int) ≤ 32) && decide (0 ≤ t) && decide (t ≤ 4611686018427387904)

def fillF (G : Gt) (b : Int × Int) (t : Int) : Int × Int :=
  if t ≤ b.2 then b
  else if 0 < G.each ∧ (G.burst - b.1 + G.each - 1) / G.each ≤ t - b.2 then (G.burst, t)
  else (b.1 + (t - b.2) * G.each, t)
theorem fill_fits (G : Gt) (h : G.ok) (b : Int × Int) (t : Int) (h1 : 0 ≤ b.1) (h2 : b.1 ≤ G.burst) (ht : b.2 < t) (hn : ¬ (0 < G.each ∧ (G.burst - b.1 + G.each - 1) / G.each ≤ t - b.2)) :
    0 ≤ (t - b.2) * G.each ∧ b.1 + (t - b.2) * G.each ≤ G.burst := by
  have e1 := h.e1
  refine ⟨Int.mul_nonneg (by omega) e1, ?_⟩
  by_cases he : 0 < G.each
  · have h3 : t - b.2 < (G.burst - b.1 + G.each - 1) / G.each := by
      rcases Int.lt_or_le (t - b.2) ((G.burst - b.1 + G.each - 1) / G.each) with h | h
      · exact h
      · exact absurd ⟨he, h⟩ hn
    have h4 : (t - b.2 + 1) * G.each ≤ G.burst - b.1 + G.each - 1 := by
      have := Int.mul_le_of_le_ediv he (show t - b.2 + 1 ≤ (G.burst - b.1 + G.each - 1) / G.each by omega)
      exact this
    rw [Int.add_mul] at h4
    omega
  · have : G.each = 0 := by omega
    rw [this]; omega
theorem fillF_ok (G : Gt) (h : G.ok) (b : Int × Int) (t : Int) (h1 : 0 ≤ b.1) (h2 : b.1 ≤ G.burst) (h3 : 0 ≤ b.2) (h4 : b.2 ≤ 4611686018427387904) (h5 : 0 ≤ t) (h6 : t ≤ 4611686018427387904) :
    0 ≤ (fillF G b t).1 ∧ (fillF G b t).1 ≤ G.burst ∧ 0 ≤ (fillF G b t).2 ∧ (fillF G b t).2 ≤ 4611686018427387904 := by
  unfold fillF
  have hb := h.b1
  split
  · exact ⟨h1, h2, h3, h4⟩
  · rename_i hlt
    split
    · exact ⟨by omega, Int.le_refl _, h5, h6⟩
    · rename_i hn
      have := fill_fits G h b t h1 h2 (by omega) hn
      exact ⟨by simp only; omega, this.2, h5, h6⟩

theorem ret_bool {a b : Bool} (h : a = b) : Ending.returned (.bool a) = .returned (.bool b) := by rw [h]

set_option maxHeartbeats 400000 in
theorem right_any (s : ByteArray) (t : Int) (w : World) (hs : s.size ≤ 9223372036854775807) : Calls Try.prog 16 #[.string s, .int .i64 t] w fun e w' => e = .returned (.bool (rightB s t)) ∧ w = w' := by
  generalize hp : rightB s t = p
  have Hp := Lib.hid hp
  clear hp
  by_cases h1 : s.toList = []
  · have h1' : s.toList.isEmpty = true := by simp [h1]
    have HH : Hid (p = false) := Lib.hid (by rw [← Hp.out]; simp [rightB, h1])
    go_enter Try.func16, Try.ntmps16
    go_wp2_with fail
    go_ret
    exact ⟨by rw [HH.out]; rfl, rfl⟩
  · have h1' : s.toList.isEmpty = false := by simp [h1]
    by_cases h2 : (s.size : Int) ≤ 32
    · have h2' : decide ((s.size : Int) ≤ 32) = true := by simpa using h2
      by_cases h3 : 0 ≤ t
      · have h3' : decide (0 ≤ t) = true := by simpa using h3
        have HH : Hid (p = decide (t ≤ 4611686018427387904)) := Lib.hid (by rw [← Hp.out]; simp [rightB, h1, h2, h3])
        go_enter Try.func16, Try.ntmps16
        go_wp2_with fail
        go_ret
        exact ⟨by rw [HH.out]; rfl, rfl⟩
      · have h3' : decide (0 ≤ t) = false := by simpa using h3
        have HH : Hid (p = false) := Lib.hid (by rw [← Hp.out]; simp [rightB, h3])
        go_enter Try.func16, Try.ntmps16
        go_wp2_with fail
        go_ret
        exact ⟨by rw [HH.out]; rfl, rfl⟩
    · have h2' : decide ((s.size : Int) ≤ 32) = false := by simpa using h2
      have HH : Hid (p = false) := Lib.hid (by rw [← Hp.out]; simp [rightB, h2])
      go_enter Try.func16, Try.ntmps16
      go_wp2_with fail
      go_ret
      exact ⟨by rw [HH.out]; rfl, rfl⟩
end Go.Proofs.Ytjeecffhclhbaaa
