/- The plain law of FrameTurns: where the turned byte lies, what is scanned ahead of it, and that its own frame does not open to the same end. -/
import Derived.Test.YtkanagmjnndodaaWD
import Derived.Test.YtkanagmjnndodaaPC
namespace Go.Proofs.Ytkanagmjnndodaa.Fr

/-- the frame in which a place of a row of frames lies -/
theorem joined_split : ∀ (l : List (UInt8 × List UInt8)) (i : Nat), i < (joined l).length →
    ∃ A x B, l = A ++ x :: B ∧ (joined A).length ≤ i ∧ i < (joined A).length + (sealed x.1 x.2).length
  | [], i, h => by simp [joined] at h
  | x :: t, i, h => by
    by_cases h1 : i < (sealed x.1 x.2).length
    · exact ⟨[], x, t, rfl, by simp [joined], by simpa [joined] using h1⟩
    · simp only [joined, List.length_append] at h
      obtain ⟨A, y, B, h2, h3, h4⟩ := joined_split t (i - (sealed x.1 x.2).length) (by omega)
      refine ⟨x :: A, y, B, by rw [h2]; rfl, ?_, ?_⟩
      · simp only [joined, List.length_append]; omega
      · simp only [joined, List.length_append]; omega
theorem joined_set (A B : List (UInt8 × List UInt8)) (x : UInt8 × List UInt8) (i : Nat) (y : UInt8) (h1 : (joined A).length ≤ i) (h2 : i < (joined A).length + (sealed x.1 x.2).length) :
    (joined (A ++ x :: B)).set i y = joined A ++ ((sealed x.1 x.2).set (i - (joined A).length) y ++ joined B) := by
  rw [joined_append, List.set_append_right _ _ h1]
  congr 1
  show (sealed x.1 x.2 ++ joined B).set _ _ = _
  rw [List.set_append_left _ _ (by omega)]
/-- what is scanned of the turned row begins with the frames ahead of the turned one -/
theorem scan_turned (A B : List (UInt8 × List UInt8)) (x : UInt8 × List UInt8) (i : Nat) (y : UInt8) (h1 : (joined A).length ≤ i) (h2 : i < (joined A).length + (sealed x.1 x.2).length) (hA : ∀ x ∈ A, x.2.length ≤ 2000) :
    A.length ≤ (scan ((joined (A ++ x :: B)).set i y)).1.length ∧ (scan ((joined (A ++ x :: B)).set i y)).1.take A.length = A := by
  rw [joined_set A B x i y h1 h2, scan_joined _ A hA]
  exact ⟨by simp, by simp⟩
/-- and the turned frame does not open to its old end -/
theorem open_turned (A B : List (UInt8 × List UInt8)) (x : UInt8 × List UInt8) (i : Nat) (y z : UInt8) (h1 : (joined A).length ≤ i) (h2 : i < (joined A).length + (sealed x.1 x.2).length) (hx : x.2.length ≤ 2000)
    (hz : (joined (A ++ x :: B))[i]? = some z) (hy : y ≠ z) :
    (opened (((joined (A ++ x :: B)).set i y).drop (joined A).length)).err ≠ 0 ∨ (opened (((joined (A ++ x :: B)).set i y).drop (joined A).length)).used ≠ (sealed x.1 x.2).length := by
  rw [joined_set A B x i y h1 h2, List.drop_left]
  have hz' : (sealed x.1 x.2)[i - (joined A).length]? = some z := by
    rw [joined_append, List.getElem?_append_right h1] at hz
    have : (sealed x.1 x.2 ++ joined B)[i - (joined A).length]? = some z := hz
    rwa [List.getElem?_append_left (by omega)] at this
  rcases Classical.em ((opened ((sealed x.1 x.2).set (i - (joined A).length) y ++ joined B)).err = 0) with h | h
  · right
    intro hu
    rw [sealed_len] at hu
    exact opened_turn x.1 x.2 (joined B) (by omega) _ y z hz' hy h hu
  · exact .inl h
/-- the ends that the law notes: ahead of the turned frame none lies behind its begin; its own is its end -/
theorem ends_le (A B : List (UInt8 × List UInt8)) (x : UInt8 × List UInt8) (h : Nat) (hh : h < A.length) : (joined ((A ++ x :: B).take (h + 1))).length ≤ (joined A).length := by
  rw [List.take_append_of_le_length (by omega)]
  have : joined A = joined (A.take (h + 1)) ++ joined (A.drop (h + 1)) := by rw [← joined_append, List.take_append_drop]
  rw [this, List.length_append]
  omega
theorem ends_hit (A B : List (UInt8 × List UInt8)) (x : UInt8 × List UInt8) : (joined ((A ++ x :: B).take (A.length + 1))).length = (joined A).length + (sealed x.1 x.2).length := by
  rw [List.take_append, List.take_of_length_le (by omega), show A.length + 1 - A.length = 1 by omega, joined_append, List.length_append]
  simp [joined]
end Go.Proofs.Ytkanagmjnndodaa.Fr
