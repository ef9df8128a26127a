/- The document's Same of sets (43), unlike ones. -/
import Derived.Test.YtplieoalfbpniaaGreatDB
set_option linter.unusedVariables false
set_option linter.unusedSimpArgs false
namespace Go.Proofs.YtplieoalfbpniaaGreat
open Go.RowKit Go.Kt Go.Ix Go.Sx
set_option maxRecDepth 100000
def NotZero (e : Ending) : Prop := ∃ z : Int, (z = 1 ∨ z = -1) ∧ e = .returned (.int .i64 z)
theorem compare_no (v u : Value) (l m : List Pr) (w : World) (hv : RdP w v l) (hu : RdP w u m) (hne : l ≠ m) :
    Calls Tryz.prog 70 #[v, u] w fun e w' => NotZero e ∧ ∃ t, w' = w.drewN t := by
  refine (compare_all v u l m w hv hu).mono ?_
  rintro e w' ⟨rfl, ht⟩
  refine ⟨⟨cmpS l m, ?_, rfl⟩, ht⟩
  rcases cmpS_rng l m with h | h | h
  · exact .inr h
  · exact absurd (cmpS_zero h) hne
  · exact .inl h
theorem same_no (v u : Value) (l m : List Pr) (w : World) (hv : RdP w v l) (hu : RdP w u m) (hne : l ≠ m) :
    Calls Tryz.prog 43 #[v, u] w fun e w' => e = .returned (.bool false) ∧ ∃ t, w' = w.drewN t := by
  have HV := Lib.hid hv
  have HU := Lib.hid hu
  have HNE := Lib.hid hne
  clear hv hu hne
  go_enter Tryz.func43, Tryz.ntmps43
  go_wp2_with (first | (go_at_call 70; refine (compare_no v u l m w HV.out HU.out HNE.out).mono ?_; rintro e w2 ⟨⟨z, hz, rfl⟩, ht⟩; have HT := Lib.hid ht; have hz0 : (z == 0) = false := (by rw [beq_eq_false_iff_ne]; omega); clear hz ht) | fail)
  go_ret
  exact ⟨rfl, HT.out⟩
end Go.Proofs.YtplieoalfbpniaaGreat
