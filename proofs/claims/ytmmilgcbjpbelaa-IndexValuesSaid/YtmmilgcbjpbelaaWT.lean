/- What a slice of rules that came in reads as, with its length's bound. -/
import Derived.Test.YtmmilgcbjpbelaaWR
import Derived.Test.YtmmilgcbjpbelaaWS
namespace Go.Proofs.Ytmmilgcbjpbelaa
open Go.RowKit Go.Kt Go.Ix Go.ChangeShapes Go.WideShapes
section
set_option maxRecDepth 8000
variable {H : Type} {enc : TypeId × Value → H}
theorem bytes96 : Try.prog.bytesOf 96 = 40 := by kernel_rfl
/-- the same, with how long it is at most -/
theorem open_rules2 {w : World} {base : Nat} {v : Value} {d : DataW H} {ps : List MemPlace} (hval : Value.okWide Try.prog w .any base 45 v) (h : DataW.Trod enc Try.prog w 0 (fun _ => true) true 45 v d ps) (hs : Small 45 d) : ∃ l : List Rl, RdR w v l ∧ FitR l ∧ l.length ≤ 4398046511104 := by
  obtain ⟨a0, len0, cap0, rfl⟩ := okWide_slice Try.underlying45 hval
  obtain ⟨fuel, hf⟩ := h
  obtain ⟨v, css, xs, hv, hrow, hcs, hlen, hall, hd⟩ := open_row Try.underlying45 (by rw [cells96]; omega) hf
  simp [Value.cells] at hv
  subst hv
  rw [cells96] at hcs hrow
  obtain ⟨T, h1, h2, h3⟩ := open_rule_list css xs hlen hall
  rw [← h1, h2] at hrow
  refine ⟨T, hrow, h3, ?_⟩
  rcases hd with ⟨_, e⟩ | ⟨spare, e⟩
  · rw [e] at h1
    rw [List.eq_nil_of_length_eq_zero h1]
    exact Nat.zero_le _
  · have e' : d = .slice (xs.map (·.1)) spare := e
    rw [e'] at hs
    have := small_len Try.underlying45 hs
    rw [bytes96, List.length_map] at this
    unfold reachBytes at this
    omega
end
end Go.Proofs.Ytmmilgcbjpbelaa
