/- The document's Put of a chain (49). -/
import Derived.Test.YtplieoalfbpniaaGreatDD
set_option linter.unusedVariables false
set_option linter.unusedSimpArgs false
namespace Go.Proofs.YtplieoalfbpniaaGreat
open Go.RowKit Go.Kt Go.Ix Go.Sx
set_option maxRecDepth 100000
theorem filter_take {l : List Ver} {k : Nat} {x : Ver} (hx : l[k]? = some x) (p : Ver → Bool) : (l.take (k + 1)).filter p = (l.take k).filter p ++ (if p x = true then [x] else []) := by
  obtain ⟨hk, rfl⟩ := List.getElem?_eq_some_iff.1 hx
  rw [List.take_succ_eq_append_getElem hk, List.filter_append]
  by_cases e : p l[k] = true <;> simp [e]
theorem has_of {l : List Ver} {k : Nat} {x : Ver} {t : Tm} (hx : l[k]? = some x) (h : x.at_ = t) : has l t = true := by
  unfold has
  rw [List.any_eq_true]
  exact ⟨x, List.mem_of_getElem? hx, by simpa using h⟩
theorem has_not {l : List Ver} {t : Tm} (h : ∀ y ∈ l, y.at_ ≠ t) : has l t = false := by
  unfold has
  rw [List.any_eq_false]
  intro y hy e
  exact h y hy (by simpa using e)
theorem putC_filter {l : List Ver} {v : Ver} (hc : Chain l) (hv : verR v) (hn : ∀ y ∈ l, y.at_ ≠ v.at_) : putC l v = (0, l.filter (fun x => decide (x.at_.lt v.at_)) ++ v :: l.filter (fun x => decide (v.at_.lt x.at_))) := by
  have hh := has_not hn
  obtain ⟨h1, h2, h3⟩ := chain_parts v.at_ hc
  rw [hh] at h3
  have h4 : upto l v.at_ = place l v.at_ := by simpa using h3
  unfold putC
  rw [if_neg (by simpa using hv), if_neg (by rw [hh]; simp), h1, h2, h4]
end Go.Proofs.YtplieoalfbpniaaGreat
