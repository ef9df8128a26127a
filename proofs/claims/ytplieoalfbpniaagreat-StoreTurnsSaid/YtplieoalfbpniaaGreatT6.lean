/- What came in reads as numbers. -/
import Derived.Test.YtplieoalfbpniaaGreatSR
set_option linter.unusedVariables false
set_option linter.unusedSimpArgs false
namespace Go.Proofs.YtplieoalfbpniaaGreat
open Go.RowKit Go.Kt Go.Ix Go.Sx Go.ChangeShapes Go.WideShapes
section
set_option maxRecDepth 8000
variable {H : Type} {enc : TypeId × Value → H}
theorem open_num_list {w : World} : ∀ (css : List (List Value)) (xs : List (DataW H × List MemPlace)), xs.length = css.length → (∀ c ∈ css, c.length = 1) →
    (∀ (i : Nat) (c : List Value) (y : DataW H × List MemPlace), css[i]? = some c → xs[i]? = some y → ∃ n, DataW.trod enc Tryz.prog w 0 (fun _ => true) true n 3 c = some y) →
    ∃ T : List Int, T.length = css.length ∧ css.flatten = T.map Go.encZ
  | [], _, _, _, _ => ⟨[], rfl, rfl⟩
  | c :: css, [], h, _, _ => by simp at h
  | c :: css, y :: xs, h, hc, hall => by
    obtain ⟨T, h1, h2⟩ := open_num_list css xs (by simpa using h) (fun c hc' => hc c (by simp [hc'])) (fun i c y hc hy => hall (i + 1) c y (by simpa using hc) (by simpa using hy))
    obtain ⟨n, hn⟩ := hall 0 c y rfl rfl
    have hl := hc c (by simp)
    match c, hl with
    | [c0], _ =>
      obtain ⟨k1, e1, -, -⟩ := DataW.trod_int Tryz.underlying3 hn
      cases e1
      exact ⟨k1 :: T, by simp [h1], by rw [List.flatten_cons, h2]; rfl⟩
theorem open_nums {w : World} {base : Nat} {v : Value} {d : DataW H} {ps : List MemPlace} (hval : Value.okWide Tryz.prog w .any base 39 v) (h : DataW.Trod enc Tryz.prog w 0 (fun _ => true) true 39 v d ps) :
    ∃ T : List Int, RdRow 1 w v T.length (T.map Go.encZ) := by
  obtain ⟨a0, len0, cap0, rfl⟩ := okWide_slice Tryz.underlying39 hval
  obtain ⟨fuel, hf⟩ := h
  obtain ⟨v, css, xs, hv, hrow, hcs, hlen, hall, hd⟩ := open_row Tryz.underlying39 (by rw [cells3]; omega) hf
  simp [Value.cells] at hv
  subst hv
  rw [cells3] at hcs hrow
  obtain ⟨T, h1, h2⟩ := open_num_list css xs hlen hcs hall
  rw [← h1, h2] at hrow
  exact ⟨T, hrow⟩
end
end Go.Proofs.YtplieoalfbpniaaGreat
