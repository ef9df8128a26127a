/- What a slice of steps that came in reads as. -/
import Derived.Test.YtjhjbgdekpegdaaWG
import Derived.Test.YtjhjbgdekpegdaaWB
namespace Go.Proofs.Ytjhjbgdekpegdaa
open Go.RowKit Go.Kt Go.ChangeShapes Go.WideShapes

section
variable {H : Type} {enc : TypeId × Value → H}
theorem list5 {α : Type} {l : List α} (h : l.length = 5) : ∃ c0 c1 c2 c3 c4, l = [c0, c1, c2, c3, c4] := by
  match l, h with
  | [c0, c1, c2, c3, c4], _ => exact ⟨c0, c1, c2, c3, c4, rfl⟩
theorem open_op1 {w : World} {n : Nat} {c : List Value} {y : DataW H × List MemPlace} (h : DataW.trod enc Try.prog w 0 (fun _ => true) true n 43 c = some y) :
    ∃ (op : Op) (bv : Value), c = op.vals bv ∧ Rd8 w bv op.m.body := by
  obtain ⟨y0, y1, y2, m, -, hl, h0, h1, h2⟩ := Deep.trod_struct3 Try.underlying43 h
  have hc : Try.prog.cellsOf 43 = 5 := by kernel_rfl
  have hc3 : Try.prog.cellsOf 3 = 1 := by kernel_rfl
  have hc30 : Try.prog.cellsOf 30 = 3 := by kernel_rfl
  rw [hc] at hl
  obtain ⟨c0, c1, c2, c3, c4, rfl⟩ := list5 hl
  simp only [hc3, hc30] at h0 h1 h2
  have h0' : DataW.trod enc Try.prog w 0 (fun _ => true) true m 3 [c0] = some y0 := h0
  have h1' : DataW.trod enc Try.prog w 0 (fun _ => true) true m 30 [c1, c2, c3] = some y1 := h1
  have h2' : DataW.trod enc Try.prog w 0 (fun _ => true) true m 3 [c4] = some y2 := h2
  obtain ⟨k0, e0, -, -⟩ := DataW.trod_int Try.underlying3 h0'
  obtain ⟨mm, bv, e1, hr⟩ := open_msg1 h1'
  obtain ⟨k2, e2, -, -⟩ := DataW.trod_int Try.underlying3 h2'
  cases e0
  cases e1
  cases e2
  exact ⟨⟨k0, mm, k2⟩, _, rfl, hr⟩
theorem open_op_list {w : World} : ∀ (css : List (List Value)) (xs : List (DataW H × List MemPlace)), xs.length = css.length →
    (∀ (i : Nat) (c : List Value) (y : DataW H × List MemPlace), css[i]? = some c → xs[i]? = some y → ∃ n, DataW.trod enc Try.prog w 0 (fun _ => true) true n 43 c = some y) →
    ∃ T : List (Op × Value), T.length = css.length ∧ css.flatten = ocells T ∧ ∀ x ∈ T, Rd8 w x.2 x.1.m.body
  | [], _, _, _ => ⟨[], rfl, rfl, by simp⟩
  | c :: css, [], h, _ => by simp at h
  | c :: css, y :: xs, h, hall => by
    obtain ⟨T, h1, h2, h3⟩ := open_op_list css xs (by simpa using h) (fun i c y hc hy => hall (i + 1) c y (by simpa using hc) (by simpa using hy))
    obtain ⟨n, hn⟩ := hall 0 c y rfl rfl
    obtain ⟨m, bv, hx, hok⟩ := open_op1 hn
    refine ⟨(m, bv) :: T, by simp [h1], by rw [List.flatten_cons, h2, hx]; rfl, fun z hz => ?_⟩
    rcases List.mem_cons.1 hz with rfl | hz
    · exact hok
    · exact h3 z hz
theorem open_ops {w : World} {base : Nat} {v : Value} {d : DataW H} {ps : List MemPlace} (hval : Value.okWide Try.prog w .any base 39 v) (h : DataW.Trod enc Try.prog w 0 (fun _ => true) true 39 v d ps) :
    ∃ l : List Op, RdO w v l := by
  obtain ⟨a0, len0, cap0, rfl⟩ := okWide_slice Try.underlying39 hval
  obtain ⟨fuel, hf⟩ := h
  have hc : Try.prog.cellsOf 43 = 5 := by kernel_rfl
  obtain ⟨v, css, xs, hv, hrow, hcs, hlen, hall, hd⟩ := open_row Try.underlying39 (by rw [hc]; omega) hf
  simp [Value.cells] at hv
  subst hv
  obtain ⟨T, h1, h2, h3⟩ := open_op_list css xs hlen hall
  rw [hc, ← h1, h2] at hrow
  exact ⟨T.map (·.1), T, rfl, hrow, h3⟩
end
end Go.Proofs.Ytjhjbgdekpegdaa
