/- What a slice of seats and a stamp that came in read as. -/
import Derived.Test.YtgfegadklkecdaaWD
import Derived.Test.YtgfegadklkecdaaKtL
import Derived.Lib.SmallJoins
namespace Go.Proofs.Ytgfegadklkecdaa
open Go.RowKit Go.Kt Go.ChangeShapes Go.WideShapes

section
variable {H : Type} {enc : TypeId × Value → H}
theorem i64_wf {a : Int} (h : (Lit.int .i64 a).wf = true) : -9223372036854775808 ≤ a ∧ a ≤ 9223372036854775807 := by
  simpa [Lit.wf, IntKind.min, IntKind.max, IntKind.signed, IntKind.bits] using h
theorem open_st1 {w : World} {n : Nat} {c : List Value} {y : DataW H × List MemPlace} (h : DataW.trod enc Try.prog w 0 (fun _ => true) true n 25 c = some y) :
    ∃ x : St, c = [.int .i64 x.wall, .int .u32 x.tick, .int .u32 x.mark] := by
  obtain ⟨y0, y1, y2, m, -, hl, h0, h1, h2⟩ := Deep.trod_struct3 Try.underlying25 h
  have hc : Try.prog.cellsOf 25 = 3 := by kernel_rfl
  have hc2 : Try.prog.cellsOf 2 = 1 := by kernel_rfl
  have hc23 : Try.prog.cellsOf 23 = 1 := by kernel_rfl
  rw [hc] at hl
  match c, hl with
  | [c0, c1, c2], _ =>
    simp only [hc2, hc23] at h0 h1 h2
    have h0' : DataW.trod enc Try.prog w 0 (fun _ => true) true m 2 [c0] = some y0 := h0
    have h1' : DataW.trod enc Try.prog w 0 (fun _ => true) true m 23 [c1] = some y1 := h1
    have h2' : DataW.trod enc Try.prog w 0 (fun _ => true) true m 23 [c2] = some y2 := h2
    obtain ⟨k0, e0, -, -⟩ := DataW.trod_int Try.underlying2 h0'
    obtain ⟨k1, e1, -, -⟩ := DataW.trod_int Try.underlying23 h1'
    obtain ⟨k2, e2, -, -⟩ := DataW.trod_int Try.underlying23 h2'
    cases e0
    cases e1
    cases e2
    exact ⟨⟨k0, k1, k2⟩, rfl⟩
theorem list12 {α : Type} {l : List α} (h : l.length = 12) : ∃ c0 c1 c2 c3 c4 c5 c6 c7 c8 c9 c10 c11, l = [c0, c1, c2, c3, c4, c5, c6, c7, c8, c9, c10, c11] := by
  match l, h with
  | [c0, c1, c2, c3, c4, c5, c6, c7, c8, c9, c10, c11], _ => exact ⟨c0, c1, c2, c3, c4, c5, c6, c7, c8, c9, c10, c11, rfl⟩
theorem list8 {α : Type} {l : List α} (h : l.length = 8) : ∃ c0 c1 c2 c3 c4 c5 c6 c7, l = [c0, c1, c2, c3, c4, c5, c6, c7] := by
  match l, h with
  | [c0, c1, c2, c3, c4, c5, c6, c7], _ => exact ⟨c0, c1, c2, c3, c4, c5, c6, c7, rfl⟩
theorem open_seat1 {w : World} {n : Nat} {c : List Value} {y : DataW H × List MemPlace} (h : DataW.trod enc Try.prog w 0 (fun _ => true) true n 40 c = some y) :
    ∃ x : Seat, c = x.cells ∧ In64 x.node ∧ In64 x.load := by
  obtain ⟨xs, m, -, -, hl, hlen, hf⟩ := DataW.trod_struct Try.underlying40 h
  have hc : Try.prog.cellsOf 40 = 12 := by kernel_rfl
  have hc3 : Try.prog.cellsOf 3 = 1 := by kernel_rfl
  have hc4 : Try.prog.cellsOf 4 = 1 := by kernel_rfl
  have hc25 : Try.prog.cellsOf 25 = 3 := by kernel_rfl
  rw [hc] at hl
  obtain ⟨c0, c1, c2, c3, c4, c5, c6, c7, c8, c9, c10, c11, rfl⟩ := list12 hl
  obtain ⟨y0, y1, y2, y3, y4, y5, y6, y7, rfl⟩ := list8 hlen
  have h0 : DataW.trod enc Try.prog w 0 (fun _ => true) true m 3 (([c0, c1, c2, c3, c4, c5, c6, c7, c8, c9, c10, c11].drop 0).take (Try.prog.cellsOf 3)) = some y0 := by have h := hf 0 _ rfl; exact h
  have h1 : DataW.trod enc Try.prog w 0 (fun _ => true) true m 3 (([c0, c1, c2, c3, c4, c5, c6, c7, c8, c9, c10, c11].drop 1).take (Try.prog.cellsOf 3)) = some y1 := by have h := hf 1 _ rfl; exact h
  have h2 : DataW.trod enc Try.prog w 0 (fun _ => true) true m 4 (([c0, c1, c2, c3, c4, c5, c6, c7, c8, c9, c10, c11].drop 2).take (Try.prog.cellsOf 4)) = some y2 := by have h := hf 2 _ rfl; exact h
  have h3 : DataW.trod enc Try.prog w 0 (fun _ => true) true m 4 (([c0, c1, c2, c3, c4, c5, c6, c7, c8, c9, c10, c11].drop 3).take (Try.prog.cellsOf 4)) = some y3 := by have h := hf 3 _ rfl; exact h
  have h4 : DataW.trod enc Try.prog w 0 (fun _ => true) true m 25 (([c0, c1, c2, c3, c4, c5, c6, c7, c8, c9, c10, c11].drop 4).take (Try.prog.cellsOf 25)) = some y4 := by have h := hf 4 _ rfl; exact h
  have h5 : DataW.trod enc Try.prog w 0 (fun _ => true) true m 25 (([c0, c1, c2, c3, c4, c5, c6, c7, c8, c9, c10, c11].drop 7).take (Try.prog.cellsOf 25)) = some y5 := by have h := hf 5 _ rfl; exact h
  have h6 : DataW.trod enc Try.prog w 0 (fun _ => true) true m 4 (([c0, c1, c2, c3, c4, c5, c6, c7, c8, c9, c10, c11].drop 10).take (Try.prog.cellsOf 4)) = some y6 := by have h := hf 6 _ rfl; exact h
  have h7 : DataW.trod enc Try.prog w 0 (fun _ => true) true m 3 (([c0, c1, c2, c3, c4, c5, c6, c7, c8, c9, c10, c11].drop 11).take (Try.prog.cellsOf 3)) = some y7 := by have h := hf 7 _ rfl; exact h
  rw [hc3] at h0 h1 h7
  rw [hc4] at h2 h3 h6
  rw [hc25] at h4 h5
  have h0' : DataW.trod enc Try.prog w 0 (fun _ => true) true m 3 [c0] = some y0 := h0
  have h1' : DataW.trod enc Try.prog w 0 (fun _ => true) true m 3 [c1] = some y1 := h1
  have h2' : DataW.trod enc Try.prog w 0 (fun _ => true) true m 4 [c2] = some y2 := h2
  have h3' : DataW.trod enc Try.prog w 0 (fun _ => true) true m 4 [c3] = some y3 := h3
  have h4' : DataW.trod enc Try.prog w 0 (fun _ => true) true m 25 [c4, c5, c6] = some y4 := h4
  have h5' : DataW.trod enc Try.prog w 0 (fun _ => true) true m 25 [c7, c8, c9] = some y5 := h5
  have h6' : DataW.trod enc Try.prog w 0 (fun _ => true) true m 4 [c10] = some y6 := h6
  have h7' : DataW.trod enc Try.prog w 0 (fun _ => true) true m 3 [c11] = some y7 := h7
  obtain ⟨k0, e0, -, -⟩ := DataW.trod_int Try.underlying3 h0'
  obtain ⟨k1, e1, -, g1⟩ := DataW.trod_int Try.underlying3 h1'
  obtain ⟨k2, e2, -⟩ := DataW.trod_bool Try.underlying4 h2'
  obtain ⟨k3, e3, -⟩ := DataW.trod_bool Try.underlying4 h3'
  obtain ⟨k4, e4⟩ := open_st1 h4'
  obtain ⟨k5, e5⟩ := open_st1 h5'
  obtain ⟨k6, e6, -⟩ := DataW.trod_bool Try.underlying4 h6'
  obtain ⟨k7, e7, -, g7⟩ := DataW.trod_int Try.underlying3 h7'
  cases e0
  cases e1
  cases e2
  cases e3
  cases e4
  cases e5
  cases e6
  cases e7
  exact ⟨⟨k0, k1, k2, k3, k4, k5, k6, k7⟩, rfl, i64_wf g1, i64_wf g7⟩
theorem open_seat_list {w : World} : ∀ (css : List (List Value)) (xs : List (DataW H × List MemPlace)), xs.length = css.length →
    (∀ (i : Nat) (c : List Value) (y : DataW H × List MemPlace), css[i]? = some c → xs[i]? = some y → ∃ n, DataW.trod enc Try.prog w 0 (fun _ => true) true n 40 c = some y) →
    ∃ T : List Seat, T.length = css.length ∧ css.flatten = flatS T ∧ ∀ x ∈ T, In64 x.node ∧ In64 x.load
  | [], _, _, _ => ⟨[], rfl, rfl, by simp⟩
  | c :: css, [], h, _ => by simp at h
  | c :: css, y :: xs, h, hall => by
    obtain ⟨T, h1, h2, h3⟩ := open_seat_list css xs (by simpa using h) (fun i c y hc hy => hall (i + 1) c y (by simpa using hc) (by simpa using hy))
    obtain ⟨n, hn⟩ := hall 0 c y rfl rfl
    obtain ⟨x, hx, hok⟩ := open_seat1 hn
    refine ⟨x :: T, by simp [h1], by rw [List.flatten_cons, h2, hx]; rfl, fun z hz => ?_⟩
    rcases List.mem_cons.1 hz with rfl | hz
    · exact hok
    · exact h3 z hz
theorem open_seats {w : World} {base : Nat} {v : Value} {d : DataW H} {ps : List MemPlace} (hval : Value.okWide Try.prog w .any base 22 v) (h : DataW.Trod enc Try.prog w 0 (fun _ => true) true 22 v d ps) :
    ∃ l : List Seat, RdS w v l ∧ ∀ x ∈ l, In64 x.node ∧ In64 x.load := by
  obtain ⟨a0, len0, cap0, rfl⟩ := okWide_slice Try.underlying22 hval
  obtain ⟨fuel, hf⟩ := h
  have hc : Try.prog.cellsOf 40 = 12 := by kernel_rfl
  obtain ⟨v, css, xs, hv, hrow, hcs, hlen, hall, hd⟩ := open_row Try.underlying22 (by rw [hc]; omega) hf
  simp [Value.cells] at hv
  subst hv
  obtain ⟨T, h1, h2, h3⟩ := open_seat_list css xs hlen hall
  rw [hc, ← h1, h2] at hrow
  exact ⟨T, hrow, h3⟩
theorem open_stv {w : World} {base : Nat} {v : Value} {d : DataW H} {ps : List MemPlace} (hval : Value.okWide Try.prog w .any base 25 v) (h : DataW.Trod enc Try.prog w 0 (fun _ => true) true 25 v d ps) :
    ∃ x : St, v = x.val := by
  obtain ⟨v0, v1, v2, y0, y1, y2, n, rfl, -, -, h0, h1, h2⟩ := Joins.open_agg3 Try.underlying25 (by kernel_rfl) (by kernel_rfl) hval h
  obtain ⟨k0, e0, -, -⟩ := DataW.trod_int Try.underlying2 h0
  obtain ⟨k1, e1, -, -⟩ := DataW.trod_int Try.underlying23 h1
  obtain ⟨k2, e2, -, -⟩ := DataW.trod_int Try.underlying23 h2
  cases e0
  cases e1
  cases e2
  exact ⟨⟨k0, k1, k2⟩, rfl⟩
end
end Go.Proofs.Ytgfegadklkecdaa
