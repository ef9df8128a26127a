/- What a slice of steps that came in reads as, and how long its rows of numbers are at most. -/
import Derived.Test.YtnggihfggghigaaX8
import Derived.Test.YtnggihfggghigaaBulk
namespace Go.Proofs.Ytnggihfggghigaa
open Go.RowKit Go.Kt Go.ChangeShapes Go.WideShapes
section
variable {H : Type} {enc : TypeId × Value → H}
theorem open_rdzb {w : World} {fuel : Nat} {c : Value} {y : DataW H × List MemPlace} (hf : DataW.trod enc Try.prog w 0 (fun _ => true) true fuel 29 [c] = some y) : ∃ l : List Int, RdZ w c l ∧ l.length ≤ Rows.uptoBulk y.1 := by
  obtain ⟨v, css, xs, hv, hrow, hcs, hlen, hall, hd⟩ := open_row Try.underlying29 (by rw [cells3]; omega) hf
  injection hv with hv
  subst hv
  rw [cells3] at hcs hrow
  obtain ⟨T, h1, h2⟩ := open_z_list css xs hlen hall hcs
  rw [← h1, h2] at hrow
  refine ⟨T, hrow, ?_⟩
  rcases hd with ⟨_, e⟩ | ⟨spare, e⟩
  · rw [h1, e]
    exact Nat.zero_le _
  · rw [e]
    have := bulks.slice_le (xs.map (·.1)) spare
    rw [List.length_map] at this
    omega
theorem bulk_agg (l : List (DataW H)) : Rows.uptoBulkAll l ≤ Rows.uptoBulk (.agg l) := by
  simp [Rows.uptoBulk]
theorem open_op1b {w : World} {n : Nat} {c : List Value} {y : DataW H × List MemPlace} (h : DataW.trod enc Try.prog w 0 (fun _ => true) true n 31 c = some y) :
    ∃ (o : Op) (pv kv : Value), c = o.vals pv kv ∧ OpOk w o pv kv ∧ o.keep.length ≤ Rows.uptoBulk y.1 := by
  obtain ⟨y0, y1, y2, y3, m, hy, hl, h0, h1, h2, h3⟩ := Joins.trod_struct4 Try.underlying31 h
  have hc : Try.prog.cellsOf 31 = 4 := by kernel_rfl
  have hc28 : Try.prog.cellsOf 28 = 1 := by kernel_rfl
  have hc29 : Try.prog.cellsOf 29 = 1 := by kernel_rfl
  rw [hc] at hl
  match c, hl with
  | [c0, c1, c2, c3], _ =>
    simp only [cells3, hc28, hc29] at h0 h1 h2 h3
    have h0' : DataW.trod enc Try.prog w 0 (fun _ => true) true m 3 [c0] = some y0 := h0
    have h1' : DataW.trod enc Try.prog w 0 (fun _ => true) true m 3 [c1] = some y1 := h1
    have h2' : DataW.trod enc Try.prog w 0 (fun _ => true) true m 28 [c2] = some y2 := h2
    have h3' : DataW.trod enc Try.prog w 0 (fun _ => true) true m 29 [c3] = some y3 := h3
    obtain ⟨k0, e0, -, g0⟩ := DataW.trod_int Try.underlying3 h0'
    obtain ⟨k1, e1, -, g1⟩ := DataW.trod_int Try.underlying3 h1'
    obtain ⟨bv, l, e2, hr, -⟩ := open_rd8' Try.underlying28 Try.underlying5 cells5 h2'
    obtain ⟨z, hz, hzl⟩ := open_rdzb h3'
    cases e0
    cases e1
    cases e2
    refine ⟨⟨k0, k1, l, z⟩, _, _, rfl, ⟨hr, hz, i64_wf g0, i64_wf g1⟩, ?_⟩
    have hle := bulk_agg [y0.1, y1.1, y2.1, y3.1]
    have hpart := bulks.part_le (d := y3.1) (l := [y0.1, y1.1, y2.1, y3.1]) (by simp)
    rw [hy]
    show z.length ≤ Rows.uptoBulk (DataW.agg [y0.1, y1.1, y2.1, y3.1])
    omega
theorem open_op_listb {w : World} : ∀ (css : List (List Value)) (xs : List (DataW H × List MemPlace)), xs.length = css.length →
    (∀ (i : Nat) (c : List Value) (y : DataW H × List MemPlace), css[i]? = some c → xs[i]? = some y → ∃ n, DataW.trod enc Try.prog w 0 (fun _ => true) true n 31 c = some y) →
    ∃ T : List (Op × Value × Value), T.length = css.length ∧ css.flatten = ocells T ∧ ∀ x ∈ T, OpOk w x.1 x.2.1 x.2.2 ∧ x.1.keep.length ≤ Rows.uptoBulkAll (xs.map (·.1))
  | [], _, _, _ => ⟨[], rfl, rfl, by simp⟩
  | c :: css, [], h, _ => by simp at h
  | c :: css, y :: xs, h, hall => by
    obtain ⟨T, h1, h2, h3⟩ := open_op_listb css xs (by simpa using h) (fun i c y hc hy => hall (i + 1) c y (by simpa using hc) (by simpa using hy))
    obtain ⟨n, hn⟩ := hall 0 c y rfl rfl
    obtain ⟨o, pv, kv, hx, hok, hkl⟩ := open_op1b hn
    have e : Rows.uptoBulkAll ((y :: xs).map (·.1)) = Rows.uptoBulk y.1 + Rows.uptoBulkAll (xs.map (·.1)) := rfl
    refine ⟨(o, pv, kv) :: T, by simp [h1], by rw [List.flatten_cons, h2, hx]; rfl, fun z hz => ?_⟩
    rw [e]
    rcases List.mem_cons.1 hz with rfl | hz
    · exact ⟨hok, by show o.keep.length ≤ _; omega⟩
    · exact ⟨(h3 z hz).1, by have := (h3 z hz).2; omega⟩
theorem open_opsb {w : World} {base : Nat} {v : Value} {d : DataW H} {ps : List MemPlace} (hval : Value.okWide Try.prog w .any base 22 v) (h : DataW.Trod enc Try.prog w 0 (fun _ => true) true 22 v d ps) :
    ∃ l : List Op, RdO w v l ∧ ∀ o ∈ l, o.keep.length ≤ Rows.uptoBulk d := by
  obtain ⟨a0, len0, cap0, rfl⟩ := okWide_slice Try.underlying22 hval
  obtain ⟨fuel, hf⟩ := h
  have hc : Try.prog.cellsOf 31 = 4 := by kernel_rfl
  obtain ⟨v, css, xs, hv, hrow, hcs, hlen, hall, hd⟩ := open_row Try.underlying22 (by rw [hc]; omega) hf
  simp [Value.cells] at hv
  subst hv
  obtain ⟨T, h1, h2, h3⟩ := open_op_listb css xs hlen hall
  rw [hc, ← h1, h2] at hrow
  refine ⟨T.map (·.1), ⟨T, rfl, hrow, fun x hx => (h3 x hx).1⟩, fun o ho => ?_⟩
  obtain ⟨x, hx, rfl⟩ := List.mem_map.1 ho
  have hle := (h3 x hx).2
  rcases hd with ⟨_, e⟩ | ⟨spare, e⟩
  · rw [e] at h1
    rw [List.eq_nil_of_length_eq_zero h1] at hx
    cases hx
  · have e' : d = .slice (xs.map (·.1)) spare := e
    rw [e']
    have := bulks.slice_elems (xs.map (·.1)) spare
    omega
end
end Go.Proofs.Ytnggihfggghigaa
