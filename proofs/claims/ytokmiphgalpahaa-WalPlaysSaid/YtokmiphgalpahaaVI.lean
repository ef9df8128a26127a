/- What a slice of the log's steps that came in reads as. -/
import Derived.Test.YtokmiphgalpahaaWQ
import Derived.Test.YtokmiphgalpahaaBulk
namespace Go.Proofs.Ytokmiphgalpahaa
open Go.RowKit Go.Kt Go.ChangeShapes Go.WideShapes
set_option maxRecDepth 100000

/-- a step of the log lies kind, bytes, number, keep -/
def Op.vals9 (o : Op) (pv kv : Value) : List Value := [.int .i64 o.kind, pv, .int .i64 o.n, kv]
def ocells9 (os : List (Op × Value × Value)) : List Value := (os.map fun x => x.1.vals9 x.2.1 x.2.2).flatten
theorem ocells9_get (os : List (Op × Value × Value)) (i c : Nat) (x : Op × Value × Value) (h : os[i]? = some x) (hc : c < 4) : (ocells9 os)[i * 4 + c]? = (x.1.vals9 x.2.1 x.2.2)[c]? := by
  unfold ocells9
  rw [flatten_get 4 (by omega) _ (by intro y hy; obtain ⟨z, _, rfl⟩ := List.mem_map.1 hy; rfl)]
  rw [show (i * 4 + c) / 4 = i by omega, show (i * 4 + c) % 4 = c by omega, List.getElem?_map, h]
  rfl
def RdO9 (w : World) (v : Value) (l : List Op) : Prop := ∃ os : List (Op × Value × Value), os.map (·.1) = l ∧ RdRow 4 w v os.length (ocells9 os) ∧ (∀ x ∈ os, OpOk w x.1 x.2.1 x.2.2)
theorem RdO9.open {w : World} {v : Value} {l : List Op} (h : RdO9 w v l) : ∃ a cap, v = .slice a l.length cap ∧ l.length ≤ cap ∧ cap ≤ 9223372036854775807 ∧
    ∀ (i : Nat) (o : Op), l[i]? = some o → ∃ b q pv kv, a = some ⟨b, q, none⟩ ∧ OpOk w o pv kv ∧ w.cell? ⟨b, q + i * 4, none⟩ = some (.int .i64 o.kind) ∧ w.cell? ⟨b, q + i * 4 + 1, none⟩ = some pv ∧ w.cell? ⟨b, q + i * 4 + 2, none⟩ = some (.int .i64 o.n) ∧ w.cell? ⟨b, q + i * 4 + 3, none⟩ = some kv := by
  obtain ⟨os, rfl, ⟨_, a, cap, rfl, h1, h2, _, h5⟩, hok⟩ := h
  refine ⟨a, cap, by rw [List.length_map], by rw [List.length_map]; exact h1, h2, fun i o hi => ?_⟩
  rw [List.getElem?_map] at hi
  cases hx : os[i]? with
  | none => rw [hx] at hi; cases hi
  | some x =>
    rw [hx] at hi
    obtain rfl : x.1 = o := by simpa using hi
    obtain ⟨b, q, rfl, e0⟩ := h5 _ _ ((ocells9_get os i 0 x hx (by omega)).trans rfl)
    obtain ⟨b', q', e, e1⟩ := h5 _ _ ((ocells9_get os i 1 x hx (by omega)).trans rfl)
    cases e
    obtain ⟨b', q', e, e2⟩ := h5 _ _ ((ocells9_get os i 2 x hx (by omega)).trans rfl)
    cases e
    obtain ⟨b', q', e, e3⟩ := h5 _ _ ((ocells9_get os i 3 x hx (by omega)).trans rfl)
    cases e
    exact ⟨b, q, _, _, rfl, hok x (List.mem_of_getElem? hx), e0, by rw [Nat.add_assoc]; exact e1, by rw [Nat.add_assoc]; exact e2, by rw [Nat.add_assoc]; exact e3⟩
section
variable {H : Type} {enc : TypeId × Value → H}
theorem open_rdzb {w : World} {fuel : Nat} {c : Value} {y : DataW H × List MemPlace} (hf : DataW.trod enc Try.prog w 0 (fun _ => true) true fuel 36 [c] = some y) : ∃ l : List Int, RdZ w c l ∧ l.length ≤ Rows.uptoBulk y.1 := by
  obtain ⟨v, css, xs, hv, hrow, hcs, hlen, hall, hd⟩ := open_row Try.underlying36 (by rw [cells3]; omega) hf
  injection hv with hv
  subst hv
  rw [cells3] at hcs hrow
  obtain ⟨T, h1, h2⟩ := open_z_list css xs hlen hall hcs
  rw [← h1, h2] at hrow
  refine ⟨T, hrow, ?_⟩
  rcases hd with ⟨_, e⟩ | ⟨spare, e⟩
  · rw [h1, e]
    exact Nat.zero_le _
  · rw [e]
    have := bulks.slice_le (xs.map (·.1)) spare
    rw [List.length_map] at this
    omega
theorem bulk_agg (l : List (DataW H)) : Rows.uptoBulkAll l ≤ Rows.uptoBulk (.agg l) := by
  simp [Rows.uptoBulk]
theorem open_op1b {w : World} {n : Nat} {c : List Value} {y : DataW H × List MemPlace} (h : DataW.trod enc Try.prog w 0 (fun _ => true) true n 46 c = some y) :
    ∃ (o : Op) (pv kv : Value), c = o.vals pv kv ∧ OpOk w o pv kv ∧ o.keep.length ≤ Rows.uptoBulk y.1 := by
  obtain ⟨y0, y1, y2, y3, m, hy, hl, h0, h1, h2, h3⟩ := Joins.trod_struct4 Try.underlying46 h
  have hc : Try.prog.cellsOf 46 = 4 := by kernel_rfl
  have hc28 : Try.prog.cellsOf 22 = 1 := by kernel_rfl
  have hc29 : Try.prog.cellsOf 36 = 1 := by kernel_rfl
  rw [hc] at hl
  match c, hl with
  | [c0, c1, c2, c3], _ =>
    simp only [cells3, hc28, hc29] at h0 h1 h2 h3
    have h0' : DataW.trod enc Try.prog w 0 (fun _ => true) true m 3 [c0] = some y0 := h0
    have h1' : DataW.trod enc Try.prog w 0 (fun _ => true) true m 3 [c1] = some y1 := h1
    have h2' : DataW.trod enc Try.prog w 0 (fun _ => true) true m 22 [c2] = some y2 := h2
    have h3' : DataW.trod enc Try.prog w 0 (fun _ => true) true m 36 [c3] = some y3 := h3
    obtain ⟨k0, e0, -, g0⟩ := DataW.trod_int Try.underlying3 h0'
    obtain ⟨k1, e1, -, g1⟩ := DataW.trod_int Try.underlying3 h1'
    obtain ⟨bv, l, e2, hr, -⟩ := open_rd8' Try.underlying22 Try.underlying5 cells5 h2'
    obtain ⟨z, hz, hzl⟩ := open_rdzb h3'
    cases e0
    cases e1
    cases e2
    refine ⟨⟨k0, k1, l, z⟩, _, _, rfl, ⟨hr, hz, i64_wf g0, i64_wf g1⟩, ?_⟩
    have hle := bulk_agg [y0.1, y1.1, y2.1, y3.1]
    have hpart := bulks.part_le (d := y3.1) (l := [y0.1, y1.1, y2.1, y3.1]) (by simp)
    rw [hy]
    show z.length ≤ Rows.uptoBulk (DataW.agg [y0.1, y1.1, y2.1, y3.1])
    omega
theorem open_op9b {w : World} {n : Nat} {c : List Value} {y : DataW H × List MemPlace} (h : DataW.trod enc Try.prog w 0 (fun _ => true) true n 38 c = some y) :
    ∃ (o : Op) (pv kv : Value), c = o.vals9 pv kv ∧ OpOk w o pv kv ∧ o.keep.length ≤ Rows.uptoBulk y.1 := by
  obtain ⟨y0, y1, y2, y3, m, hy, hl, h0, h1, h2, h3⟩ := Joins.trod_struct4 Try.underlying38 h
  have hc : Try.prog.cellsOf 38 = 4 := by kernel_rfl
  have hc28 : Try.prog.cellsOf 22 = 1 := by kernel_rfl
  have hc29 : Try.prog.cellsOf 36 = 1 := by kernel_rfl
  rw [hc] at hl
  match c, hl with
  | [c0, c1, c2, c3], _ =>
    simp only [cells3, hc28, hc29] at h0 h1 h2 h3
    have h0' : DataW.trod enc Try.prog w 0 (fun _ => true) true m 3 [c0] = some y0 := h0
    have h1' : DataW.trod enc Try.prog w 0 (fun _ => true) true m 22 [c1] = some y1 := h1
    have h2' : DataW.trod enc Try.prog w 0 (fun _ => true) true m 3 [c2] = some y2 := h2
    have h3' : DataW.trod enc Try.prog w 0 (fun _ => true) true m 36 [c3] = some y3 := h3
    obtain ⟨k0, e0, -, g0⟩ := DataW.trod_int Try.underlying3 h0'
    obtain ⟨bv, l, e2, hr, -⟩ := open_rd8' Try.underlying22 Try.underlying5 cells5 h1'
    obtain ⟨k1, e1, -, g1⟩ := DataW.trod_int Try.underlying3 h2'
    obtain ⟨z, hz, hzl⟩ := open_rdzb h3'
    cases e0
    cases e1
    cases e2
    refine ⟨⟨k0, k1, l, z⟩, _, _, rfl, ⟨hr, hz, i64_wf g0, i64_wf g1⟩, ?_⟩
    have hle := bulk_agg [y0.1, y1.1, y2.1, y3.1]
    have hpart := bulks.part_le (d := y3.1) (l := [y0.1, y1.1, y2.1, y3.1]) (by simp)
    rw [hy]
    show z.length ≤ Rows.uptoBulk (DataW.agg [y0.1, y1.1, y2.1, y3.1])
    omega
theorem open_op_listb {w : World} : ∀ (css : List (List Value)) (xs : List (DataW H × List MemPlace)), xs.length = css.length →
    (∀ (i : Nat) (c : List Value) (y : DataW H × List MemPlace), css[i]? = some c → xs[i]? = some y → ∃ n, DataW.trod enc Try.prog w 0 (fun _ => true) true n 46 c = some y) →
    ∃ T : List (Op × Value × Value), T.length = css.length ∧ css.flatten = ocells T ∧ ∀ x ∈ T, OpOk w x.1 x.2.1 x.2.2 ∧ x.1.keep.length ≤ Rows.uptoBulkAll (xs.map (·.1))
  | [], _, _, _ => ⟨[], rfl, rfl, by simp⟩
  | c :: css, [], h, _ => by simp at h
  | c :: css, y :: xs, h, hall => by
    obtain ⟨T, h1, h2, h3⟩ := open_op_listb css xs (by simpa using h) (fun i c y hc hy => hall (i + 1) c y (by simpa using hc) (by simpa using hy))
    obtain ⟨n, hn⟩ := hall 0 c y rfl rfl
    obtain ⟨o, pv, kv, hx, hok, hkl⟩ := open_op1b hn
    have e : Rows.uptoBulkAll ((y :: xs).map (·.1)) = Rows.uptoBulk y.1 + Rows.uptoBulkAll (xs.map (·.1)) := rfl
    refine ⟨(o, pv, kv) :: T, by simp [h1], by rw [List.flatten_cons, h2, hx]; rfl, fun z hz => ?_⟩
    rw [e]
    rcases List.mem_cons.1 hz with rfl | hz
    · exact ⟨hok, by show o.keep.length ≤ _; omega⟩
    · exact ⟨(h3 z hz).1, by have := (h3 z hz).2; omega⟩
theorem open_op_list9 {w : World} : ∀ (css : List (List Value)) (xs : List (DataW H × List MemPlace)), xs.length = css.length →
    (∀ (i : Nat) (c : List Value) (y : DataW H × List MemPlace), css[i]? = some c → xs[i]? = some y → ∃ n, DataW.trod enc Try.prog w 0 (fun _ => true) true n 38 c = some y) →
    ∃ T : List (Op × Value × Value), T.length = css.length ∧ css.flatten = ocells9 T ∧ ∀ x ∈ T, OpOk w x.1 x.2.1 x.2.2 ∧ x.1.keep.length ≤ Rows.uptoBulkAll (xs.map (·.1))
  | [], _, _, _ => ⟨[], rfl, rfl, by simp⟩
  | c :: css, [], h, _ => by simp at h
  | c :: css, y :: xs, h, hall => by
    obtain ⟨T, h1, h2, h3⟩ := open_op_list9 css xs (by simpa using h) (fun i c y hc hy => hall (i + 1) c y (by simpa using hc) (by simpa using hy))
    obtain ⟨n, hn⟩ := hall 0 c y rfl rfl
    obtain ⟨o, pv, kv, hx, hok, hkl⟩ := open_op9b hn
    have e : Rows.uptoBulkAll ((y :: xs).map (·.1)) = Rows.uptoBulk y.1 + Rows.uptoBulkAll (xs.map (·.1)) := rfl
    refine ⟨(o, pv, kv) :: T, by simp [h1], by rw [List.flatten_cons, h2, hx]; rfl, fun z hz => ?_⟩
    rw [e]
    rcases List.mem_cons.1 hz with rfl | hz
    · exact ⟨hok, by show o.keep.length ≤ _; omega⟩
    · exact ⟨(h3 z hz).1, by have := (h3 z hz).2; omega⟩
theorem open_opsb {w : World} {base : Nat} {v : Value} {d : DataW H} {ps : List MemPlace} (hval : Value.okWide Try.prog w .any base 41 v) (h : DataW.Trod enc Try.prog w 0 (fun _ => true) true 41 v d ps) :
    ∃ l : List Op, RdO w v l ∧ ∀ o ∈ l, o.keep.length ≤ Rows.uptoBulk d := by
  obtain ⟨a0, len0, cap0, rfl⟩ := okWide_slice Try.underlying41 hval
  obtain ⟨fuel, hf⟩ := h
  have hc : Try.prog.cellsOf 46 = 4 := by kernel_rfl
  obtain ⟨v, css, xs, hv, hrow, hcs, hlen, hall, hd⟩ := open_row Try.underlying41 (by rw [hc]; omega) hf
  simp [Value.cells] at hv
  subst hv
  obtain ⟨T, h1, h2, h3⟩ := open_op_listb css xs hlen hall
  rw [hc, ← h1, h2] at hrow
  refine ⟨T.map (·.1), ⟨T, rfl, hrow, fun x hx => (h3 x hx).1⟩, fun o ho => ?_⟩
  obtain ⟨x, hx, rfl⟩ := List.mem_map.1 ho
  have hle := (h3 x hx).2
  rcases hd with ⟨_, e⟩ | ⟨spare, e⟩
  · rw [e] at h1
    rw [List.eq_nil_of_length_eq_zero h1] at hx
    cases hx
  · have e' : d = .slice (xs.map (·.1)) spare := e
    rw [e']
    have := bulks.slice_elems (xs.map (·.1)) spare
    omega
theorem open_ops9 {w : World} {base : Nat} {v : Value} {d : DataW H} {ps : List MemPlace} (hval : Value.okWide Try.prog w .any base 35 v) (h : DataW.Trod enc Try.prog w 0 (fun _ => true) true 35 v d ps) :
    ∃ l : List Op, RdO9 w v l ∧ ∀ o ∈ l, o.keep.length ≤ Rows.uptoBulk d := by
  obtain ⟨a0, len0, cap0, rfl⟩ := okWide_slice Try.underlying35 hval
  obtain ⟨fuel, hf⟩ := h
  have hc : Try.prog.cellsOf 38 = 4 := by kernel_rfl
  obtain ⟨v, css, xs, hv, hrow, hcs, hlen, hall, hd⟩ := open_row Try.underlying35 (by rw [hc]; omega) hf
  simp [Value.cells] at hv
  subst hv
  obtain ⟨T, h1, h2, h3⟩ := open_op_list9 css xs hlen hall
  rw [hc, ← h1, h2] at hrow
  refine ⟨T.map (·.1), ⟨T, rfl, hrow, fun x hx => (h3 x hx).1⟩, fun o ho => ?_⟩
  obtain ⟨x, hx, rfl⟩ := List.mem_map.1 ho
  have hle := (h3 x hx).2
  rcases hd with ⟨_, e⟩ | ⟨spare, e⟩
  · rw [e] at h1
    rw [List.eq_nil_of_length_eq_zero h1] at hx
    cases hx
  · have e' : d = .slice (xs.map (·.1)) spare := e
    rw [e']
    have := bulks.slice_elems (xs.map (·.1)) spare
    omega
end
end Go.Proofs.Ytokmiphgalpahaa
