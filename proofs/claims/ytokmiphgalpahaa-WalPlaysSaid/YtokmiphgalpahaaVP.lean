/- What slices of steps that came in read as; their rows of numbers are no longer than memory holds. -/
import Derived.Test.YtokmiphgalpahaaVI
import Derived.HandedShaped
namespace Go.Proofs.Ytokmiphgalpahaa
open Go.RowKit Go.Kt Go.ChangeShapes Go.WideShapes
section
set_option maxRecDepth 8000
variable {H : Type} {enc : TypeId × Value → H}
theorem bytes3 : Try.prog.bytesOf 3 = 8 := by kernel_rfl
/-- all that a datum says lies in memory -/
def Small (t : TypeId) (d : DataW H) : Prop := ∀ n ∈ d.weights Try.prog t, n ≤ reachBytes
theorem small_of {ts : List TypeId} {ds : List (DataW H)} (h : (DataW.weightsEach Try.prog ts ds).all (· ≤ reachBytes) = true) {j : Nat} {t : TypeId} {d : DataW H} (ht : ts[j]? = some t) (hd : ds[j]? = some d) : Small t d := by
  intro n hn
  have := List.all_eq_true.1 h n (DataW.weights_mem_each ht hd n hn)
  simpa using this
theorem weightsAll_mem {e : TypeId} : ∀ {l : List (DataW H)} {d : DataW H}, d ∈ l → ∀ n ∈ d.weights Try.prog e, n ∈ DataW.weightsAll Try.prog e l
  | [], _, h, _, _ => by cases h
  | x :: l, d, h, n, hn => by
    simp only [DataW.weightsAll, List.mem_append]
    rcases List.mem_cons.1 h with rfl | h
    · exact .inl hn
    · exact .inr (weightsAll_mem h n hn)
theorem small_elem {t e : TypeId} {elems spare : List (DataW H)} (hu : Try.prog.underlying t = some (.slice e)) (h : Small t (.slice elems spare)) {d : DataW H} (hd : d ∈ elems) : Small e d := by
  intro n hn
  refine h n ?_
  simp only [DataW.weights, hu, List.mem_cons, List.mem_append]
  exact .inr (.inl (weightsAll_mem hd n hn))
theorem small_len {t e : TypeId} {elems spare : List (DataW H)} (hu : Try.prog.underlying t = some (.slice e)) (h : Small t (.slice elems spare)) : (elems.length + spare.length) * Try.prog.bytesOf e ≤ reachBytes := by
  refine h _ ?_
  simp only [DataW.weights, hu, List.mem_cons]
  exact .inl trivial
/-- the fourth of a struct's fields -/
theorem small_fourth {t : TypeId} {f0 f1 f2 f3 : Field} {d0 d1 d2 d3 : DataW H} (hu : Try.prog.underlying t = some (.struct #[f0, f1, f2, f3])) (h : Small t (.agg [d0, d1, d2, d3])) : Small f3.type d3 := by
  intro n hn
  refine h n ?_
  simp only [DataW.weights, hu, List.map_cons, List.map_nil, DataW.weightsEach, List.mem_append]
  exact .inr (.inr (.inr (.inl hn)))
theorem open_rdzs {w : World} {fuel : Nat} {c : Value} {y : DataW H × List MemPlace} (hf : DataW.trod enc Try.prog w 0 (fun _ => true) true fuel 36 [c] = some y) (hs : Small 36 y.1) : ∃ l : List Int, RdZ w c l ∧ l.length * 8 ≤ 140737488355328 := by
  obtain ⟨v, css, xs, hv, hrow, hcs, hlen, hall, hd⟩ := open_row Try.underlying36 (by rw [cells3]; omega) hf
  injection hv with hv
  subst hv
  rw [cells3] at hcs hrow
  obtain ⟨T, h1, h2⟩ := open_z_list css xs hlen hall hcs
  rw [← h1, h2] at hrow
  refine ⟨T, hrow, ?_⟩
  rcases hd with ⟨_, e⟩ | ⟨spare, e⟩
  · rw [e] at h1
    rw [List.eq_nil_of_length_eq_zero h1]
    exact Nat.zero_le _
  · rw [e] at hs
    have := small_len Try.underlying36 hs
    rw [bytes3, List.length_map] at this
    unfold reachBytes at this
    omega
theorem open_op7s {w : World} {n : Nat} {c : List Value} {y : DataW H × List MemPlace} (h : DataW.trod enc Try.prog w 0 (fun _ => true) true n 46 c = some y) (hs : Small 46 y.1) :
    ∃ (o : Op) (pv kv : Value), c = o.vals pv kv ∧ OpOk w o pv kv ∧ o.keep.length * 8 ≤ 140737488355328 := by
  obtain ⟨y0, y1, y2, y3, m, hy, hl, h0, h1, h2, h3⟩ := Joins.trod_struct4 Try.underlying46 h
  rw [hy] at hs
  have hs3 : Small 36 y3.1 := small_fourth Try.underlying46 hs
  have hc : Try.prog.cellsOf 46 = 4 := by kernel_rfl
  have hc28 : Try.prog.cellsOf 22 = 1 := by kernel_rfl
  have hc29 : Try.prog.cellsOf 36 = 1 := by kernel_rfl
  rw [hc] at hl
  match c, hl with
  | [c0, c1, c2, c3], _ =>
    simp only [cells3, hc28, hc29] at h0 h1 h2 h3
    have h0' : DataW.trod enc Try.prog w 0 (fun _ => true) true m 3 [c0] = some y0 := h0
    have h1' : DataW.trod enc Try.prog w 0 (fun _ => true) true m 3 [c1] = some y1 := h1
    have h2' : DataW.trod enc Try.prog w 0 (fun _ => true) true m 22 [c2] = some y2 := h2
    have h3' : DataW.trod enc Try.prog w 0 (fun _ => true) true m 36 [c3] = some y3 := h3
    obtain ⟨k0, e0, -, g0⟩ := DataW.trod_int Try.underlying3 h0'
    obtain ⟨k1, e1, -, g1⟩ := DataW.trod_int Try.underlying3 h1'
    obtain ⟨bv, l, e2, hr, -⟩ := open_rd8' Try.underlying22 Try.underlying5 cells5 h2'
    obtain ⟨z, hz, hzl⟩ := open_rdzs h3' hs3
    cases e0
    cases e1
    cases e2
    exact ⟨⟨k0, k1, l, z⟩, _, _, rfl, ⟨hr, hz, i64_wf g0, i64_wf g1⟩, hzl⟩
theorem open_op9s {w : World} {n : Nat} {c : List Value} {y : DataW H × List MemPlace} (h : DataW.trod enc Try.prog w 0 (fun _ => true) true n 38 c = some y) (hs : Small 38 y.1) :
    ∃ (o : Op) (pv kv : Value), c = o.vals9 pv kv ∧ OpOk w o pv kv ∧ o.keep.length * 8 ≤ 140737488355328 := by
  obtain ⟨y0, y1, y2, y3, m, hy, hl, h0, h1, h2, h3⟩ := Joins.trod_struct4 Try.underlying38 h
  rw [hy] at hs
  have hs3 : Small 36 y3.1 := small_fourth Try.underlying38 hs
  have hc : Try.prog.cellsOf 38 = 4 := by kernel_rfl
  have hc28 : Try.prog.cellsOf 22 = 1 := by kernel_rfl
  have hc29 : Try.prog.cellsOf 36 = 1 := by kernel_rfl
  rw [hc] at hl
  match c, hl with
  | [c0, c1, c2, c3], _ =>
    simp only [cells3, hc28, hc29] at h0 h1 h2 h3
    have h0' : DataW.trod enc Try.prog w 0 (fun _ => true) true m 3 [c0] = some y0 := h0
    have h1' : DataW.trod enc Try.prog w 0 (fun _ => true) true m 22 [c1] = some y1 := h1
    have h2' : DataW.trod enc Try.prog w 0 (fun _ => true) true m 3 [c2] = some y2 := h2
    have h3' : DataW.trod enc Try.prog w 0 (fun _ => true) true m 36 [c3] = some y3 := h3
    obtain ⟨k0, e0, -, g0⟩ := DataW.trod_int Try.underlying3 h0'
    obtain ⟨bv, l, e2, hr, -⟩ := open_rd8' Try.underlying22 Try.underlying5 cells5 h1'
    obtain ⟨k1, e1, -, g1⟩ := DataW.trod_int Try.underlying3 h2'
    obtain ⟨z, hz, hzl⟩ := open_rdzs h3' hs3
    cases e0
    cases e1
    cases e2
    exact ⟨⟨k0, k1, l, z⟩, _, _, rfl, ⟨hr, hz, i64_wf g0, i64_wf g1⟩, hzl⟩
theorem open_op_lists {t : TypeId} {f : Op → Value → Value → List Value} {w : World} (hone : ∀ (n : Nat) (c : List Value) (y : DataW H × List MemPlace), DataW.trod enc Try.prog w 0 (fun _ => true) true n t c = some y → Small t y.1 → ∃ (o : Op) (pv kv : Value), c = f o pv kv ∧ OpOk w o pv kv ∧ o.keep.length * 8 ≤ 140737488355328) :
    ∀ (css : List (List Value)) (xs : List (DataW H × List MemPlace)), xs.length = css.length →
    (∀ (i : Nat) (c : List Value) (y : DataW H × List MemPlace), css[i]? = some c → xs[i]? = some y → ∃ n, DataW.trod enc Try.prog w 0 (fun _ => true) true n t c = some y) → (∀ y ∈ xs, Small t y.1) →
    ∃ T : List (Op × Value × Value), T.length = css.length ∧ css.flatten = (T.map fun x => f x.1 x.2.1 x.2.2).flatten ∧ ∀ x ∈ T, OpOk w x.1 x.2.1 x.2.2 ∧ x.1.keep.length * 8 ≤ 140737488355328
  | [], _, _, _, _ => ⟨[], rfl, rfl, by simp⟩
  | c :: css, [], h, _, _ => by simp at h
  | c :: css, y :: xs, h, hall, hsm => by
    obtain ⟨T, h1, h2, h3⟩ := open_op_lists hone css xs (by simpa using h) (fun i c y hc hy => hall (i + 1) c y (by simpa using hc) (by simpa using hy)) (fun y hy => hsm y (by simp [hy]))
    obtain ⟨n, hn⟩ := hall 0 c y rfl rfl
    obtain ⟨o, pv, kv, hx, hok, hkl⟩ := hone n c y hn (hsm y (by simp))
    refine ⟨(o, pv, kv) :: T, by simp [h1], by rw [List.flatten_cons, h2, hx]; rfl, fun z hz => ?_⟩
    rcases List.mem_cons.1 hz with rfl | hz
    · exact ⟨hok, hkl⟩
    · exact h3 z hz
theorem open_opss {w : World} {base : Nat} {v : Value} {d : DataW H} {ps : List MemPlace} (hval : Value.okWide Try.prog w .any base 41 v) (h : DataW.Trod enc Try.prog w 0 (fun _ => true) true 41 v d ps) (hs : Small 41 d) :
    ∃ l : List Op, RdO w v l ∧ ∀ o ∈ l, o.keep.length * 8 ≤ 140737488355328 := by
  obtain ⟨a0, len0, cap0, rfl⟩ := okWide_slice Try.underlying41 hval
  obtain ⟨fuel, hf⟩ := h
  have hc : Try.prog.cellsOf 46 = 4 := by kernel_rfl
  obtain ⟨v, css, xs, hv, hrow, hcs, hlen, hall, hd⟩ := open_row Try.underlying41 (by rw [hc]; omega) hf
  simp [Value.cells] at hv
  subst hv
  have hsm : ∀ y ∈ xs, Small 46 y.1 := fun y hy => by
    rcases hd with ⟨_, e⟩ | ⟨spare, e⟩
    · rw [e] at hlen
      rw [List.eq_nil_of_length_eq_zero hlen] at hy
      cases hy
    · have e' : d = .slice (xs.map (·.1)) spare := e
      rw [e'] at hs
      exact small_elem Try.underlying41 hs (List.mem_map.2 ⟨y, hy, rfl⟩)
  obtain ⟨T, h1, h2, h3⟩ := open_op_lists (f := fun o pv kv => o.vals pv kv) (fun n c y hn hy => open_op7s hn hy) css xs hlen hall hsm
  rw [hc, ← h1, h2] at hrow
  refine ⟨T.map (·.1), ⟨T, rfl, hrow, fun x hx => (h3 x hx).1⟩, fun o ho => ?_⟩
  obtain ⟨x, hx, rfl⟩ := List.mem_map.1 ho
  exact (h3 x hx).2
theorem open_ops9s {w : World} {base : Nat} {v : Value} {d : DataW H} {ps : List MemPlace} (hval : Value.okWide Try.prog w .any base 35 v) (h : DataW.Trod enc Try.prog w 0 (fun _ => true) true 35 v d ps) (hs : Small 35 d) :
    ∃ l : List Op, RdO9 w v l ∧ ∀ o ∈ l, o.keep.length * 8 ≤ 140737488355328 := by
  obtain ⟨a0, len0, cap0, rfl⟩ := okWide_slice Try.underlying35 hval
  obtain ⟨fuel, hf⟩ := h
  have hc : Try.prog.cellsOf 38 = 4 := by kernel_rfl
  obtain ⟨v, css, xs, hv, hrow, hcs, hlen, hall, hd⟩ := open_row Try.underlying35 (by rw [hc]; omega) hf
  simp [Value.cells] at hv
  subst hv
  have hsm : ∀ y ∈ xs, Small 38 y.1 := fun y hy => by
    rcases hd with ⟨_, e⟩ | ⟨spare, e⟩
    · rw [e] at hlen
      rw [List.eq_nil_of_length_eq_zero hlen] at hy
      cases hy
    · have e' : d = .slice (xs.map (·.1)) spare := e
      rw [e'] at hs
      exact small_elem Try.underlying35 hs (List.mem_map.2 ⟨y, hy, rfl⟩)
  obtain ⟨T, h1, h2, h3⟩ := open_op_lists (f := fun o pv kv => o.vals9 pv kv) (fun n c y hn hy => open_op9s hn hy) css xs hlen hall hsm
  rw [hc, ← h1, h2] at hrow
  refine ⟨T.map (·.1), ⟨T, rfl, hrow, fun x hx => (h3 x hx).1⟩, fun o ho => ?_⟩
  obtain ⟨x, hx, rfl⟩ := List.mem_map.1 ho
  exact (h3 x hx).2
end
end Go.Proofs.Ytokmiphgalpahaa
