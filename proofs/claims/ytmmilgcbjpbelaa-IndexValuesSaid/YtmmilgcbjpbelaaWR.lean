/- What slices of sets, of rules that came in read as; no more than memory holds. -/
import Derived.Test.YtmmilgcbjpbelaaWC
import Derived.Test.YtmmilgcbjpbelaaWQ
import Derived.HandedShaped
import Derived.Shelf.Vars
import Derived.Deep.SlicePairs
namespace Go.Proofs.Ytmmilgcbjpbelaa
open Go.RowKit Go.Kt Go.Ix Go.ChangeShapes Go.WideShapes

section
set_option maxRecDepth 8000
variable {H : Type} {enc : TypeId × Value → H}
theorem bytes112 : Try.prog.bytesOf 112 = 32 := by kernel_rfl
/-- all that a datum says lies in memory -/
def Small (t : TypeId) (d : DataW H) : Prop := ∀ n ∈ d.weights Try.prog t, n ≤ reachBytes
theorem small_of {ts : List TypeId} {ds : List (DataW H)} (h : (DataW.weightsEach Try.prog ts ds).all (· ≤ reachBytes) = true) {j : Nat} {t : TypeId} {d : DataW H} (ht : ts[j]? = some t) (hd : ds[j]? = some d) : Small t d := by
  intro n hn
  have := List.all_eq_true.1 h n (DataW.weights_mem_each ht hd n hn)
  simpa using this
theorem weightsAll_mem {e : TypeId} : ∀ {l : List (DataW H)} {d : DataW H}, d ∈ l → ∀ n ∈ d.weights Try.prog e, n ∈ DataW.weightsAll Try.prog e l
  | [], _, h, _, _ => by cases h
  | x :: l, d, h, n, hn => by
    simp only [DataW.weightsAll, List.mem_append]
    rcases List.mem_cons.1 h with rfl | h
    · exact .inl hn
    · exact .inr (weightsAll_mem h n hn)
theorem small_elem {t e : TypeId} {elems spare : List (DataW H)} (hu : Try.prog.underlying t = some (.slice e)) (h : Small t (.slice elems spare)) {d : DataW H} (hd : d ∈ elems) : Small e d := by
  intro n hn
  refine h n ?_
  simp only [DataW.weights, hu, List.mem_cons, List.mem_append]
  exact .inr (.inl (weightsAll_mem hd n hn))
theorem small_len {t e : TypeId} {elems spare : List (DataW H)} (hu : Try.prog.underlying t = some (.slice e)) (h : Small t (.slice elems spare)) : (elems.length + spare.length) * Try.prog.bytesOf e ≤ reachBytes := by
  refine h _ ?_
  simp only [DataW.weights, hu, List.mem_cons]
  exact .inl trivial

/-- a slice of labels that came in -/
theorem open_pairs2 {w : World} {fuel : Nat} {c : Value} {y : DataW H × List MemPlace} (hf : DataW.trod enc Try.prog w 0 (fun _ => true) true fuel 62 [c] = some y) (hs : Small 62 y.1) : ∃ l : List Pr, RdP w c l ∧ Fit l ∧ l.length ≤ 4398046511104 := by
  obtain ⟨v, css, xs, hv, hrow, hcs, hlen, hall, hd⟩ := open_row Try.underlying62 (by rw [cells112]; omega) hf
  injection hv with hv
  subst hv
  rw [cells112] at hcs hrow
  obtain ⟨T, h1, h2, h3, h4⟩ := open_pair_list css xs hlen hall
  rw [← h1, h2] at hrow
  refine ⟨T, hrow, h4, ?_⟩
  rcases hd with ⟨_, e⟩ | ⟨spare, e⟩
  · rw [e] at h1
    rw [List.eq_nil_of_length_eq_zero h1]
    exact Nat.zero_le _
  · rw [e] at hs
    have := small_len Try.underlying62 hs
    rw [bytes112, List.length_map] at this
    unfold reachBytes at this
    omega
theorem open_set_list {w : World} : ∀ (css : List (List Value)) (xs : List (DataW H × List MemPlace)), (∀ c ∈ css, c.length = 1) → xs.length = css.length →
    (∀ (i : Nat) (c : List Value) (y : DataW H × List MemPlace), css[i]? = some c → xs[i]? = some y → (∃ n, DataW.trod enc Try.prog w 0 (fun _ => true) true n 62 c = some y) ∧ Small 62 y.1) →
    ∃ (us : List Value) (SS : List (List Pr)), us.length = css.length ∧ SS.length = css.length ∧ css.flatten = us ∧ ∀ (i : Nat) u d, us[i]? = some u → SS[i]? = some d → RdP w u d ∧ Fit d ∧ d.length ≤ 4398046511104
  | [], _, _, _, _ => ⟨[], [], rfl, rfl, rfl, fun i u d h => by simp at h⟩
  | c :: css, [], _, h, _ => by simp at h
  | c :: css, y :: xs, hc, h, hall => by
    obtain ⟨us, SS, h1, h2, h3, h4⟩ := open_set_list css xs (fun c h => hc c (by simp [h])) (by simpa using h) (fun i c y hc hy => hall (i + 1) c y (by simpa using hc) (by simpa using hy))
    obtain ⟨⟨n, hn⟩, hs⟩ := hall 0 c y rfl rfl
    have hc1 := hc c (by simp)
    match c, hc1 with
    | [u], _ =>
      obtain ⟨l, g1, g2, g3⟩ := open_pairs2 hn hs
      refine ⟨u :: us, l :: SS, by simp [h1], by simp [h2], by rw [List.flatten_cons, h3]; rfl, fun i v d hv hd => ?_⟩
      match i with
      | 0 =>
        simp at hv hd
        subst hv; subst hd
        exact ⟨g1, g2, g3⟩
      | i + 1 => exact h4 i v d (by simpa using hv) (by simpa using hd)
theorem cells62' : Try.prog.cellsOf 62 = 1 := by kernel_rfl
/-- a slice of sets that came in -/
theorem open_sets {w : World} {base : Nat} {v : Value} {d : DataW H} {ps : List MemPlace} (hval : Value.okWide Try.prog w .any base 44 v) (h : DataW.Trod enc Try.prog w 0 (fun _ => true) true 44 v d ps) (hs : Small 44 d) :
    ∃ SS : List (List Pr), RdSets w v SS ∧ ∀ d ∈ SS, Fit d ∧ d.length ≤ 4398046511104 := by
  obtain ⟨a0, len0, cap0, rfl⟩ := okWide_slice Try.underlying44 hval
  obtain ⟨fuel, hf⟩ := h
  obtain ⟨v, css, xs, hv, hrow, hcs, hlen, hall, hd⟩ := open_row Try.underlying44 (by rw [cells62']; omega) hf
  simp [Value.cells] at hv
  subst hv
  rw [cells62'] at hcs hrow
  have hsm : ∀ (i : Nat) (y : DataW H × List MemPlace), i < css.length → xs[i]? = some y → Small 62 y.1 := by
    intro i y hi hy
    rcases hd with ⟨_, e⟩ | ⟨spare, e⟩
    · rw [e] at hi; simp at hi
    · have e' : d = .slice (xs.map (·.1)) spare := e
      rw [e'] at hs
      exact small_elem Try.underlying44 hs (List.mem_map_of_mem (List.mem_of_getElem? hy))
  obtain ⟨us, SS, h1, h2, h3, h4⟩ := open_set_list css xs hcs hlen (fun i c y hc hy => ⟨hall i c y hc hy, hsm i y (List.getElem?_eq_some_iff.1 hc).1 hy⟩)
  rw [h3, ← h2] at hrow
  refine ⟨SS, ⟨us, by rw [h1, h2], hrow, fun i u d hu hd => (h4 i u d hu hd).1⟩, fun d hd => ?_⟩
  obtain ⟨i, hi⟩ := List.mem_iff_getElem?.1 hd
  have hlt := (List.getElem?_eq_some_iff.1 hi).1
  exact (h4 i (us[i]'(by omega)) d (List.getElem?_eq_getElem _) hi).2

theorem cells96 : Try.prog.cellsOf 96 = 3 := by kernel_rfl
theorem open_rule1 {w : World} {n : Nat} {c : List Value} {y : DataW H × List MemPlace} (h : DataW.trod enc Try.prog w 0 (fun _ => true) true n 96 c = some y) :
    ∃ r : Rl, c = [.string r.n, .int .i64 r.op, .string r.v] ∧ r.n.size ≤ maxLen ∧ r.v.size ≤ maxLen := by
  obtain ⟨y0, y1, y2, m, -, hl, h0, h1, h2⟩ := Deep.trod_struct3 Try.underlying96 h
  rw [cells96] at hl
  match c, hl with
  | [c0, c1, c2], _ =>
    simp only [cells9, cells3] at h0 h1 h2
    have h0' : DataW.trod enc Try.prog w 0 (fun _ => true) true m 9 [c0] = some y0 := h0
    have h1' : DataW.trod enc Try.prog w 0 (fun _ => true) true m 3 [c1] = some y1 := h1
    have h2' : DataW.trod enc Try.prog w 0 (fun _ => true) true m 9 [c2] = some y2 := h2
    obtain ⟨k0, e0, -, g0⟩ := DataW.trod_string Try.underlying9 h0'
    obtain ⟨k1, e1, -, -⟩ := DataW.trod_int Try.underlying3 h1'
    obtain ⟨k2, e2, -, g2⟩ := DataW.trod_string Try.underlying9 h2'
    cases e0
    cases e1
    cases e2
    exact ⟨⟨k0, k1, k2⟩, rfl, g0, g2⟩
theorem open_rule_list {w : World} : ∀ (css : List (List Value)) (xs : List (DataW H × List MemPlace)), xs.length = css.length →
    (∀ (i : Nat) (c : List Value) (y : DataW H × List MemPlace), css[i]? = some c → xs[i]? = some y → ∃ n, DataW.trod enc Try.prog w 0 (fun _ => true) true n 96 c = some y) →
    ∃ T : List Rl, T.length = css.length ∧ css.flatten = flatR T ∧ FitR T
  | [], _, _, _ => ⟨[], rfl, rfl, by intro p hp; cases hp⟩
  | c :: css, [], h, _ => by simp at h
  | c :: css, y :: xs, h, hall => by
    obtain ⟨T, h1, h2, h3⟩ := open_rule_list css xs (by simpa using h) (fun i c y hc hy => hall (i + 1) c y (by simpa using hc) (by simpa using hy))
    obtain ⟨n, hn⟩ := hall 0 c y rfl rfl
    obtain ⟨p, hx, g0, g1⟩ := open_rule1 hn
    refine ⟨p :: T, by simp [h1], by rw [List.flatten_cons, h2, hx]; rfl, fun q hq => ?_⟩
    rcases List.mem_cons.1 hq with rfl | hq
    · exact ⟨g0, g1⟩
    · exact h3 q hq
/-- a slice of rules that came in -/
theorem open_rules {w : World} {base : Nat} {v : Value} {d : DataW H} {ps : List MemPlace} (hval : Value.okWide Try.prog w .any base 45 v) (h : DataW.Trod enc Try.prog w 0 (fun _ => true) true 45 v d ps) : ∃ l : List Rl, RdR w v l ∧ FitR l := by
  obtain ⟨a0, len0, cap0, rfl⟩ := okWide_slice Try.underlying45 hval
  obtain ⟨fuel, hf⟩ := h
  obtain ⟨v, css, xs, hv, hrow, hcs, hlen, hall, hd⟩ := open_row Try.underlying45 (by rw [cells96]; omega) hf
  simp [Value.cells] at hv
  subst hv
  rw [cells96] at hcs hrow
  obtain ⟨T, h1, h2, h3⟩ := open_rule_list css xs hlen hall
  rw [← h1, h2] at hrow
  exact ⟨T, hrow, h3⟩
/-- one set that came in -/
theorem open_pairs3 {w : World} {base : Nat} {v : Value} {d : DataW H} {ps : List MemPlace} (hval : Value.okWide Try.prog w .any base 62 v) (h : DataW.Trod enc Try.prog w 0 (fun _ => true) true 62 v d ps) (hs : Small 62 d) : ∃ l : List Pr, RdP w v l ∧ Fit l ∧ l.length ≤ 4398046511104 := by
  obtain ⟨a0, len0, cap0, rfl⟩ := okWide_slice Try.underlying62 hval
  obtain ⟨fuel, hf⟩ := h
  have hf' : DataW.trod enc Try.prog w 0 (fun _ => true) true fuel 62 [.slice a0 len0 cap0] = some (d, ps) := by simpa [Value.cells] using hf
  exact open_pairs2 hf' hs
/-- the library's variable holds some number -/
theorem glob_of {w : World} (h : w.ShapedOpen Try.prog) : Glob w := by
  have := cell_of_shapedOpen_int (g := 0) (t := 3) (zero := #[.int .i64 0]) h (of_decide_eq_true (by kernel_rfl)) (by kernel_rfl) rfl (by kernel_rfl) (by kernel_rfl) Try.underlying3
  exact this
end
end Go.Proofs.Ytmmilgcbjpbelaa
