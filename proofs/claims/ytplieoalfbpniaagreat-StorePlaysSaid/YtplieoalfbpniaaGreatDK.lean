/- The opening of a row of steps, with what the rules' texts hold. -/
import Derived.Test.YtplieoalfbpniaaGreatSR
set_option linter.unusedVariables false
set_option linter.unusedSimpArgs false
namespace Go.Proofs.YtplieoalfbpniaaGreat
open Go.RowKit Go.Kt Go.Ix Go.Sx Go.ChangeShapes Go.WideShapes
section
set_option maxRecDepth 8000
variable {H : Type} {enc : TypeId × Value → H}
theorem xopen_rule1 {w : World} {n : Nat} {c : List Value} {y : DataW H × List MemPlace} (h : DataW.trod enc Tryz.prog w 0 (fun _ => true) true n 118 c = some y) :
    ∃ r : Rl, c = [.string r.n, .int .i64 r.op, .string r.v] ∧ r.n.size ≤ maxLen ∧ r.v.size ≤ maxLen := by
  obtain ⟨y0, y1, y2, m, -, hl, h0, h1, h2⟩ := Deep.trod_struct3 Tryz.underlying118 h
  rw [cells118] at hl
  match c, hl with
  | [c0, c1, c2], _ =>
    simp only [cells9, cells3] at h0 h1 h2
    have h0' : DataW.trod enc Tryz.prog w 0 (fun _ => true) true m 9 [c0] = some y0 := h0
    have h1' : DataW.trod enc Tryz.prog w 0 (fun _ => true) true m 3 [c1] = some y1 := h1
    have h2' : DataW.trod enc Tryz.prog w 0 (fun _ => true) true m 9 [c2] = some y2 := h2
    obtain ⟨k0, e0, -, g0⟩ := DataW.trod_string Tryz.underlying9 h0'
    obtain ⟨k1, e1, -, -⟩ := DataW.trod_int Tryz.underlying3 h1'
    obtain ⟨k2, e2, -, g2⟩ := DataW.trod_string Tryz.underlying9 h2'
    cases e0
    cases e1
    cases e2
    exact ⟨⟨k0, k1, k2⟩, rfl, g0, g2⟩
theorem xopen_rule_list {w : World} : ∀ (css : List (List Value)) (xs : List (DataW H × List MemPlace)), xs.length = css.length →
    (∀ (i : Nat) (c : List Value) (y : DataW H × List MemPlace), css[i]? = some c → xs[i]? = some y → ∃ n, DataW.trod enc Tryz.prog w 0 (fun _ => true) true n 118 c = some y) →
    ∃ T : List Rl, T.length = css.length ∧ css.flatten = flatR T ∧ FitR T
  | [], _, _, _ => ⟨[], rfl, rfl, fun r hr => by cases hr⟩
  | c :: css, [], h, _ => by simp at h
  | c :: css, y :: xs, h, hall => by
    obtain ⟨T, h1, h2, h3⟩ := xopen_rule_list css xs (by simpa using h) (fun i c y hc hy => hall (i + 1) c y (by simpa using hc) (by simpa using hy))
    obtain ⟨n, hn⟩ := hall 0 c y rfl rfl
    obtain ⟨p, hx, hp⟩ := xopen_rule1 hn
    exact ⟨p :: T, by simp [h1], by rw [List.flatten_cons, h2, hx]; rfl, fun r hr => by
      rcases List.mem_cons.1 hr with rfl | hr
      · exact hp
      · exact h3 r hr⟩
theorem xopen_rules {w : World} {fuel : Nat} {c : Value} {y : DataW H × List MemPlace} (hf : DataW.trod enc Tryz.prog w 0 (fun _ => true) true fuel 44 [c] = some y) (hs : Small 44 y.1) : ∃ l : List Rl, RdR w c l ∧ l.length ≤ 3518437208883 ∧ FitR l := by
  obtain ⟨v, css, xs, hv, hrow, hcs, hlen, hall, hd⟩ := open_row Tryz.underlying44 (by rw [cells118]; omega) hf
  injection hv with hv
  subst hv
  rw [cells118] at hcs hrow
  obtain ⟨T, h1, h2, h3⟩ := xopen_rule_list css xs hlen hall
  rw [← h1, h2] at hrow
  refine ⟨T, hrow, ?_, h3⟩
  rcases hd with ⟨_, e⟩ | ⟨spare, e⟩
  · rw [e] at h1
    rw [List.eq_nil_of_length_eq_zero h1]
    exact Nat.zero_le _
  · rw [e] at hs
    have := small_len Tryz.underlying44 hs
    rw [bytes118, List.length_map] at this
    unfold reachBytes at this
    omega
theorem xopen_op1 {w : World} {n : Nat} {c : List Value} {y : DataW H × List MemPlace} (h : DataW.trod enc Tryz.prog w 0 (fun _ => true) true n 46 c = some y) (hs : Small 46 y.1) :
    ∃ o : Op, c = ocells o ∧ OpR w o ∧ FitR o.rules := by
  obtain ⟨xs, m, -, hy, hl, hlen, hf⟩ := DataW.trod_struct Tryz.underlying46 h
  rw [cells46] at hl
  obtain ⟨c0, c1, c2, c3, c4, c5, c6, c7, c8, c9, c10, c11, rfl⟩ := list12 hl
  obtain ⟨y0, y1, y2, y3, y4, y5, rfl⟩ := list6 hlen
  have hy' : y.1 = .agg [y0.1, y1.1, y2.1, y3.1, y4.1, y5.1] := by rw [hy]; rfl
  rw [hy'] at hs
  have hs1 : Small 43 y1.1 := small_field Tryz.underlying46 hs (j := 1) rfl rfl
  have hs3 : Small 44 y3.1 := small_field Tryz.underlying46 hs (j := 3) rfl rfl
  have h0 : DataW.trod enc Tryz.prog w 0 (fun _ => true) true m 3 (([c0, c1, c2, c3, c4, c5, c6, c7, c8, c9, c10, c11].drop 0).take (Tryz.prog.cellsOf 3)) = some y0 := by have h := hf 0 _ rfl; exact h
  have h1 : DataW.trod enc Tryz.prog w 0 (fun _ => true) true m 43 (([c0, c1, c2, c3, c4, c5, c6, c7, c8, c9, c10, c11].drop 1).take (Tryz.prog.cellsOf 43)) = some y1 := by have h := hf 1 _ rfl; exact h
  have h2 : DataW.trod enc Tryz.prog w 0 (fun _ => true) true m 25 (([c0, c1, c2, c3, c4, c5, c6, c7, c8, c9, c10, c11].drop 6).take (Tryz.prog.cellsOf 25)) = some y2 := by have h := hf 2 _ rfl; exact h
  have h3 : DataW.trod enc Tryz.prog w 0 (fun _ => true) true m 44 (([c0, c1, c2, c3, c4, c5, c6, c7, c8, c9, c10, c11].drop 9).take (Tryz.prog.cellsOf 44)) = some y3 := by have h := hf 3 _ rfl; exact h
  have h4 : DataW.trod enc Tryz.prog w 0 (fun _ => true) true m 2 (([c0, c1, c2, c3, c4, c5, c6, c7, c8, c9, c10, c11].drop 10).take (Tryz.prog.cellsOf 2)) = some y4 := by have h := hf 4 _ rfl; exact h
  have h5 : DataW.trod enc Tryz.prog w 0 (fun _ => true) true m 2 (([c0, c1, c2, c3, c4, c5, c6, c7, c8, c9, c10, c11].drop 11).take (Tryz.prog.cellsOf 2)) = some y5 := by have h := hf 5 _ rfl; exact h
  rw [cells3] at h0
  rw [cells43] at h1
  rw [cells25] at h2
  rw [cells44] at h3
  rw [cells2] at h4 h5
  have h0' : DataW.trod enc Tryz.prog w 0 (fun _ => true) true m 3 [c0] = some y0 := h0
  have h1' : DataW.trod enc Tryz.prog w 0 (fun _ => true) true m 43 [c1, c2, c3, c4, c5] = some y1 := h1
  have h2' : DataW.trod enc Tryz.prog w 0 (fun _ => true) true m 25 [c6, c7, c8] = some y2 := h2
  have h3' : DataW.trod enc Tryz.prog w 0 (fun _ => true) true m 44 [c9] = some y3 := h3
  have h4' : DataW.trod enc Tryz.prog w 0 (fun _ => true) true m 2 [c10] = some y4 := h4
  have h5' : DataW.trod enc Tryz.prog w 0 (fun _ => true) true m 2 [c11] = some y5 := h5
  obtain ⟨k0, e0, -, -⟩ := DataW.trod_int Tryz.underlying3 h0'
  obtain ⟨m1, e1, g1⟩ := open_write1 h1' hs1
  obtain ⟨t2, e2⟩ := open_st1 h2'
  obtain ⟨r3, g3, g3l, g3f⟩ := xopen_rules h3' hs3
  obtain ⟨k4, e4, -, -⟩ := DataW.trod_int Tryz.underlying2 h4'
  obtain ⟨k5, e5, -, -⟩ := DataW.trod_int Tryz.underlying2 h5'
  cases e0
  unfold wcells at e1
  cases e1
  cases e2
  cases e4
  cases e5
  exact ⟨⟨k0, m1, t2, r3, k4, k5, c9⟩, rfl, ⟨g1.set, g3, g1.fit, g1.len, g1.text, g3l⟩, g3f⟩
theorem xopen_op_list {w : World} : ∀ (css : List (List Value)) (xs : List (DataW H × List MemPlace)), xs.length = css.length →
    (∀ (i : Nat) (c : List Value) (y : DataW H × List MemPlace), css[i]? = some c → xs[i]? = some y → ∃ n, DataW.trod enc Tryz.prog w 0 (fun _ => true) true n 46 c = some y) → (∀ y ∈ xs, Small 46 y.1) →
    ∃ T : List Op, T.length = css.length ∧ css.flatten = flatO T ∧ ∀ o ∈ T, OpR w o ∧ FitR o.rules
  | [], _, _, _, _ => ⟨[], rfl, rfl, by simp⟩
  | c :: css, [], h, _, _ => by simp at h
  | c :: css, y :: xs, h, hall, hsm => by
    obtain ⟨T, h1, h2, h3⟩ := xopen_op_list css xs (by simpa using h) (fun i c y hc hy => hall (i + 1) c y (by simpa using hc) (by simpa using hy)) (fun y hy => hsm y (by simp [hy]))
    obtain ⟨n, hn⟩ := hall 0 c y rfl rfl
    obtain ⟨o, hx, hok⟩ := xopen_op1 hn (hsm y (by simp))
    refine ⟨o :: T, by simp [h1], by rw [List.flatten_cons, h2, hx]; rfl, fun z hz => ?_⟩
    rcases List.mem_cons.1 hz with rfl | hz
    · exact hok
    · exact h3 z hz
theorem xopen_ops {w : World} {base : Nat} {v : Value} {d : DataW H} {ps : List MemPlace} (hval : Value.okWide Tryz.prog w .any base 22 v) (h : DataW.Trod enc Tryz.prog w 0 (fun _ => true) true 22 v d ps) (hs : Small 22 d) :
    ∃ l : List Op, RdO w v l ∧ ∀ o ∈ l, FitR o.rules := by
  obtain ⟨a0, len0, cap0, rfl⟩ := okWide_slice Tryz.underlying22 hval
  obtain ⟨fuel, hf⟩ := h
  obtain ⟨v, css, xs, hv, hrow, hcs, hlen, hall, hd⟩ := open_row Tryz.underlying22 (by rw [cells46]; omega) hf
  simp [Value.cells] at hv
  subst hv
  have hsm : ∀ y ∈ xs, Small 46 y.1 := fun y hy => by
    rcases hd with ⟨_, e⟩ | ⟨spare, e⟩
    · rw [e] at hlen
      rw [List.eq_nil_of_length_eq_zero hlen] at hy
      cases hy
    · have e' : d = .slice (xs.map (·.1)) spare := e
      rw [e'] at hs
      exact small_elem Tryz.underlying22 hs (List.mem_map.2 ⟨y, hy, rfl⟩)
  obtain ⟨T, h1, h2, h3⟩ := xopen_op_list css xs hlen hall hsm
  rw [cells46, ← h1, h2] at hrow
  exact ⟨T, ⟨hrow, fun o ho => (h3 o ho).1⟩, fun o ho => (h3 o ho).2⟩
end
end Go.Proofs.YtplieoalfbpniaaGreat
