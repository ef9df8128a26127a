/- What an Op and a slice of Ops that came in read as. -/
import Derived.Test.YtjeecffhclhbaaaW6
import Derived.Test.YtjeecffhclhbaaaKtL
import Derived.Lib.SmallJoins
namespace Go.Proofs.Ytjeecffhclhbaaa
open Go.RowKit Go.Kt Go.ChangeShapes Go.WideShapes

structure OpS where
  s : ByteArray
  c : Int
  t : Int
structure OpS.ok (x : OpS) : Prop where
  s1 : x.s.size ≤ 9223372036854775807
  c1 : -9223372036854775808 ≤ x.c
  c2 : x.c ≤ 9223372036854775807
  t1 : -9223372036854775808 ≤ x.t
  t2 : x.t ≤ 9223372036854775807
def flat : List OpS → List Value
  | [] => []
  | x :: l => .string x.s :: .int .i64 x.c :: .int .i64 x.t :: flat l
theorem flat_get (T : List OpS) : ∀ (i : Nat) (x : OpS), T[i]? = some x → (flat T)[i * 3]? = some (.string x.s) ∧ (flat T)[i * 3 + 1]? = some (.int .i64 x.c) ∧ (flat T)[i * 3 + 2]? = some (.int .i64 x.t) := by
  induction T with
  | nil => intro i x h; simp at h
  | cons y t ih =>
    intro i x h
    match i with
    | 0 => simp at h; subst h; exact ⟨rfl, rfl, rfl⟩
    | i + 1 =>
      simp only [List.getElem?_cons_succ] at h
      have := ih i x h
      rw [show (i + 1) * 3 = i * 3 + 1 + 1 + 1 by omega]
      exact this
def RdOps (w : World) (v : Value) (l : List OpS) : Prop := RdRow 3 w v l.length (flat l) ∧ ∀ x ∈ l, x.ok
theorem RdOps.below {w w' : World} {v : Value} {l : List OpS} (h : RdOps w v l) (hb : Below w.heap.size w w') : RdOps w' v l := ⟨RdRow.below h.1 hb, h.2⟩
theorem RdOps.open {w : World} {v : Value} {l : List OpS} (h : RdOps w v l) : ∃ a cap, v = .slice a l.length cap ∧ l.length ≤ cap ∧ cap ≤ 9223372036854775807 ∧
    ∀ (i : Nat) (x : OpS), l[i]? = some x → x.ok ∧ ∃ b o, a = some ⟨b, o, none⟩ ∧ w.cell? ⟨b, o + i * 3, none⟩ = some (.string x.s) ∧ w.cell? ⟨b, o + i * 3 + 1, none⟩ = some (.int .i64 x.c) ∧ w.cell? ⟨b, o + i * 3 + 2, none⟩ = some (.int .i64 x.t) := by
  obtain ⟨⟨_, a, cap, rfl, h1, h2, _, h5⟩, hok⟩ := h
  refine ⟨a, cap, rfl, h1, h2, fun i x hi => ⟨hok x (List.mem_of_getElem? hi), ?_⟩⟩
  obtain ⟨c1, c2, c3⟩ := flat_get l i x hi
  obtain ⟨b, o, rfl, hc⟩ := h5 _ _ c1
  obtain ⟨b', o', e, hc'⟩ := h5 _ _ c2
  cases e
  obtain ⟨b', o', e, hc''⟩ := h5 _ _ c3
  cases e
  exact ⟨b, o, rfl, hc, by rw [Nat.add_assoc]; exact hc', by rw [Nat.add_assoc]; exact hc''⟩

section
variable {H : Type} {enc : TypeId × Value → H}
theorem i64_wf {a : Int} (h : (Lit.int .i64 a).wf = true) : -9223372036854775808 ≤ a ∧ a ≤ 9223372036854775807 := by
  simpa [Lit.wf, IntKind.min, IntKind.max, IntKind.signed, IntKind.bits] using h
theorem open_op1 {w : World} {n : Nat} {c : List Value} {y : DataW H × List MemPlace} (h : DataW.trod enc Try.prog w 0 (fun _ => true) true n 31 c = some y) :
    ∃ x : OpS, c = [.string x.s, .int .i64 x.c, .int .i64 x.t] ∧ x.ok := by
  obtain ⟨y0, y1, y2, m, -, hl, h0, h1, h2⟩ := Deep.trod_struct3 Try.underlying31 h
  have hc : Try.prog.cellsOf 31 = 3 := by kernel_rfl
  have hc2 : Try.prog.cellsOf 2 = 1 := by kernel_rfl
  have hc9 : Try.prog.cellsOf 9 = 1 := by kernel_rfl
  rw [hc] at hl
  match c, hl with
  | [c0, c1, c2], _ =>
    simp only [hc2, hc9] at h0 h1 h2
    have h0' : DataW.trod enc Try.prog w 0 (fun _ => true) true m 9 [c0] = some y0 := h0
    have h1' : DataW.trod enc Try.prog w 0 (fun _ => true) true m 2 [c1] = some y1 := h1
    have h2' : DataW.trod enc Try.prog w 0 (fun _ => true) true m 2 [c2] = some y2 := h2
    obtain ⟨k0, e0, -, g0⟩ := DataW.trod_string Try.underlying9 h0'
    obtain ⟨k1, e1, -, g1⟩ := DataW.trod_int Try.underlying2 h1'
    obtain ⟨k2, e2, -, g2⟩ := DataW.trod_int Try.underlying2 h2'
    cases e0
    cases e1
    cases e2
    exact ⟨⟨k0, k1, k2⟩, rfl, by unfold maxLen at g0; exact g0, (i64_wf g1).1, (i64_wf g1).2, (i64_wf g2).1, (i64_wf g2).2⟩
theorem open_op_list {w : World} : ∀ (css : List (List Value)) (xs : List (DataW H × List MemPlace)), xs.length = css.length →
    (∀ (i : Nat) (c : List Value) (y : DataW H × List MemPlace), css[i]? = some c → xs[i]? = some y → ∃ n, DataW.trod enc Try.prog w 0 (fun _ => true) true n 31 c = some y) →
    ∃ T : List OpS, T.length = css.length ∧ css.flatten = flat T ∧ ∀ x ∈ T, x.ok
  | [], _, _, _ => ⟨[], rfl, rfl, by simp⟩
  | c :: css, [], h, _ => by simp at h
  | c :: css, y :: xs, h, hall => by
    obtain ⟨T, h1, h2, h3⟩ := open_op_list css xs (by simpa using h) (fun i c y hc hy => hall (i + 1) c y (by simpa using hc) (by simpa using hy))
    obtain ⟨n, hn⟩ := hall 0 c y rfl rfl
    obtain ⟨x, hx, hok⟩ := open_op1 hn
    refine ⟨x :: T, by simp [h1], by rw [List.flatten_cons, h2, hx]; rfl, fun z hz => ?_⟩
    rcases List.mem_cons.1 hz with rfl | hz
    · exact hok
    · exact h3 z hz
theorem open_ops {w : World} {base : Nat} {v : Value} {d : DataW H} {ps : List MemPlace} (hval : Value.okWide Try.prog w .any base 22 v) (h : DataW.Trod enc Try.prog w 0 (fun _ => true) true 22 v d ps) :
    ∃ l : List OpS, RdOps w v l ∧ (d = .nil ∧ l = [] ∨ ∃ elems spare, d = .slice elems spare ∧ elems.length = l.length) := by
  obtain ⟨a0, len0, cap0, rfl⟩ := okWide_slice Try.underlying22 hval
  obtain ⟨fuel, hf⟩ := h
  have hc : Try.prog.cellsOf 31 = 3 := by kernel_rfl
  obtain ⟨v, css, xs, hv, hrow, hcs, hlen, hall, hd⟩ := open_row Try.underlying22 (by rw [hc]; omega) hf
  simp [Value.cells] at hv
  subst hv
  obtain ⟨T, h1, h2, h3⟩ := open_op_list css xs hlen hall
  rw [hc, ← h1, h2] at hrow
  refine ⟨T, ⟨hrow, h3⟩, ?_⟩
  rcases hd with ⟨hd, rfl⟩ | ⟨sp, hd⟩
  · exact .inl ⟨hd, List.eq_nil_of_length_eq_zero (by simpa using h1)⟩
  · exact .inr ⟨_, _, hd, by simp [h1, hlen]⟩
theorem open_op {w : World} {base : Nat} {v : Value} {d : DataW H} {ps : List MemPlace} (hval : Value.okWide Try.prog w .any base 31 v) (h : DataW.Trod enc Try.prog w 0 (fun _ => true) true 31 v d ps) :
    ∃ (s : ByteArray) (c t : Int), v = .agg #[.string s, .int .i64 c, .int .i64 t] := by
  obtain ⟨v0, v1, v2, y0, y1, y2, n, rfl, -, -, h0, h1, h2⟩ := Joins.open_agg3 Try.underlying31 (by kernel_rfl) (by kernel_rfl) hval h
  obtain ⟨k0, e0, -, -⟩ := DataW.trod_string Try.underlying9 h0
  obtain ⟨k1, e1, -, -⟩ := DataW.trod_int Try.underlying2 h1
  obtain ⟨k2, e2, -, -⟩ := DataW.trod_int Try.underlying2 h2
  cases e0
  cases e1
  cases e2
  exact ⟨k0, k1, k2, rfl⟩
end
end Go.Proofs.Ytjeecffhclhbaaa
