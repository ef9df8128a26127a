/- What a slice of stamps, and a stamp, that came in read as, with the bounds of their parts. -/
import Derived.Test.YtabpcbjjchhbeaaW7
import Derived.Test.YtabpcbjjchhbeaaW8
namespace Go.Proofs.Ytabpcbjjchhbeaa
open Go.RowKit Go.Kt Go.ChangeShapes Go.WideShapes

section
variable {H : Type} {enc : TypeId × Value → H}
theorem u32_wf {a : Int} (h : (Lit.int .u32 a).wf = true) : 0 ≤ a ∧ a ≤ 4294967295 := by
  simpa [Lit.wf, IntKind.min, IntKind.max, IntKind.signed, IntKind.bits] using h
theorem open_stn1 {w : World} {n : Nat} {c : List Value} {y : DataW H × List MemPlace} (h : DataW.trod enc Try.prog w 0 (fun _ => true) true n 36 c = some y) :
    ∃ x : St, c = [.int .i64 x.wall, .int .u32 x.tick, .int .u32 x.mark] ∧ x.nat := by
  obtain ⟨y0, y1, y2, m, -, hl, h0, h1, h2⟩ := Deep.trod_struct3 Try.underlying36 h
  have hc : Try.prog.cellsOf 36 = 3 := by kernel_rfl
  have hc2 : Try.prog.cellsOf 2 = 1 := by kernel_rfl
  have hc26 : Try.prog.cellsOf 26 = 1 := by kernel_rfl
  rw [hc] at hl
  match c, hl with
  | [c0, c1, c2], _ =>
    simp only [hc2, hc26] at h0 h1 h2
    have h0' : DataW.trod enc Try.prog w 0 (fun _ => true) true m 2 [c0] = some y0 := h0
    have h1' : DataW.trod enc Try.prog w 0 (fun _ => true) true m 26 [c1] = some y1 := h1
    have h2' : DataW.trod enc Try.prog w 0 (fun _ => true) true m 26 [c2] = some y2 := h2
    obtain ⟨k0, e0, -, -⟩ := DataW.trod_int Try.underlying2 h0'
    obtain ⟨k1, e1, -, g1⟩ := DataW.trod_int Try.underlying26 h1'
    obtain ⟨k2, e2, -, g2⟩ := DataW.trod_int Try.underlying26 h2'
    cases e0
    cases e1
    cases e2
    exact ⟨⟨k0, k1, k2⟩, rfl, (u32_wf g1).1, (u32_wf g2).1⟩
theorem open_stn_list {w : World} : ∀ (css : List (List Value)) (xs : List (DataW H × List MemPlace)), xs.length = css.length →
    (∀ (i : Nat) (c : List Value) (y : DataW H × List MemPlace), css[i]? = some c → xs[i]? = some y → ∃ n, DataW.trod enc Try.prog w 0 (fun _ => true) true n 36 c = some y) →
    ∃ T : List St, T.length = css.length ∧ css.flatten = flat T ∧ ∀ x ∈ T, x.nat
  | [], _, _, _ => ⟨[], rfl, rfl, by simp⟩
  | c :: css, [], h, _ => by simp at h
  | c :: css, y :: xs, h, hall => by
    obtain ⟨T, h1, h2, h3⟩ := open_stn_list css xs (by simpa using h) (fun i c y hc hy => hall (i + 1) c y (by simpa using hc) (by simpa using hy))
    obtain ⟨n, hn⟩ := hall 0 c y rfl rfl
    obtain ⟨x, hx, hok⟩ := open_stn1 hn
    refine ⟨x :: T, by simp [h1], by rw [List.flatten_cons, h2, hx]; rfl, fun z hz => ?_⟩
    rcases List.mem_cons.1 hz with rfl | hz
    · exact hok
    · exact h3 z hz
theorem open_stn {w : World} {base : Nat} {v : Value} {d : DataW H} {ps : List MemPlace} (hval : Value.okWide Try.prog w .any base 24 v) (h : DataW.Trod enc Try.prog w 0 (fun _ => true) true 24 v d ps) :
    ∃ l : List St, RdSt w v l ∧ (d = .nil ∧ l = [] ∨ ∃ elems spare, d = .slice elems spare ∧ elems.length = l.length) ∧ ∀ x ∈ l, x.nat := by
  obtain ⟨a0, len0, cap0, rfl⟩ := okWide_slice Try.underlying24 hval
  obtain ⟨fuel, hf⟩ := h
  have hc : Try.prog.cellsOf 36 = 3 := by kernel_rfl
  obtain ⟨v, css, xs, hv, hrow, hcs, hlen, hall, hd⟩ := open_row Try.underlying24 (by rw [hc]; omega) hf
  simp [Value.cells] at hv
  subst hv
  obtain ⟨T, h1, h2, h3⟩ := open_stn_list css xs hlen hall
  rw [hc, ← h1, h2] at hrow
  refine ⟨T, hrow, ?_, h3⟩
  rcases hd with ⟨hd, rfl⟩ | ⟨sp, hd⟩
  · exact .inl ⟨hd, List.eq_nil_of_length_eq_zero (by simpa using h1)⟩
  · exact .inr ⟨_, _, hd, by simp [h1, hlen]⟩
theorem open_stv {w : World} {base : Nat} {v : Value} {d : DataW H} {ps : List MemPlace} (hval : Value.okWide Try.prog w .any base 36 v) (h : DataW.Trod enc Try.prog w 0 (fun _ => true) true 36 v d ps) :
    ∃ x : St, v = .agg #[.int .i64 x.wall, .int .u32 x.tick, .int .u32 x.mark] ∧ x.nat := by
  obtain ⟨v0, v1, v2, y0, y1, y2, n, rfl, -, -, h0, h1, h2⟩ := Joins.open_agg3 Try.underlying36 (by kernel_rfl) (by kernel_rfl) hval h
  obtain ⟨k0, e0, -, -⟩ := DataW.trod_int Try.underlying2 h0
  obtain ⟨k1, e1, -, g1⟩ := DataW.trod_int Try.underlying26 h1
  obtain ⟨k2, e2, -, g2⟩ := DataW.trod_int Try.underlying26 h2
  cases e0
  cases e1
  cases e2
  exact ⟨⟨k0, k1, k2⟩, rfl, (u32_wf g1).1, (u32_wf g2).1⟩
end
end Go.Proofs.Ytabpcbjjchhbeaa
