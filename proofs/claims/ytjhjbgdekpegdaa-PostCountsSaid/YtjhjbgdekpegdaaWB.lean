/- What a slice of messages that came in reads as. -/
import Derived.Test.YtjhjbgdekpegdaaWA
import Derived.Test.YtjhjbgdekpegdaaKtL
import Derived.Lib.SmallJoins
namespace Go.Proofs.Ytjhjbgdekpegdaa
open Go.RowKit Go.Kt Go.ChangeShapes Go.WideShapes

section
variable {H : Type} {enc : TypeId × Value → H}
theorem i64_wf {a : Int} (h : (Lit.int .i64 a).wf = true) : -9223372036854775808 ≤ a ∧ a ≤ 9223372036854775807 := by
  simpa [Lit.wf, IntKind.min, IntKind.max, IntKind.signed, IntKind.bits] using h
theorem cells5 : Try.prog.cellsOf 5 = 1 := by kernel_rfl
theorem open_msg1 {w : World} {n : Nat} {c : List Value} {y : DataW H × List MemPlace} (h : DataW.trod enc Try.prog w 0 (fun _ => true) true n 30 c = some y) :
    ∃ (m : M) (bv : Value), c = m.vals bv ∧ Rd8 w bv m.body := by
  obtain ⟨y0, y1, y2, m, -, hl, h0, h1, h2⟩ := Deep.trod_struct3 Try.underlying30 h
  have hc : Try.prog.cellsOf 30 = 3 := by kernel_rfl
  have hc3 : Try.prog.cellsOf 3 = 1 := by kernel_rfl
  have hc28 : Try.prog.cellsOf 28 = 1 := by kernel_rfl
  rw [hc] at hl
  match c, hl with
  | [c0, c1, c2], _ =>
    simp only [hc3, hc28] at h0 h1 h2
    have h0' : DataW.trod enc Try.prog w 0 (fun _ => true) true m 3 [c0] = some y0 := h0
    have h1' : DataW.trod enc Try.prog w 0 (fun _ => true) true m 3 [c1] = some y1 := h1
    have h2' : DataW.trod enc Try.prog w 0 (fun _ => true) true m 28 [c2] = some y2 := h2
    obtain ⟨k0, e0, -, -⟩ := DataW.trod_int Try.underlying3 h0'
    obtain ⟨k1, e1, -, -⟩ := DataW.trod_int Try.underlying3 h1'
    obtain ⟨bv, l, e2, hr, -⟩ := open_rd8' Try.underlying28 Try.underlying5 cells5 h2'
    cases e0
    cases e1
    cases e2
    exact ⟨⟨k0, k1, l⟩, _, rfl, hr⟩
theorem open_msg_list {w : World} : ∀ (css : List (List Value)) (xs : List (DataW H × List MemPlace)), xs.length = css.length →
    (∀ (i : Nat) (c : List Value) (y : DataW H × List MemPlace), css[i]? = some c → xs[i]? = some y → ∃ n, DataW.trod enc Try.prog w 0 (fun _ => true) true n 30 c = some y) →
    ∃ T : List (M × Value), T.length = css.length ∧ css.flatten = mcells T ∧ ∀ x ∈ T, Rd8 w x.2 x.1.body
  | [], _, _, _ => ⟨[], rfl, rfl, by simp⟩
  | c :: css, [], h, _ => by simp at h
  | c :: css, y :: xs, h, hall => by
    obtain ⟨T, h1, h2, h3⟩ := open_msg_list css xs (by simpa using h) (fun i c y hc hy => hall (i + 1) c y (by simpa using hc) (by simpa using hy))
    obtain ⟨n, hn⟩ := hall 0 c y rfl rfl
    obtain ⟨m, bv, hx, hok⟩ := open_msg1 hn
    refine ⟨(m, bv) :: T, by simp [h1], by rw [List.flatten_cons, h2, hx]; rfl, fun z hz => ?_⟩
    rcases List.mem_cons.1 hz with rfl | hz
    · exact hok
    · exact h3 z hz
theorem open_msgs {w : World} {base : Nat} {v : Value} {d : DataW H} {ps : List MemPlace} (hval : Value.okWide Try.prog w .any base 22 v) (h : DataW.Trod enc Try.prog w 0 (fun _ => true) true 22 v d ps) :
    ∃ l : List M, RdM w v l := by
  obtain ⟨a0, len0, cap0, rfl⟩ := okWide_slice Try.underlying22 hval
  obtain ⟨fuel, hf⟩ := h
  have hc : Try.prog.cellsOf 30 = 3 := by kernel_rfl
  obtain ⟨v, css, xs, hv, hrow, hcs, hlen, hall, hd⟩ := open_row Try.underlying22 (by rw [hc]; omega) hf
  simp [Value.cells] at hv
  subst hv
  obtain ⟨T, h1, h2, h3⟩ := open_msg_list css xs hlen hall
  rw [hc, ← h1, h2] at hrow
  exact ⟨T.map (·.1), T, rfl, hrow, h3⟩
end
end Go.Proofs.Ytjhjbgdekpegdaa
