/- What a slice of pieces that came in reads as. -/
import Derived.Test.YtkanagmjnndodaaWA
import Derived.Test.YtkanagmjnndodaaKtL
namespace Go.Proofs.Ytkanagmjnndodaa
open Go.RowKit Go.Kt Go.ChangeShapes Go.WideShapes

section
variable {H : Type} {enc : TypeId × Value → H}
theorem open_pc {w : World} {n : Nat} {c : List Value} {y : DataW H × List MemPlace} (h : DataW.trod enc Try.prog w 0 (fun _ => true) true n 48 c = some y) :
    ∃ x : Pc, c = [by8 x.1, x.2.1] ∧ Rd8 w x.2.1 x.2.2 := by
  have h48 := Try.underlying48
  obtain ⟨y0, y1, m, -, hl, h0, h1⟩ := trod_struct2 h48 h
  have hc : Try.prog.cellsOf 48 = 2 := by kernel_rfl
  have hc5 : Try.prog.cellsOf 5 = 1 := by kernel_rfl
  have hc23 : Try.prog.cellsOf 23 = 1 := by kernel_rfl
  rw [hc] at hl
  match c, hl with
  | [c0, c1], _ =>
    simp only [hc5, hc23] at h0 h1
    have h0' : DataW.trod enc Try.prog w 0 (fun _ => true) true m 5 [c0] = some y0 := h0
    have h1' : DataW.trod enc Try.prog w 0 (fun _ => true) true m 23 [c1] = some y1 := h1
    obtain ⟨k, e0, -, hw⟩ := DataW.trod_int Try.underlying5 h0'
    obtain ⟨v, l, e1, hr, -⟩ := open_rd8' Try.underlying23 Try.underlying5 hc5 h1'
    cases e1
    cases e0
    have hb : 0 ≤ k ∧ k ≤ 255 := by simpa [Lit.wf, IntKind.min, IntKind.max, IntKind.signed, IntKind.bits] using hw
    refine ⟨(UInt8.ofNat k.toNat, c1, l), ?_, hr⟩
    congr 1
    unfold by8
    congr 1
    rw [UInt8.toNat_ofNat', Nat.mod_eq_of_lt (by omega)]
    omega

theorem open_pcs_list {w : World} : ∀ (css : List (List Value)) (xs : List (DataW H × List MemPlace)), xs.length = css.length →
    (∀ (i : Nat) (c : List Value) (y : DataW H × List MemPlace), css[i]? = some c → xs[i]? = some y → ∃ n, DataW.trod enc Try.prog w 0 (fun _ => true) true n 48 c = some y) →
    ∃ T : List Pc, T.length = css.length ∧ css.flatten = cellsOf T ∧ ∀ x ∈ T, Rd8 w x.2.1 x.2.2
  | [], _, _, _ => ⟨[], rfl, rfl, by simp⟩
  | c :: css, [], h, _ => by simp at h
  | c :: css, y :: xs, h, hall => by
    obtain ⟨T, h1, h2, h3⟩ := open_pcs_list css xs (by simpa using h) (fun i c y hc hy => hall (i + 1) c y (by simpa using hc) (by simpa using hy))
    obtain ⟨n, hn⟩ := hall 0 c y rfl rfl
    obtain ⟨x, hx, hr⟩ := open_pc hn
    refine ⟨x :: T, by simp [h1], by rw [List.flatten_cons, h2, hx]; rfl, fun z hz => ?_⟩
    rcases List.mem_cons.1 hz with rfl | hz
    · exact hr
    · exact h3 z hz

theorem open_pcs {w : World} {base : Nat} {v : Value} {d : DataW H} {ps : List MemPlace} (hval : Value.okWide Try.prog w .any base 41 v) (h : DataW.Trod enc Try.prog w 0 (fun _ => true) true 41 v d ps) :
    ∃ l : List (UInt8 × List UInt8), RdPcs w v l ∧ (d = .nil ∧ l = [] ∨ ∃ elems spare, d = .slice elems spare ∧ elems.length = l.length) := by
  obtain ⟨a0, len0, cap0, rfl⟩ := okWide_slice Try.underlying41 hval
  obtain ⟨fuel, hf⟩ := h
  have hc : Try.prog.cellsOf 48 = 2 := by kernel_rfl
  obtain ⟨v, css, xs, hv, hrow, hcs, hlen, hall, hd⟩ := open_row Try.underlying41 (by rw [hc]; omega) hf
  simp [Value.cells] at hv
  subst hv
  obtain ⟨T, h1, h2, h3⟩ := open_pcs_list css xs hlen hall
  rw [hc, ← h1, h2] at hrow
  refine ⟨plain T, ⟨T, rfl, hrow, h3⟩, ?_⟩
  rcases hd with ⟨hd, rfl⟩ | ⟨sp, hd⟩
  · left
    refine ⟨hd, ?_⟩
    have : T = [] := List.eq_nil_of_length_eq_zero (by simpa using h1)
    rw [this]; rfl
  · right
    exact ⟨_, _, hd, by simp [plain, h1, hlen]⟩
end
end Go.Proofs.Ytkanagmjnndodaa
