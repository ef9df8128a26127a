/- What a slice of labels, of writes, that came in reads as, and how long its texts are at most. -/
import Derived.Test.YtmmilgcbjpbelaaWB
import Derived.Test.YtmmilgcbjpbelaaBulk
import Derived.Test.YtmmilgcbjpbelaaKtL
import Derived.Lib.SmallJoins
namespace Go.Proofs.Ytmmilgcbjpbelaa
open Go.RowKit Go.Kt Go.Ix Go.ChangeShapes Go.WideShapes

/-! ### a text is no longer than four times what its labels weigh -/
def cost : List Pr → Nat
  | [] => 0
  | p :: t => p.n.size + p.v.size + 3 + cost t
theorem escL_le : ∀ l : List UInt8, (escL l).length ≤ 2 * l.length
  | [] => by simp [escL]
  | c :: l => by
    have h := escL_le l
    have h1 : (esc c).length ≤ 2 := by unfold esc; split <;> simp
    simp only [escL, List.flatMap_cons, List.length_append, List.length_cons] at h ⊢
    omega
theorem pairL_cost (p : Pr) : (pairL p).length + 1 ≤ 4 * (p.n.size + p.v.size + 3) := by
  have h := escL_le (bl p.v)
  rw [bl_len] at h
  simp only [pairL, quoteL, List.length_append, List.length_cons, List.length_nil, bl_len]
  omega
theorem restL_cost : ∀ l : List Pr, (restL l).length ≤ 4 * cost l + 1
  | [] => by simp [restL]
  | p :: t => by
    have h := restL_cost t
    have h1 := pairL_cost p
    simp only [restL, cost, List.length_cons, List.length_append]
    omega
theorem textL_cost (l : List Pr) : (textL l).length ≤ 4 * cost l + 2 := by
  cases l with
  | nil => simp [textL]
  | cons p t =>
    have h := restL_cost t
    have h1 := pairL_cost p
    simp only [textL, cost, List.length_cons, List.length_append]
    omega
theorem len_cost : ∀ l : List Pr, l.length ≤ cost l
  | [] => Nat.le_refl _
  | p :: t => by have := len_cost t; simp only [List.length_cons, cost]; omega

section
set_option maxRecDepth 8000
variable {H : Type} {enc : TypeId × Value → H}
theorem i64_wf {a : Int} (h : (Lit.int .i64 a).wf = true) : Rng a := by
  unfold Rng
  simpa [Lit.wf, IntKind.min, IntKind.max, IntKind.signed, IntKind.bits] using h
theorem cells112 : Try.prog.cellsOf 112 = 2 := by kernel_rfl
theorem cells9 : Try.prog.cellsOf 9 = 1 := by kernel_rfl
theorem bulk_agg (l : List (DataW H)) : Rows.uptoBulkAll l + 1 ≤ Rows.uptoBulk (.agg l) := by simp [Rows.uptoBulk]
theorem open_pair1 {w : World} {n : Nat} {c : List Value} {y : DataW H × List MemPlace} (h : DataW.trod enc Try.prog w 0 (fun _ => true) true n 112 c = some y) :
    ∃ p : Pr, c = [.string p.n, .string p.v] ∧ p.n.size + p.v.size + 3 ≤ Rows.uptoBulk y.1 ∧ p.n.size ≤ maxLen ∧ p.v.size ≤ maxLen := by
  obtain ⟨y0, y1, m, hy, hl, h0, h1⟩ := trod_struct2 Try.underlying112 h
  rw [cells112] at hl
  match c, hl with
  | [c0, c1], _ =>
    simp only [cells9] at h0 h1
    have h0' : DataW.trod enc Try.prog w 0 (fun _ => true) true m 9 [c0] = some y0 := h0
    have h1' : DataW.trod enc Try.prog w 0 (fun _ => true) true m 9 [c1] = some y1 := h1
    obtain ⟨k0, e0, x0, g0⟩ := DataW.trod_string Try.underlying9 h0'
    obtain ⟨k1, e1, x1, g1⟩ := DataW.trod_string Try.underlying9 h1'
    cases e0
    cases e1
    refine ⟨⟨k0, k1⟩, rfl, ?_, g0, g1⟩
    have hle := bulk_agg [y0.1, y1.1]
    rw [hy]
    rw [x0, x1] at hle ⊢
    simp only [Rows.uptoBulkAll, bulks.string_eq] at hle ⊢
    have e0 : k0.data.toList.length = k0.size := bl_len k0
    have e1 : k1.data.toList.length = k1.size := bl_len k1
    omega
theorem open_pair_list {w : World} : ∀ (css : List (List Value)) (xs : List (DataW H × List MemPlace)), xs.length = css.length →
    (∀ (i : Nat) (c : List Value) (y : DataW H × List MemPlace), css[i]? = some c → xs[i]? = some y → ∃ n, DataW.trod enc Try.prog w 0 (fun _ => true) true n 112 c = some y) →
    ∃ T : List Pr, T.length = css.length ∧ css.flatten = flatP T ∧ cost T ≤ Rows.uptoBulkAll (xs.map (·.1)) ∧ Fit T
  | [], _, _, _ => ⟨[], rfl, rfl, Nat.zero_le _, by intro p hp; cases hp⟩
  | c :: css, [], h, _ => by simp at h
  | c :: css, y :: xs, h, hall => by
    obtain ⟨T, h1, h2, h3, h4⟩ := open_pair_list css xs (by simpa using h) (fun i c y hc hy => hall (i + 1) c y (by simpa using hc) (by simpa using hy))
    obtain ⟨n, hn⟩ := hall 0 c y rfl rfl
    obtain ⟨p, hx, hc, g0, g1⟩ := open_pair1 hn
    have e : Rows.uptoBulkAll ((y :: xs).map (·.1)) = Rows.uptoBulk y.1 + Rows.uptoBulkAll (xs.map (·.1)) := rfl
    refine ⟨p :: T, by simp [h1], by rw [List.flatten_cons, h2, hx]; rfl, ?_, fun q hq => ?_⟩
    · rw [e]; simp only [cost]; omega
    · rcases List.mem_cons.1 hq with rfl | hq
      · exact ⟨g0, g1⟩
      · exact h4 q hq
/-- a slice of labels that came in -/
theorem open_pairs {w : World} {fuel : Nat} {c : Value} {y : DataW H × List MemPlace} (hf : DataW.trod enc Try.prog w 0 (fun _ => true) true fuel 62 [c] = some y) : ∃ l : List Pr, RdP w c l ∧ cost l + 1 ≤ Rows.uptoBulk y.1 ∧ Fit l := by
  obtain ⟨v, css, xs, hv, hrow, hcs, hlen, hall, hd⟩ := open_row Try.underlying62 (by rw [cells112]; omega) hf
  injection hv with hv
  subst hv
  rw [cells112] at hcs hrow
  obtain ⟨T, h1, h2, h3, h4⟩ := open_pair_list css xs hlen hall
  rw [← h1, h2] at hrow
  refine ⟨T, hrow, ?_, h4⟩
  rcases hd with ⟨e0, e⟩ | ⟨spare, e⟩
  · rw [e] at h1
    rw [List.eq_nil_of_length_eq_zero h1, e0]
    exact Nat.le_refl _
  · rw [e]
    have := bulks.slice_elems (xs.map (·.1)) spare
    omega

theorem trod_struct5 {t : TypeId} {f0 f1 f2 f3 f4 : Field} {fuel : Nat} {cs : List Value} {x : DataW H × List MemPlace} {w : World} (ht : Try.prog.underlying t = some (.struct #[f0, f1, f2, f3, f4])) (h : DataW.trod enc Try.prog w 0 (fun _ => true) true fuel t cs = some x) :
    ∃ y0 y1 y2 y3 y4 n, x.1 = .agg [y0.1, y1.1, y2.1, y3.1, y4.1] ∧ cs.length = Try.prog.cellsOf t ∧ DataW.trod enc Try.prog w 0 (fun _ => true) true n f0.type ((cs.drop f0.offset).take (Try.prog.cellsOf f0.type)) = some y0 ∧
      DataW.trod enc Try.prog w 0 (fun _ => true) true n f1.type ((cs.drop f1.offset).take (Try.prog.cellsOf f1.type)) = some y1 ∧ DataW.trod enc Try.prog w 0 (fun _ => true) true n f2.type ((cs.drop f2.offset).take (Try.prog.cellsOf f2.type)) = some y2 ∧
      DataW.trod enc Try.prog w 0 (fun _ => true) true n f3.type ((cs.drop f3.offset).take (Try.prog.cellsOf f3.type)) = some y3 ∧ DataW.trod enc Try.prog w 0 (fun _ => true) true n f4.type ((cs.drop f4.offset).take (Try.prog.cellsOf f4.type)) = some y4 := by
  obtain ⟨xs, n, _, rfl, hl, hlen, hf⟩ := DataW.trod_struct ht h
  match xs, hlen with
  | [y0, y1, y2, y3, y4], _ => exact ⟨y0, y1, y2, y3, y4, n, by simp, hl, by simpa using hf 0 f0 rfl, by simpa using hf 1 f1 rfl, by simpa using hf 2 f2 rfl, by simpa using hf 3 f3 rfl, by simpa using hf 4 f4 rfl⟩
theorem cells88 : Try.prog.cellsOf 88 = 5 := by kernel_rfl
theorem cells62 : Try.prog.cellsOf 62 = 1 := by kernel_rfl
theorem cells2 : Try.prog.cellsOf 2 = 1 := by kernel_rfl
theorem cells3 : Try.prog.cellsOf 3 = 1 := by kernel_rfl
theorem open_write1 {w : World} {n : Nat} {c : List Value} {y : DataW H × List MemPlace} (h : DataW.trod enc Try.prog w 0 (fun _ => true) true n 88 c = some y) :
    ∃ m : Wr, c = wcells m ∧ RdP w m.sv m.st ∧ cost m.st ≤ Rows.uptoBulk y.1 ∧ Fit m.st := by
  obtain ⟨y0, y1, y2, y3, y4, k, hy, hl, h0, h1, h2, h3, h4⟩ := trod_struct5 Try.underlying88 h
  rw [cells88] at hl
  match c, hl with
  | [c0, c1, c2, c3, c4], _ =>
    simp only [cells62, cells2, cells3, cells9] at h0 h1 h2 h3 h4
    have h0' : DataW.trod enc Try.prog w 0 (fun _ => true) true k 62 [c0] = some y0 := h0
    have h1' : DataW.trod enc Try.prog w 0 (fun _ => true) true k 2 [c1] = some y1 := h1
    have h2' : DataW.trod enc Try.prog w 0 (fun _ => true) true k 3 [c2] = some y2 := h2
    have h3' : DataW.trod enc Try.prog w 0 (fun _ => true) true k 2 [c3] = some y3 := h3
    have h4' : DataW.trod enc Try.prog w 0 (fun _ => true) true k 9 [c4] = some y4 := h4
    obtain ⟨l, hr, hcl, hfl⟩ := open_pairs h0'
    obtain ⟨k1, e1, -, -⟩ := DataW.trod_int Try.underlying2 h1'
    obtain ⟨k2, e2, -, -⟩ := DataW.trod_int Try.underlying3 h2'
    obtain ⟨k3, e3, -, -⟩ := DataW.trod_int Try.underlying2 h3'
    obtain ⟨k4, e4, -, -⟩ := DataW.trod_string Try.underlying9 h4'
    cases e1
    cases e2
    cases e3
    cases e4
    refine ⟨⟨l, k1, k2, k3, k4, c0⟩, rfl, hr, ?_, hfl⟩
    have hle := bulk_agg [y0.1, y1.1, y2.1, y3.1, y4.1]
    have hpart := bulks.part_le (d := y0.1) (l := [y0.1, y1.1, y2.1, y3.1, y4.1]) (by simp)
    rw [hy]
    show cost l ≤ Rows.uptoBulk (DataW.agg [y0.1, y1.1, y2.1, y3.1, y4.1])
    omega
theorem open_write_list {w : World} : ∀ (css : List (List Value)) (xs : List (DataW H × List MemPlace)), xs.length = css.length →
    (∀ (i : Nat) (c : List Value) (y : DataW H × List MemPlace), css[i]? = some c → xs[i]? = some y → ∃ n, DataW.trod enc Try.prog w 0 (fun _ => true) true n 88 c = some y) →
    ∃ T : List Wr, T.length = css.length ∧ css.flatten = flatW T ∧ ∀ m ∈ T, RdP w m.sv m.st ∧ cost m.st ≤ Rows.uptoBulkAll (xs.map (·.1)) ∧ Fit m.st
  | [], _, _, _ => ⟨[], rfl, rfl, by simp⟩
  | c :: css, [], h, _ => by simp at h
  | c :: css, y :: xs, h, hall => by
    obtain ⟨T, h1, h2, h3⟩ := open_write_list css xs (by simpa using h) (fun i c y hc hy => hall (i + 1) c y (by simpa using hc) (by simpa using hy))
    obtain ⟨n, hn⟩ := hall 0 c y rfl rfl
    obtain ⟨m, hx, hok, hkl, hfm⟩ := open_write1 hn
    have e : Rows.uptoBulkAll ((y :: xs).map (·.1)) = Rows.uptoBulk y.1 + Rows.uptoBulkAll (xs.map (·.1)) := rfl
    refine ⟨m :: T, by simp [h1], by rw [List.flatten_cons, h2, hx]; rfl, fun z hz => ?_⟩
    rw [e]
    rcases List.mem_cons.1 hz with rfl | hz
    · exact ⟨hok, by omega, hfm⟩
    · exact ⟨(h3 z hz).1, by have := (h3 z hz).2.1; omega, (h3 z hz).2.2⟩
theorem open_writes {w : World} {base : Nat} {v : Value} {d : DataW H} {ps : List MemPlace} (hval : Value.okWide Try.prog w .any base 22 v) (h : DataW.Trod enc Try.prog w 0 (fun _ => true) true 22 v d ps) :
    ∃ L : List Wr, RdW w v L ∧ ∀ m ∈ L, cost m.st ≤ Rows.uptoBulk d ∧ Fit m.st := by
  obtain ⟨a0, len0, cap0, rfl⟩ := okWide_slice Try.underlying22 hval
  obtain ⟨fuel, hf⟩ := h
  obtain ⟨v, css, xs, hv, hrow, hcs, hlen, hall, hd⟩ := open_row Try.underlying22 (by rw [cells88]; omega) hf
  simp [Value.cells] at hv
  subst hv
  obtain ⟨T, h1, h2, h3⟩ := open_write_list css xs hlen hall
  rw [cells88, ← h1, h2] at hrow
  refine ⟨T, ⟨hrow, fun m hm => (h3 m hm).1⟩, fun m hm => ⟨?_, (h3 m hm).2.2⟩⟩
  have hle := (h3 m hm).2.1
  rcases hd with ⟨_, e⟩ | ⟨spare, e⟩
  · rw [e] at h1
    rw [List.eq_nil_of_length_eq_zero h1] at hm
    cases hm
  · have e' : d = .slice (xs.map (·.1)) spare := e
    rw [e']
    have := bulks.slice_elems (xs.map (·.1)) spare
    omega
theorem fitW_small {L : List Wr} {n : Nat} (hn : n ≤ 1048576) (h : ∀ m ∈ L, cost m.st ≤ n) : FitW L := by
  intro m hm
  have h1 := h m hm
  have h2 := len_cost m.st
  have h3 := textL_cost m.st
  omega
end
end Go.Proofs.Ytmmilgcbjpbelaa
