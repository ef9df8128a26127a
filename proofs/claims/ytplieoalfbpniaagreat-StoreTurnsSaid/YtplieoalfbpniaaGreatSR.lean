/- What came in reads as: steps, stamps, rules, writes; no more than memory holds. -/
import Derived.Test.YtplieoalfbpniaaGreatSP
import Derived.Test.YtplieoalfbpniaaGreatKtL
import Derived.Lib.SmallJoins
import Derived.HandedShaped
import Derived.Shelf.Vars
import Derived.Deep.SlicePairs
set_option linter.unusedVariables false
set_option linter.unusedSimpArgs false
namespace Go.Proofs.YtplieoalfbpniaaGreat
open Go.RowKit Go.Kt Go.Ix Go.Sx Go.ChangeShapes Go.WideShapes
section
set_option maxRecDepth 8000
variable {H : Type} {enc : TypeId × Value → H}
theorem i64_wf {a : Int} (h : (Lit.int .i64 a).wf = true) : -9223372036854775808 ≤ a ∧ a ≤ 9223372036854775807 := by
  simpa [Lit.wf, IntKind.min, IntKind.max, IntKind.signed, IntKind.bits] using h
theorem bytes152 : Tryz.prog.bytesOf 152 = 32 := by kernel_rfl
theorem bytes118 : Tryz.prog.bytesOf 118 = 40 := by kernel_rfl
theorem cells152 : Tryz.prog.cellsOf 152 = 2 := by kernel_rfl
theorem cells118 : Tryz.prog.cellsOf 118 = 3 := by kernel_rfl
theorem cells9 : Tryz.prog.cellsOf 9 = 1 := by kernel_rfl
theorem cells3 : Tryz.prog.cellsOf 3 = 1 := by kernel_rfl
theorem cells2 : Tryz.prog.cellsOf 2 = 1 := by kernel_rfl
theorem cells41 : Tryz.prog.cellsOf 41 = 1 := by kernel_rfl
theorem cells44 : Tryz.prog.cellsOf 44 = 1 := by kernel_rfl
theorem cells25 : Tryz.prog.cellsOf 25 = 3 := by kernel_rfl
theorem cells43 : Tryz.prog.cellsOf 43 = 5 := by kernel_rfl
theorem cells46 : Tryz.prog.cellsOf 46 = 12 := by kernel_rfl
/-- all that a datum says lies in memory -/
def Small (t : TypeId) (d : DataW H) : Prop := ∀ n ∈ d.weights Tryz.prog t, n ≤ reachBytes
theorem small_of {ts : List TypeId} {ds : List (DataW H)} (h : (DataW.weightsEach Tryz.prog ts ds).all (· ≤ reachBytes) = true) {j : Nat} {t : TypeId} {d : DataW H} (ht : ts[j]? = some t) (hd : ds[j]? = some d) : Small t d := by
  intro n hn
  have := List.all_eq_true.1 h n (DataW.weights_mem_each ht hd n hn)
  simpa using this
theorem weightsAll_mem {e : TypeId} : ∀ {l : List (DataW H)} {d : DataW H}, d ∈ l → ∀ n ∈ d.weights Tryz.prog e, n ∈ DataW.weightsAll Tryz.prog e l
  | [], _, h, _, _ => by cases h
  | x :: l, d, h, n, hn => by
    simp only [DataW.weightsAll, List.mem_append]
    rcases List.mem_cons.1 h with rfl | h
    · exact .inl hn
    · exact .inr (weightsAll_mem h n hn)
theorem small_elem {t e : TypeId} {elems spare : List (DataW H)} (hu : Tryz.prog.underlying t = some (.slice e)) (h : Small t (.slice elems spare)) {d : DataW H} (hd : d ∈ elems) : Small e d := by
  intro n hn
  refine h n ?_
  simp only [DataW.weights, hu, List.mem_cons, List.mem_append]
  exact .inr (.inl (weightsAll_mem hd n hn))
theorem small_len {t e : TypeId} {elems spare : List (DataW H)} (hu : Tryz.prog.underlying t = some (.slice e)) (h : Small t (.slice elems spare)) : (elems.length + spare.length) * Tryz.prog.bytesOf e ≤ reachBytes := by
  refine h _ ?_
  simp only [DataW.weights, hu, List.mem_cons]
  exact .inl trivial
/-- a struct's field -/
theorem small_field {t : TypeId} {fs : Array Field} {ds : List (DataW H)} (hu : Tryz.prog.underlying t = some (.struct fs)) (h : Small t (.agg ds)) {j : Nat} {ft : TypeId} {d : DataW H} (hf : (fs.toList.map (·.type))[j]? = some ft) (hd : ds[j]? = some d) : Small ft d := by
  intro n hn
  refine h n ?_
  simp only [DataW.weights, hu]
  exact DataW.weights_mem_each hf hd n hn
/-! ### labels -/
theorem open_pair1 {w : World} {n : Nat} {c : List Value} {y : DataW H × List MemPlace} (h : DataW.trod enc Tryz.prog w 0 (fun _ => true) true n 152 c = some y) :
    ∃ p : Pr, c = [.string p.n, .string p.v] ∧ p.n.size ≤ maxLen ∧ p.v.size ≤ maxLen := by
  obtain ⟨y0, y1, m, hy, hl, h0, h1⟩ := trod_struct2 Tryz.underlying152 h
  rw [cells152] at hl
  match c, hl with
  | [c0, c1], _ =>
    simp only [cells9] at h0 h1
    have h0' : DataW.trod enc Tryz.prog w 0 (fun _ => true) true m 9 [c0] = some y0 := h0
    have h1' : DataW.trod enc Tryz.prog w 0 (fun _ => true) true m 9 [c1] = some y1 := h1
    obtain ⟨k0, e0, x0, g0⟩ := DataW.trod_string Tryz.underlying9 h0'
    obtain ⟨k1, e1, x1, g1⟩ := DataW.trod_string Tryz.underlying9 h1'
    cases e0
    cases e1
    exact ⟨⟨k0, k1⟩, rfl, g0, g1⟩
theorem open_pair_list {w : World} : ∀ (css : List (List Value)) (xs : List (DataW H × List MemPlace)), xs.length = css.length →
    (∀ (i : Nat) (c : List Value) (y : DataW H × List MemPlace), css[i]? = some c → xs[i]? = some y → ∃ n, DataW.trod enc Tryz.prog w 0 (fun _ => true) true n 152 c = some y) →
    ∃ T : List Pr, T.length = css.length ∧ css.flatten = flatP T ∧ Fit T
  | [], _, _, _ => ⟨[], rfl, rfl, by intro p hp; cases hp⟩
  | c :: css, [], h, _ => by simp at h
  | c :: css, y :: xs, h, hall => by
    obtain ⟨T, h1, h2, h4⟩ := open_pair_list css xs (by simpa using h) (fun i c y hc hy => hall (i + 1) c y (by simpa using hc) (by simpa using hy))
    obtain ⟨n, hn⟩ := hall 0 c y rfl rfl
    obtain ⟨p, hx, g0, g1⟩ := open_pair1 hn
    refine ⟨p :: T, by simp [h1], by rw [List.flatten_cons, h2, hx]; rfl, fun q hq => ?_⟩
    rcases List.mem_cons.1 hq with rfl | hq
    · exact ⟨g0, g1⟩
    · exact h4 q hq
/-- a slice of labels that came in -/
theorem open_pairs {w : World} {fuel : Nat} {c : Value} {y : DataW H × List MemPlace} (hf : DataW.trod enc Tryz.prog w 0 (fun _ => true) true fuel 41 [c] = some y) (hs : Small 41 y.1) : ∃ l : List Pr, RdP w c l ∧ Fit l ∧ l.length ≤ 4398046511104 := by
  obtain ⟨v, css, xs, hv, hrow, hcs, hlen, hall, hd⟩ := open_row Tryz.underlying41 (by rw [cells152]; omega) hf
  injection hv with hv
  subst hv
  rw [cells152] at hcs hrow
  obtain ⟨T, h1, h2, h4⟩ := open_pair_list css xs hlen hall
  rw [← h1, h2] at hrow
  refine ⟨T, hrow, h4, ?_⟩
  rcases hd with ⟨_, e⟩ | ⟨spare, e⟩
  · rw [e] at h1
    rw [List.eq_nil_of_length_eq_zero h1]
    exact Nat.zero_le _
  · rw [e] at hs
    have := small_len Tryz.underlying41 hs
    rw [bytes152, List.length_map] at this
    unfold reachBytes at this
    omega
/-! ### rules -/
theorem open_rule1 {w : World} {n : Nat} {c : List Value} {y : DataW H × List MemPlace} (h : DataW.trod enc Tryz.prog w 0 (fun _ => true) true n 118 c = some y) :
    ∃ r : Rl, c = [.string r.n, .int .i64 r.op, .string r.v] := by
  obtain ⟨y0, y1, y2, m, -, hl, h0, h1, h2⟩ := Deep.trod_struct3 Tryz.underlying118 h
  rw [cells118] at hl
  match c, hl with
  | [c0, c1, c2], _ =>
    simp only [cells9, cells3] at h0 h1 h2
    have h0' : DataW.trod enc Tryz.prog w 0 (fun _ => true) true m 9 [c0] = some y0 := h0
    have h1' : DataW.trod enc Tryz.prog w 0 (fun _ => true) true m 3 [c1] = some y1 := h1
    have h2' : DataW.trod enc Tryz.prog w 0 (fun _ => true) true m 9 [c2] = some y2 := h2
    obtain ⟨k0, e0, -, g0⟩ := DataW.trod_string Tryz.underlying9 h0'
    obtain ⟨k1, e1, -, -⟩ := DataW.trod_int Tryz.underlying3 h1'
    obtain ⟨k2, e2, -, g2⟩ := DataW.trod_string Tryz.underlying9 h2'
    cases e0
    cases e1
    cases e2
    exact ⟨⟨k0, k1, k2⟩, rfl⟩
theorem open_rule_list {w : World} : ∀ (css : List (List Value)) (xs : List (DataW H × List MemPlace)), xs.length = css.length →
    (∀ (i : Nat) (c : List Value) (y : DataW H × List MemPlace), css[i]? = some c → xs[i]? = some y → ∃ n, DataW.trod enc Tryz.prog w 0 (fun _ => true) true n 118 c = some y) →
    ∃ T : List Rl, T.length = css.length ∧ css.flatten = flatR T
  | [], _, _, _ => ⟨[], rfl, rfl⟩
  | c :: css, [], h, _ => by simp at h
  | c :: css, y :: xs, h, hall => by
    obtain ⟨T, h1, h2⟩ := open_rule_list css xs (by simpa using h) (fun i c y hc hy => hall (i + 1) c y (by simpa using hc) (by simpa using hy))
    obtain ⟨n, hn⟩ := hall 0 c y rfl rfl
    obtain ⟨p, hx⟩ := open_rule1 hn
    exact ⟨p :: T, by simp [h1], by rw [List.flatten_cons, h2, hx]; rfl⟩
/-- a slice of rules that came in -/
theorem open_rules {w : World} {fuel : Nat} {c : Value} {y : DataW H × List MemPlace} (hf : DataW.trod enc Tryz.prog w 0 (fun _ => true) true fuel 44 [c] = some y) (hs : Small 44 y.1) : ∃ l : List Rl, RdR w c l ∧ l.length ≤ 3518437208883 := by
  obtain ⟨v, css, xs, hv, hrow, hcs, hlen, hall, hd⟩ := open_row Tryz.underlying44 (by rw [cells118]; omega) hf
  injection hv with hv
  subst hv
  rw [cells118] at hcs hrow
  obtain ⟨T, h1, h2⟩ := open_rule_list css xs hlen hall
  rw [← h1, h2] at hrow
  refine ⟨T, hrow, ?_⟩
  rcases hd with ⟨_, e⟩ | ⟨spare, e⟩
  · rw [e] at h1
    rw [List.eq_nil_of_length_eq_zero h1]
    exact Nat.zero_le _
  · rw [e] at hs
    have := small_len Tryz.underlying44 hs
    rw [bytes118, List.length_map] at this
    unfold reachBytes at this
    omega
theorem open_rulesv {w : World} {base : Nat} {v : Value} {d : DataW H} {ps : List MemPlace} (hval : Value.okWide Tryz.prog w .any base 44 v) (h : DataW.Trod enc Tryz.prog w 0 (fun _ => true) true 44 v d ps) (hs : Small 44 d) : ∃ l : List Rl, RdR w v l ∧ l.length ≤ 3518437208883 := by
  obtain ⟨a0, len0, cap0, rfl⟩ := okWide_slice Tryz.underlying44 hval
  obtain ⟨fuel, hf⟩ := h
  have hf' : DataW.trod enc Tryz.prog w 0 (fun _ => true) true fuel 44 [.slice a0 len0 cap0] = some (d, ps) := by simpa [Value.cells] using hf
  exact open_rules hf' hs
/-! ### stamps, writes, steps -/
theorem open_st1 {w : World} {n : Nat} {c : List Value} {y : DataW H × List MemPlace} (h : DataW.trod enc Tryz.prog w 0 (fun _ => true) true n 25 c = some y) :
    ∃ x : Tm, c = [.int .i64 x.wall, .int .u32 x.tick, .int .u32 x.mark] := by
  obtain ⟨y0, y1, y2, m, -, hl, h0, h1, h2⟩ := Deep.trod_struct3 Tryz.underlying25 h
  have hc23 : Tryz.prog.cellsOf 23 = 1 := by kernel_rfl
  rw [cells25] at hl
  match c, hl with
  | [c0, c1, c2], _ =>
    simp only [cells2, hc23] at h0 h1 h2
    have h0' : DataW.trod enc Tryz.prog w 0 (fun _ => true) true m 2 [c0] = some y0 := h0
    have h1' : DataW.trod enc Tryz.prog w 0 (fun _ => true) true m 23 [c1] = some y1 := h1
    have h2' : DataW.trod enc Tryz.prog w 0 (fun _ => true) true m 23 [c2] = some y2 := h2
    obtain ⟨k0, e0, -, -⟩ := DataW.trod_int Tryz.underlying2 h0'
    obtain ⟨k1, e1, -, -⟩ := DataW.trod_int Tryz.underlying23 h1'
    obtain ⟨k2, e2, -, -⟩ := DataW.trod_int Tryz.underlying23 h2'
    cases e0
    cases e1
    cases e2
    exact ⟨⟨k0, k1, k2⟩, rfl⟩
theorem open_stv {w : World} {base : Nat} {v : Value} {d : DataW H} {ps : List MemPlace} (hval : Value.okWide Tryz.prog w .any base 25 v) (h : DataW.Trod enc Tryz.prog w 0 (fun _ => true) true 25 v d ps) :
    ∃ x : Tm, v = x.val := by
  obtain ⟨v0, v1, v2, y0, y1, y2, n, rfl, -, -, h0, h1, h2⟩ := Joins.open_agg3 Tryz.underlying25 (by kernel_rfl) (by kernel_rfl) hval h
  obtain ⟨k0, e0, -, -⟩ := DataW.trod_int Tryz.underlying2 h0
  obtain ⟨k1, e1, -, -⟩ := DataW.trod_int Tryz.underlying23 h1
  obtain ⟨k2, e2, -, -⟩ := DataW.trod_int Tryz.underlying23 h2
  cases e0
  cases e1
  cases e2
  exact ⟨⟨k0, k1, k2⟩, rfl⟩
theorem trod_struct5 {t : TypeId} {f0 f1 f2 f3 f4 : Field} {fuel : Nat} {cs : List Value} {x : DataW H × List MemPlace} {w : World} (ht : Tryz.prog.underlying t = some (.struct #[f0, f1, f2, f3, f4])) (h : DataW.trod enc Tryz.prog w 0 (fun _ => true) true fuel t cs = some x) :
    ∃ y0 y1 y2 y3 y4 n, x.1 = .agg [y0.1, y1.1, y2.1, y3.1, y4.1] ∧ cs.length = Tryz.prog.cellsOf t ∧ DataW.trod enc Tryz.prog w 0 (fun _ => true) true n f0.type ((cs.drop f0.offset).take (Tryz.prog.cellsOf f0.type)) = some y0 ∧
      DataW.trod enc Tryz.prog w 0 (fun _ => true) true n f1.type ((cs.drop f1.offset).take (Tryz.prog.cellsOf f1.type)) = some y1 ∧ DataW.trod enc Tryz.prog w 0 (fun _ => true) true n f2.type ((cs.drop f2.offset).take (Tryz.prog.cellsOf f2.type)) = some y2 ∧
      DataW.trod enc Tryz.prog w 0 (fun _ => true) true n f3.type ((cs.drop f3.offset).take (Tryz.prog.cellsOf f3.type)) = some y3 ∧ DataW.trod enc Tryz.prog w 0 (fun _ => true) true n f4.type ((cs.drop f4.offset).take (Tryz.prog.cellsOf f4.type)) = some y4 := by
  obtain ⟨xs, n, _, rfl, hl, hlen, hf⟩ := DataW.trod_struct ht h
  match xs, hlen with
  | [y0, y1, y2, y3, y4], _ => exact ⟨y0, y1, y2, y3, y4, n, by simp, hl, by simpa using hf 0 f0 rfl, by simpa using hf 1 f1 rfl, by simpa using hf 2 f2 rfl, by simpa using hf 3 f3 rfl, by simpa using hf 4 f4 rfl⟩
/-- what a write says is in memory, and no longer than memory is -/
structure WrR (w : World) (m : Wr) : Prop where
  set : RdP w m.sv m.st
  fit : Fit m.st
  len : m.st.length ≤ 4398046511104
  text : m.x.size ≤ maxLen
theorem open_write1 {w : World} {n : Nat} {c : List Value} {y : DataW H × List MemPlace} (h : DataW.trod enc Tryz.prog w 0 (fun _ => true) true n 43 c = some y) (hs : Small 43 y.1) :
    ∃ m : Wr, c = wcells m ∧ WrR w m := by
  obtain ⟨y0, y1, y2, y3, y4, k, hy, hl, h0, h1, h2, h3, h4⟩ := trod_struct5 Tryz.underlying43 h
  rw [hy] at hs
  have hs0 : Small 41 y0.1 := small_field Tryz.underlying43 hs (j := 0) rfl rfl
  rw [cells43] at hl
  match c, hl with
  | [c0, c1, c2, c3, c4], _ =>
    simp only [cells41, cells2, cells3, cells9] at h0 h1 h2 h3 h4
    have h0' : DataW.trod enc Tryz.prog w 0 (fun _ => true) true k 41 [c0] = some y0 := h0
    have h1' : DataW.trod enc Tryz.prog w 0 (fun _ => true) true k 2 [c1] = some y1 := h1
    have h2' : DataW.trod enc Tryz.prog w 0 (fun _ => true) true k 3 [c2] = some y2 := h2
    have h3' : DataW.trod enc Tryz.prog w 0 (fun _ => true) true k 2 [c3] = some y3 := h3
    have h4' : DataW.trod enc Tryz.prog w 0 (fun _ => true) true k 9 [c4] = some y4 := h4
    obtain ⟨l, hr, hfl, hln⟩ := open_pairs h0' hs0
    obtain ⟨k1, e1, -, -⟩ := DataW.trod_int Tryz.underlying2 h1'
    obtain ⟨k2, e2, -, -⟩ := DataW.trod_int Tryz.underlying3 h2'
    obtain ⟨k3, e3, -, -⟩ := DataW.trod_int Tryz.underlying2 h3'
    obtain ⟨k4, e4, -, g4⟩ := DataW.trod_string Tryz.underlying9 h4'
    cases e1
    cases e2
    cases e3
    cases e4
    exact ⟨⟨l, k1, k2, k3, k4, c0⟩, rfl, hr, hfl, hln, g4⟩
theorem list12 {α : Type} {l : List α} (h : l.length = 12) : ∃ c0 c1 c2 c3 c4 c5 c6 c7 c8 c9 c10 c11, l = [c0, c1, c2, c3, c4, c5, c6, c7, c8, c9, c10, c11] := by
  match l, h with
  | [c0, c1, c2, c3, c4, c5, c6, c7, c8, c9, c10, c11], _ => exact ⟨c0, c1, c2, c3, c4, c5, c6, c7, c8, c9, c10, c11, rfl⟩
theorem list6 {α : Type} {l : List α} (h : l.length = 6) : ∃ c0 c1 c2 c3 c4 c5, l = [c0, c1, c2, c3, c4, c5] := by
  match l, h with
  | [c0, c1, c2, c3, c4, c5], _ => exact ⟨c0, c1, c2, c3, c4, c5, rfl⟩
theorem open_op1 {w : World} {n : Nat} {c : List Value} {y : DataW H × List MemPlace} (h : DataW.trod enc Tryz.prog w 0 (fun _ => true) true n 46 c = some y) (hs : Small 46 y.1) :
    ∃ o : Op, c = ocells o ∧ OpR w o := by
  obtain ⟨xs, m, -, hy, hl, hlen, hf⟩ := DataW.trod_struct Tryz.underlying46 h
  rw [cells46] at hl
  obtain ⟨c0, c1, c2, c3, c4, c5, c6, c7, c8, c9, c10, c11, rfl⟩ := list12 hl
  obtain ⟨y0, y1, y2, y3, y4, y5, rfl⟩ := list6 hlen
  have hy' : y.1 = .agg [y0.1, y1.1, y2.1, y3.1, y4.1, y5.1] := by rw [hy]; rfl
  rw [hy'] at hs
  have hs1 : Small 43 y1.1 := small_field Tryz.underlying46 hs (j := 1) rfl rfl
  have hs3 : Small 44 y3.1 := small_field Tryz.underlying46 hs (j := 3) rfl rfl
  have h0 : DataW.trod enc Tryz.prog w 0 (fun _ => true) true m 3 (([c0, c1, c2, c3, c4, c5, c6, c7, c8, c9, c10, c11].drop 0).take (Tryz.prog.cellsOf 3)) = some y0 := by have h := hf 0 _ rfl; exact h
  have h1 : DataW.trod enc Tryz.prog w 0 (fun _ => true) true m 43 (([c0, c1, c2, c3, c4, c5, c6, c7, c8, c9, c10, c11].drop 1).take (Tryz.prog.cellsOf 43)) = some y1 := by have h := hf 1 _ rfl; exact h
  have h2 : DataW.trod enc Tryz.prog w 0 (fun _ => true) true m 25 (([c0, c1, c2, c3, c4, c5, c6, c7, c8, c9, c10, c11].drop 6).take (Tryz.prog.cellsOf 25)) = some y2 := by have h := hf 2 _ rfl; exact h
  have h3 : DataW.trod enc Tryz.prog w 0 (fun _ => true) true m 44 (([c0, c1, c2, c3, c4, c5, c6, c7, c8, c9, c10, c11].drop 9).take (Tryz.prog.cellsOf 44)) = some y3 := by have h := hf 3 _ rfl; exact h
  have h4 : DataW.trod enc Tryz.prog w 0 (fun _ => true) true m 2 (([c0, c1, c2, c3, c4, c5, c6, c7, c8, c9, c10, c11].drop 10).take (Tryz.prog.cellsOf 2)) = some y4 := by have h := hf 4 _ rfl; exact h
  have h5 : DataW.trod enc Tryz.prog w 0 (fun _ => true) true m 2 (([c0, c1, c2, c3, c4, c5, c6, c7, c8, c9, c10, c11].drop 11).take (Tryz.prog.cellsOf 2)) = some y5 := by have h := hf 5 _ rfl; exact h
  rw [cells3] at h0
  rw [cells43] at h1
  rw [cells25] at h2
  rw [cells44] at h3
  rw [cells2] at h4 h5
  have h0' : DataW.trod enc Tryz.prog w 0 (fun _ => true) true m 3 [c0] = some y0 := h0
  have h1' : DataW.trod enc Tryz.prog w 0 (fun _ => true) true m 43 [c1, c2, c3, c4, c5] = some y1 := h1
  have h2' : DataW.trod enc Tryz.prog w 0 (fun _ => true) true m 25 [c6, c7, c8] = some y2 := h2
  have h3' : DataW.trod enc Tryz.prog w 0 (fun _ => true) true m 44 [c9] = some y3 := h3
  have h4' : DataW.trod enc Tryz.prog w 0 (fun _ => true) true m 2 [c10] = some y4 := h4
  have h5' : DataW.trod enc Tryz.prog w 0 (fun _ => true) true m 2 [c11] = some y5 := h5
  obtain ⟨k0, e0, -, -⟩ := DataW.trod_int Tryz.underlying3 h0'
  obtain ⟨m1, e1, g1⟩ := open_write1 h1' hs1
  obtain ⟨t2, e2⟩ := open_st1 h2'
  obtain ⟨r3, g3, g3l⟩ := open_rules h3' hs3
  obtain ⟨k4, e4, -, -⟩ := DataW.trod_int Tryz.underlying2 h4'
  obtain ⟨k5, e5, -, -⟩ := DataW.trod_int Tryz.underlying2 h5'
  cases e0
  unfold wcells at e1
  cases e1
  cases e2
  cases e4
  cases e5
  exact ⟨⟨k0, m1, t2, r3, k4, k5, c9⟩, rfl, g1.set, g3, g1.fit, g1.len, g1.text, g3l⟩
theorem open_op_list {w : World} : ∀ (css : List (List Value)) (xs : List (DataW H × List MemPlace)), xs.length = css.length →
    (∀ (i : Nat) (c : List Value) (y : DataW H × List MemPlace), css[i]? = some c → xs[i]? = some y → ∃ n, DataW.trod enc Tryz.prog w 0 (fun _ => true) true n 46 c = some y) → (∀ y ∈ xs, Small 46 y.1) →
    ∃ T : List Op, T.length = css.length ∧ css.flatten = flatO T ∧ ∀ o ∈ T, OpR w o
  | [], _, _, _, _ => ⟨[], rfl, rfl, by simp⟩
  | c :: css, [], h, _, _ => by simp at h
  | c :: css, y :: xs, h, hall, hsm => by
    obtain ⟨T, h1, h2, h3⟩ := open_op_list css xs (by simpa using h) (fun i c y hc hy => hall (i + 1) c y (by simpa using hc) (by simpa using hy)) (fun y hy => hsm y (by simp [hy]))
    obtain ⟨n, hn⟩ := hall 0 c y rfl rfl
    obtain ⟨o, hx, hok⟩ := open_op1 hn (hsm y (by simp))
    refine ⟨o :: T, by simp [h1], by rw [List.flatten_cons, h2, hx]; rfl, fun z hz => ?_⟩
    rcases List.mem_cons.1 hz with rfl | hz
    · exact hok
    · exact h3 z hz
/-- a slice of steps that came in -/
theorem open_ops {w : World} {base : Nat} {v : Value} {d : DataW H} {ps : List MemPlace} (hval : Value.okWide Tryz.prog w .any base 22 v) (h : DataW.Trod enc Tryz.prog w 0 (fun _ => true) true 22 v d ps) (hs : Small 22 d) :
    ∃ l : List Op, RdO w v l := by
  obtain ⟨a0, len0, cap0, rfl⟩ := okWide_slice Tryz.underlying22 hval
  obtain ⟨fuel, hf⟩ := h
  obtain ⟨v, css, xs, hv, hrow, hcs, hlen, hall, hd⟩ := open_row Tryz.underlying22 (by rw [cells46]; omega) hf
  simp [Value.cells] at hv
  subst hv
  have hsm : ∀ y ∈ xs, Small 46 y.1 := fun y hy => by
    rcases hd with ⟨_, e⟩ | ⟨spare, e⟩
    · rw [e] at hlen
      rw [List.eq_nil_of_length_eq_zero hlen] at hy
      cases hy
    · have e' : d = .slice (xs.map (·.1)) spare := e
      rw [e'] at hs
      exact small_elem Tryz.underlying22 hs (List.mem_map.2 ⟨y, hy, rfl⟩)
  obtain ⟨T, h1, h2, h3⟩ := open_op_list css xs hlen hall hsm
  rw [cells46, ← h1, h2] at hrow
  exact ⟨T, hrow, h3⟩
/-- the library's variable holds some number -/
theorem glob_of {w : World} (h : w.ShapedOpen Tryz.prog) : Glob w := by
  have := cell_of_shapedOpen_int (g := 0) (t := 3) (zero := #[.int .i64 0]) h (of_decide_eq_true (by kernel_rfl)) (by kernel_rfl) rfl (by kernel_rfl) (by kernel_rfl) Tryz.underlying3
  exact this
end
end Go.Proofs.YtplieoalfbpniaaGreat
