/- What a slice of steps that came in reads as. -/
import Derived.Test.YtokmiphgalpahaaWN
import Derived.Test.YtokmiphgalpahaaKtL
import Derived.Lib.SmallJoins
namespace Go.Proofs.Ytokmiphgalpahaa
open Go.RowKit Go.Kt Go.ChangeShapes Go.WideShapes
set_option maxRecDepth 100000

/-- a step -/
structure Op where
  kind : Int
  n : Int
  p : List UInt8
  keep : List Int
def Op.vals (o : Op) (pv kv : Value) : List Value := [.int .i64 o.kind, .int .i64 o.n, pv, kv]
def ocells (os : List (Op × Value × Value)) : List Value := (os.map fun x => x.1.vals x.2.1 x.2.2).flatten
theorem ocells_get (os : List (Op × Value × Value)) (i c : Nat) (x : Op × Value × Value) (h : os[i]? = some x) (hc : c < 4) : (ocells os)[i * 4 + c]? = (x.1.vals x.2.1 x.2.2)[c]? := by
  unfold ocells
  rw [flatten_get 4 (by omega) _ (by intro y hy; obtain ⟨z, _, rfl⟩ := List.mem_map.1 hy; rfl)]
  rw [show (i * 4 + c) / 4 = i by omega, show (i * 4 + c) % 4 = c by omega, List.getElem?_map, h]
  rfl
def RdZ (w : World) (v : Value) (l : List Int) : Prop := RdRow 1 w v l.length (l.map encZ)
/-- what one step's slices read as, and where they lie -/
structure OpOk (w : World) (o : Op) (pv kv : Value) : Prop where
  p : Rd8 w pv o.p
  keep : RdZ w kv o.keep
  kind : Rng o.kind
  n : Rng o.n
def RdO (w : World) (v : Value) (l : List Op) : Prop := ∃ os : List (Op × Value × Value), os.map (·.1) = l ∧ RdRow 4 w v os.length (ocells os) ∧ (∀ x ∈ os, OpOk w x.1 x.2.1 x.2.2)
theorem RdO.open {w : World} {v : Value} {l : List Op} (h : RdO w v l) : ∃ a cap, v = .slice a l.length cap ∧ l.length ≤ cap ∧ cap ≤ 9223372036854775807 ∧
    ∀ (i : Nat) (o : Op), l[i]? = some o → ∃ b q pv kv, a = some ⟨b, q, none⟩ ∧ OpOk w o pv kv ∧ w.cell? ⟨b, q + i * 4, none⟩ = some (.int .i64 o.kind) ∧ w.cell? ⟨b, q + i * 4 + 1, none⟩ = some (.int .i64 o.n) ∧ w.cell? ⟨b, q + i * 4 + 2, none⟩ = some pv ∧ w.cell? ⟨b, q + i * 4 + 3, none⟩ = some kv := by
  obtain ⟨os, rfl, ⟨_, a, cap, rfl, h1, h2, _, h5⟩, hok⟩ := h
  refine ⟨a, cap, by rw [List.length_map], by rw [List.length_map]; exact h1, h2, fun i o hi => ?_⟩
  rw [List.getElem?_map] at hi
  cases hx : os[i]? with
  | none => rw [hx] at hi; cases hi
  | some x =>
    rw [hx] at hi
    obtain rfl : x.1 = o := by simpa using hi
    obtain ⟨b, q, rfl, e0⟩ := h5 _ _ ((ocells_get os i 0 x hx (by omega)).trans rfl)
    obtain ⟨b', q', e, e1⟩ := h5 _ _ ((ocells_get os i 1 x hx (by omega)).trans rfl)
    cases e
    obtain ⟨b', q', e, e2⟩ := h5 _ _ ((ocells_get os i 2 x hx (by omega)).trans rfl)
    cases e
    obtain ⟨b', q', e, e3⟩ := h5 _ _ ((ocells_get os i 3 x hx (by omega)).trans rfl)
    cases e
    exact ⟨b, q, _, _, rfl, hok x (List.mem_of_getElem? hx), e0, by rw [Nat.add_assoc]; exact e1, by rw [Nat.add_assoc]; exact e2, by rw [Nat.add_assoc]; exact e3⟩
section
variable {H : Type} {enc : TypeId × Value → H}
theorem i64_wf {a : Int} (h : (Lit.int .i64 a).wf = true) : -9223372036854775808 ≤ a ∧ a ≤ 9223372036854775807 := by
  simpa [Lit.wf, IntKind.min, IntKind.max, IntKind.signed, IntKind.bits] using h
theorem cells5 : Try.prog.cellsOf 5 = 1 := by kernel_rfl
theorem cells3 : Try.prog.cellsOf 3 = 1 := by kernel_rfl
theorem open_z_list {w : World} : ∀ (css : List (List Value)) (xs : List (DataW H × List MemPlace)), xs.length = css.length →
    (∀ (i : Nat) (c : List Value) (y : DataW H × List MemPlace), css[i]? = some c → xs[i]? = some y → ∃ n, DataW.trod enc Try.prog w 0 (fun _ => true) true n 3 c = some y) →
    (∀ c ∈ css, c.length = 1) → ∃ T : List Int, T.length = css.length ∧ css.flatten = T.map encZ
  | [], _, _, _, _ => ⟨[], rfl, rfl⟩
  | c :: css, [], h, _, _ => by simp at h
  | c :: css, y :: xs, h, hall, h1 => by
    obtain ⟨T, h2, h3⟩ := open_z_list css xs (by simpa using h) (fun i c y hc hy => hall (i + 1) c y (by simpa using hc) (by simpa using hy)) (fun c hc => h1 c (by simp [hc]))
    obtain ⟨n, hn⟩ := hall 0 c y rfl rfl
    have hl := h1 c (by simp)
    match c, hl with
    | [c0], _ =>
      obtain ⟨k0, e0, -, -⟩ := DataW.trod_int Try.underlying3 hn
      cases e0
      exact ⟨k0 :: T, by simp [h2], by rw [List.flatten_cons, h3]; rfl⟩
theorem open_rdz {w : World} {fuel : Nat} {c : Value} {y : DataW H × List MemPlace} (hf : DataW.trod enc Try.prog w 0 (fun _ => true) true fuel 36 [c] = some y) : ∃ l : List Int, RdZ w c l := by
  obtain ⟨v, css, xs, hv, hrow, hcs, hlen, hall, hd⟩ := open_row Try.underlying36 (by rw [cells3]; omega) hf
  injection hv with hv
  subst hv
  rw [cells3] at hcs hrow
  obtain ⟨T, h1, h2⟩ := open_z_list css xs hlen hall hcs
  rw [← h1, h2] at hrow
  exact ⟨T, hrow⟩
theorem open_op1 {w : World} {n : Nat} {c : List Value} {y : DataW H × List MemPlace} (h : DataW.trod enc Try.prog w 0 (fun _ => true) true n 46 c = some y) :
    ∃ (o : Op) (pv kv : Value), c = o.vals pv kv ∧ OpOk w o pv kv := by
  obtain ⟨y0, y1, y2, y3, m, -, hl, h0, h1, h2, h3⟩ := Joins.trod_struct4 Try.underlying46 h
  have hc : Try.prog.cellsOf 46 = 4 := by kernel_rfl
  have hc28 : Try.prog.cellsOf 22 = 1 := by kernel_rfl
  have hc29 : Try.prog.cellsOf 36 = 1 := by kernel_rfl
  rw [hc] at hl
  match c, hl with
  | [c0, c1, c2, c3], _ =>
    simp only [cells3, hc28, hc29] at h0 h1 h2 h3
    have h0' : DataW.trod enc Try.prog w 0 (fun _ => true) true m 3 [c0] = some y0 := h0
    have h1' : DataW.trod enc Try.prog w 0 (fun _ => true) true m 3 [c1] = some y1 := h1
    have h2' : DataW.trod enc Try.prog w 0 (fun _ => true) true m 22 [c2] = some y2 := h2
    have h3' : DataW.trod enc Try.prog w 0 (fun _ => true) true m 36 [c3] = some y3 := h3
    obtain ⟨k0, e0, -, g0⟩ := DataW.trod_int Try.underlying3 h0'
    obtain ⟨k1, e1, -, g1⟩ := DataW.trod_int Try.underlying3 h1'
    obtain ⟨bv, l, e2, hr, -⟩ := open_rd8' Try.underlying22 Try.underlying5 cells5 h2'
    obtain ⟨z, hz⟩ := open_rdz h3'
    cases e0
    cases e1
    cases e2
    exact ⟨⟨k0, k1, l, z⟩, _, _, rfl, hr, hz, i64_wf g0, i64_wf g1⟩
theorem open_op_list {w : World} : ∀ (css : List (List Value)) (xs : List (DataW H × List MemPlace)), xs.length = css.length →
    (∀ (i : Nat) (c : List Value) (y : DataW H × List MemPlace), css[i]? = some c → xs[i]? = some y → ∃ n, DataW.trod enc Try.prog w 0 (fun _ => true) true n 46 c = some y) →
    ∃ T : List (Op × Value × Value), T.length = css.length ∧ css.flatten = ocells T ∧ ∀ x ∈ T, OpOk w x.1 x.2.1 x.2.2
  | [], _, _, _ => ⟨[], rfl, rfl, by simp⟩
  | c :: css, [], h, _ => by simp at h
  | c :: css, y :: xs, h, hall => by
    obtain ⟨T, h1, h2, h3⟩ := open_op_list css xs (by simpa using h) (fun i c y hc hy => hall (i + 1) c y (by simpa using hc) (by simpa using hy))
    obtain ⟨n, hn⟩ := hall 0 c y rfl rfl
    obtain ⟨o, pv, kv, hx, hok⟩ := open_op1 hn
    refine ⟨(o, pv, kv) :: T, by simp [h1], by rw [List.flatten_cons, h2, hx]; rfl, fun z hz => ?_⟩
    rcases List.mem_cons.1 hz with rfl | hz
    · exact hok
    · exact h3 z hz
theorem open_ops {w : World} {base : Nat} {v : Value} {d : DataW H} {ps : List MemPlace} (hval : Value.okWide Try.prog w .any base 41 v) (h : DataW.Trod enc Try.prog w 0 (fun _ => true) true 41 v d ps) :
    ∃ l : List Op, RdO w v l := by
  obtain ⟨a0, len0, cap0, rfl⟩ := okWide_slice Try.underlying41 hval
  obtain ⟨fuel, hf⟩ := h
  have hc : Try.prog.cellsOf 46 = 4 := by kernel_rfl
  obtain ⟨v, css, xs, hv, hrow, hcs, hlen, hall, hd⟩ := open_row Try.underlying41 (by rw [hc]; omega) hf
  simp [Value.cells] at hv
  subst hv
  obtain ⟨T, h1, h2, h3⟩ := open_op_list css xs hlen hall
  rw [hc, ← h1, h2] at hrow
  exact ⟨T.map (·.1), T, rfl, hrow, h3⟩
end
end Go.Proofs.Ytokmiphgalpahaa
