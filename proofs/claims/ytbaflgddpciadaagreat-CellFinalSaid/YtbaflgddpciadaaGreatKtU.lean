/- General facts, over any program: a slice that is only read (RdRow), a slice whose array is the call's own (Own), and append from the one to the other. General facts, over any program: a map of the call's own as a function from keys to values (whatever the element type). General facts: blocks known whole; append as the last step of a region that draws its order. General facts, over any program: a map of the call's own that holds rows of the call's own, each apart from all others. General facts, over any program: from a contract 'it returns true, and what was there is as it was' to a row's post; what an argument of some type reads as. General facts, over any program: a store at a key that is there, inside a range over the same map. -/
import Derived.WalkKit
import Derived.Lib.Hide
import Derived.Deep.Draws
import Derived.Laws.BytesArg
import Derived.Laws.IdiomStrings
import Derived.Maps.OwnSet
import Derived.Maps.OwnOps
import Derived.ProofKit
import Derived.OpenShut
import Derived.JoinedCond
import Derived.Carry
import Derived.ChangeSlices
import Derived.Lib.SlBytesConst
import Derived.Maps.Range
import Derived.Maps.RangeWalk
set_option linter.unusedVariables false
set_option linter.unusedSimpArgs false
namespace Go.Kt
open Go.RowKit

/-- the walk stands still before an operation that is met by a law of its own -/
def Hold (p : Prop) : Prop := p
theorem Hold.mk {p : Prop} (h : Hold p) : p := h

/-- a slice value of n elements (each of 'size' cells) that reads as the cells xs -/
def RdRow (size : Nat) (w : World) (v : Value) (n : Nat) (xs : List Value) : Prop :=
  xs.length = n * size ∧ ∃ a cap, v = .slice a n cap ∧ n ≤ cap ∧ cap ≤ maxLen ∧ (a = none → cap = 0) ∧
    ∀ j u, xs[j]? = some u → ∃ b o, a = some ⟨b, o, none⟩ ∧ w.cell? ⟨b, o + j, none⟩ = some u

/-- a slice value whose elements lie at the head of an array of their own -/
def Own (e : TypeId) (size : Nat) (w : World) (v : Value) (n : Nat) (xs : List Value) : Prop := w.ownsRow 0 e size v n xs

theorem Own.rd {e : TypeId} {size : Nat} {w : World} {v : Value} {n : Nat} {xs : List Value} (h : Own e size w v n xs) : RdRow size w v n xs := by
  rcases h with ⟨hl, ⟨rfl, h0⟩ | ⟨g, cap, cur, rfl, hb, hg, hn, hm, hcs, ht⟩⟩
  · subst h0
    refine ⟨hl, none, 0, rfl, by omega, by simp [maxLen], fun _ => rfl, fun j u hj => ?_⟩
    have : xs = [] := List.eq_nil_of_length_eq_zero (by simpa using hl)
    subst this
    simp at hj
  · refine ⟨hl, some ⟨g, 0, none⟩, cap, rfl, hn, hm, (fun h => by cases h), fun j u hj => ⟨g, 0, rfl, ?_⟩⟩
    have hjl : j < n * size := by
      have := (List.getElem?_eq_some_iff.1 hj).1
      omega
    rw [Nat.zero_add, cell_of_row w g j cur e (0, 0) hg]
    have h2 := congrArg (fun z => z[j]?) ht
    simp only [List.getElem?_take, if_pos hjl, hj] at h2
    simpa using h2

/-- only what lies in blocks that are there already is read -/
theorem RdRow.below {size : Nat} {w w' : World} {v : Value} {n : Nat} {xs : List Value} (h : RdRow size w v n xs) (hb : Below w.heap.size w w') : RdRow size w' v n xs := by
  obtain ⟨hl, a, cap, rfl, h1, h2, h3, h5⟩ := h
  refine ⟨hl, a, cap, rfl, h1, h2, h3, fun j u hj => ?_⟩
  obtain ⟨b, o, ha, hc⟩ := h5 j u hj
  exact ⟨b, o, ha, (hb.cell (p := ⟨b, o + j, none⟩) (World.block_lt_of_cell? w _ hc)).trans hc⟩

theorem Own.keep {e : TypeId} {size : Nat} {w w' : World} {v : Value} {n : Nat} {xs : List Value} (h : Own e size w v n xs) (hb : ∀ b, v.ownBlock = some b → w'.heap[b]? = w.heap[b]?) : Own e size w' v n xs := by
  refine ⟨h.1, ?_⟩
  rcases h.2 with hn | ⟨g, cap, cur, rfl, hbg, hgg, rest⟩
  · exact .inl hn
  · exact .inr ⟨g, cap, cur, rfl, hbg, (hb g rfl).trans hgg, rest⟩

theorem Own.lt {e : TypeId} {size : Nat} {w : World} {v : Value} {n : Nat} {xs : List Value} (h : Own e size w v n xs) : ∀ b, v.ownBlock = some b → b < w.heap.size :=
  fun b hb => (World.ownsRow.lt h b hb).2

theorem Own.below {e : TypeId} {size B : Nat} {w w' : World} {v : Value} {n : Nat} {xs : List Value} (h : Own e size w v n xs) (hb : Below B w w') (hB : ∀ b, v.ownBlock = some b → b < B) : Own e size w' v n xs :=
  h.keep fun b hbb => hb.block b (hB b hbb)

theorem Own.below' {e : TypeId} {size : Nat} {w w' : World} {v : Value} {n : Nat} {xs : List Value} (h : Own e size w v n xs) (hb : Below w.heap.size w w') : Own e size w' v n xs :=
  h.below hb h.lt

theorem Own.grown {e : TypeId} {size : Nat} {w w' : World} {v : Value} {n : Nat} {xs : List Value} {row : Option Nat} (h : Own e size w v n xs) (hg : w.grownBy w' row) (hne : ∀ b, v.ownBlock = some b → row ≠ some b) : Own e size w' v n xs :=
  h.keep fun b hbb => hg.block b (h.lt b hbb) (fun e => hne b hbb e.symm)

theorem own_lit (w : World) (e : TypeId) (size : Nat) (cs : Array Value) (n : Nat) (hm : n ≤ maxLen) (hs : cs.size = n * size) :
    Own e size (w.alloc (.cells cs e)) (.slice (some ⟨w.heap.size, 0, none⟩) n n) n cs.toList := World.ownsRow_lit w cs n (Nat.zero_le _) hm hs

theorem own_nil (w : World) (e : TypeId) (size : Nat) : Own e size w (.slice none 0 0) 0 [] := World.ownsRow_nil w 0 e size

theorem below_alloc (w : World) (o : Obj) : Below w.heap.size w (w.alloc o) := (Below.refl _ _).alloc (Nat.le_refl _) o

theorem below_grown {B : Nat} {w w' : World} {v : Value} (hg : w.grownBy w' v.ownBlock) (hB : B ≤ w.heap.size) (hv : ∀ b, v.ownBlock = some b → B ≤ b) : Below B w w' :=
  (Below.refl B w).grown hg hB hv

/-- the facts on a slice type's element that the laws on append ask for -/
structure ElemOk (P : Program) (t e : TypeId) (z : Value) (size bytes : Nat) : Prop where
  under : P.underlying t = some (.slice e)
  info : ∃ i, P.info? e = some i ∧ i.zero = some z ∧ i.size = size ∧ i.bytes = bytes
  cells : z.cells.size = size
  pos : 0 < size

theorem run_app {P : Program} (w : World) (t ty e : TypeId) (z : Value) (size bytes : Nat) (ok : ElemOk P t e z size bytes)
    (v : Value) (n : Nat) (xs : List Value) (hown : Own e size w v n xs)
    (x : Value) (m : Nat) (news : List Value) (hx : RdRow size w x m news) (h1 : ∀ u ∈ news, u.oneCell' = true)
    (h63 : n + m ≤ maxLen) (hbytes : (n + m) * bytes ≤ 140737488355328) :
    ∃ v' w', (Builtin.append_ #[t, t] ty #[v, x]).run P w = .ok v' w' ∧ Own e size w' v' (n + m) (xs ++ news) ∧ w.grownBy w' v.ownBlock ∧
      (∀ b, v'.ownBlock = some b → v.ownBlock = some b ∨ w.heap.size ≤ b) := by
  obtain ⟨ht, ⟨i, hi, hz, hsize, hby⟩, hzs, hsz⟩ := ok
  obtain ⟨hl, ax, cx, rfl, hx1, hx2, hx3, hx5⟩ := hx
  cases ax with
  | none =>
    obtain rfl : cx = 0 := hx3 rfl
    obtain rfl : m = 0 := by omega
    have hnews : news = [] := List.eq_nil_of_length_eq_zero (by simpa using hl)
    subst hnews
    refine ⟨v, w, run_append_owned_none w 0 t ty e i size ht hi v n xs hown, ?_, ⟨rfl, rfl, rfl, Nat.le_refl _, fun _ _ _ => rfl⟩, fun b hb => .inl hb⟩
    simpa using hown
  | some ad =>
    have hnews : ∀ j u, news[j]? = some u → w.cell? (ad.add j) = some u := by
      intro j u hj
      obtain ⟨b, o, he, hc⟩ := hx5 j u hj
      cases he
      rw [Addr.add_lit]; exact hc
    by_cases hroom : ∃ g cap, v = .slice (some ⟨g, 0, none⟩) n cap ∧ n + m ≤ cap
    · obtain ⟨g, cap, rfl, hroom⟩ := hroom
      obtain ⟨w', hr, h2, h3⟩ := run_append_fits (P := P) w 0 t ty e i size ht hi hsize g n cap xs hown ad m cx news hl hnews h1 hroom
      exact ⟨_, w', hr, h2, h3, fun b hb => .inl hb⟩
    · obtain ⟨v', w', hr, h2, h3, h4⟩ := run_append_own (P := P) w 0 t ty e i z size bytes ht hi hz hsize hby hzs hsz v n xs hown ad m cx news hl hnews h1 h63 hbytes (Nat.zero_le _)
      refine ⟨v', w', hr, h2, h3, fun b hb => ?_⟩
      -- it was grown into a new row
      rcases hown.2 with ⟨rfl, rfl⟩ | ⟨g, cap, cur, rfl, _, hg, hnc, hcm, hcs, htake⟩
      · by_cases hm : m = 0
        · rw [(h4.2 ⟨rfl, hm⟩)] at hb
          cases hb
        · have hr2 := run_append_nil (P := P) w t ty e i z ht hi hz ad m cx news (by rw [hsize]; exact hl) hnews (by omega) (by simp only [maxLen] at h63; omega) (by rw [hby]; simp only [Nat.zero_add] at hbytes; omega)
          rw [hr2] at hr
          injection hr with e1 e2
          rw [← e1] at hb
          injection hb with hb
          exact .inr (by rw [← hb]; exact Nat.le_refl _)
      · have hgrow : cap < n + m := by
          rcases Nat.lt_or_ge cap (n + m) with h | h
          · exact h
          · exact (hroom ⟨g, cap, rfl, h⟩).elim
        have holds : ∀ j u, xs[j]? = some u → w.cell? ((⟨g, 0, none⟩ : Addr).add j) = some u := World.ownsRow.cells (g := g) hown rfl
        have hr2 := run_append_grow (P := P) w t ty e i z ht hi hz ⟨g, 0, none⟩ n cap xs (by rw [hsize]; exact hown.1) holds ad m cx news (by rw [hsize]; exact hl) hnews hgrow (by simp only [maxLen] at h63; omega) (by rw [hby]; exact growslice_fits hgrow hbytes)
        rw [hr2] at hr
        injection hr with e1 e2
        rw [← e1] at hb
        injection hb with hb
        exact .inr (by rw [← hb]; exact Nat.le_refl _)

theorem wpList_want {P : Program} {w : World} {ops : Array Oper} {rest : List Oper} {o : Oper} {a : Act} {Q : Exit → Act → World → Prop} (hw : Region.wanted o (yielded ops a.tmps) = true)
    (h : ∀ K : Act → World → Prop, (∀ a w, wpList P ops Q rest a w → K a w) → o.wp P a w K Q) : wpList P ops Q (o :: rest) a w :=
  wpList_step fun K hK => by rw [if_pos hw]; exact h K hK

/-- 'append(s, x...)': s the call's own, x whatever is read -/
theorem wpList_app {P : Program} {w : World} {ops : Array Oper} {rest : List Oper} {o : Oper} {a : Act} {Q : Exit → Act → World → Prop} (hgd : Region.wanted o (yielded ops a.tmps) = true) (s x : Operand) (t : TypeId)
    (ho : o.op = .call { callee := .builtin .append, args := #[s, x], argTypes := #[t, t] })
    {e : TypeId} {z : Value} {size bytes : Nat} (ok : ElemOk P t e z size bytes)
    {v : Value} {n : Nat} {xs : List Value} {vx : Value} {m : Nat} {news : List Value} (hs : a.eval s = v) (hx : a.eval x = vx)
    (hown : Own e size w v n xs) (hrd : RdRow size w vx m news) (h1 : ∀ u ∈ news, u.oneCell' = true)
    (h63 : n + m ≤ maxLen) (hbytes : (n + m) * bytes ≤ 140737488355328)
    (h : ∀ v' w', Own e size w' v' (n + m) (xs ++ news) → w.grownBy w' v.ownBlock → (∀ b, v'.ownBlock = some b → v.ownBlock = some b ∨ w.heap.size ≤ b) → wpList P ops Q rest (a.put o.dst v') w') : wpList P ops Q (o :: rest) a w := by
  refine wpList_want hgd fun K hK => ?_
  obtain ⟨v', w', hr, h2, h3, h4⟩ := run_app (P := P) w t o.type e z size bytes ok v n xs hown vx m news hrd h1 h63 hbytes
  unfold Oper.wp execOp
  simp only [ho, resolve, invoke, builtin, Sem.run_bind, Sem.run_pure, Result.andThen_ok, List.map_toArray, List.map_cons, List.map_nil, hs, hx, hr]
  exact hK _ _ (h v' w' h2 h3 h4)

/-! ### x[lo:hi] -/
theorem RdRow.cut {size : Nat} {w : World} {a : Option Addr} {n cap : Nat} {xs : List Value} (h : RdRow size w (.slice a n cap) n xs) (lo hi : Nat) (h1 : lo ≤ hi) (h2 : hi ≤ n) :
    RdRow size w (.slice (if cap = lo then a else a.map (·.add (lo * size))) (hi - lo) (cap - lo)) (hi - lo) ((xs.drop (lo * size)).take ((hi - lo) * size)) := by
  obtain ⟨hl, a', cap', he, g1, g2, g3, g5⟩ := h
  cases he
  refine ⟨?_, _, _, rfl, by omega, by omega, fun h => ?_, fun j u hj => ?_⟩
  · rw [List.length_take, List.length_drop, hl, ← Nat.sub_mul, Nat.min_eq_left (Nat.mul_le_mul_right _ (by omega))]
  · split at h
    · omega
    · cases a with
      | none => have := g3 rfl; omega
      | some ad => simp at h
  · rw [List.getElem?_take] at hj
    split at hj
    · rename_i hjl
      rw [List.getElem?_drop] at hj
      obtain ⟨b, o, rfl, hc⟩ := g5 _ u hj
      have hlo : ¬ cap = lo := by
        intro e
        have : hi - lo = 0 := by omega
        rw [this] at hjl
        omega
      refine ⟨b, o + lo * size, ?_, by rw [Nat.add_assoc]; exact hc⟩
      rw [if_neg hlo]
      simp [Addr.add]
      try (split <;> simp_all)
    · cases hj

theorem run_sliceAt {P : Program} {t e : TypeId} (ht : P.underlying t = some (.slice e)) (w : World) (x : Value) (lo hi mx : Option Value) : (Instr.sliceAt t x lo hi mx).run P w = (Instr.slice t x lo hi mx).run P w := by
  simp [Instr.sliceAt, run_underlying ht]
theorem run_cut_lo {P : Program} {t e : TypeId} {z : Value} {size bytes : Nat} (ok : ElemOk P t e z size bytes) (w : World) (a : Option Addr) (n cap lo : Nat) (kl : IntKind) (h2 : lo ≤ n) (h3 : n ≤ cap) :
    (Instr.slice t (.slice a n cap) (some (.int kl (lo : Int))) none none).run P w = .ok (.slice (if cap = lo then a else a.map (·.add (lo * size))) (n - lo) (cap - lo)) w := by
  obtain ⟨ht, ⟨i, hi', hz, hsize, hby⟩, hzs, hsz⟩ := ok
  simp [Instr.slice, run_underlying ht, Instr.sliceBounds, run_sliceBound, sizeOf, typeInfo, hi', hsize, *]
section
variable {P : Program} {ops : Array Oper} {rest : List Oper} {a : Act} {Q : Exit → Act → World → Prop} {w : World} {d : Option Tmp} {t ty : TypeId} {x : Operand} {lo hi mx : Option Operand} {pos : String} {af : Array Edge}
theorem hold_slice {g : Option (Nat × Bool)} (h : Hold (wpList P ops Q (⟨d, .slice t x lo hi mx, ty, pos, af, g⟩ :: rest) a w)) : wpList P ops Q (⟨d, .slice t x lo hi mx, ty, pos, af, g⟩ :: rest) a w := h
theorem wpList_cut_lo {e : TypeId} {z : Value} {size bytes : Nat} (ok : ElemOk P t e z size bytes) {l : Operand} {vx : Value} {n : Nat} {xs : List Value} (lo : Nat) {kl : IntKind} {L : Int}
    (hx : a.eval x = vx) (hl : a.eval l = .int kl L) (eL : L = lo) (hrd : RdRow size w vx n xs) (h1 : lo ≤ n)
    (hK : ∀ v', RdRow size w v' (n - lo) (xs.drop (lo * size)) → wpList P ops Q rest (a.put d v') w) : wpList P ops Q (⟨d, .slice t x (some l) none none, ty, pos, af, none⟩ :: rest) a w := by
  refine wpList_plain rfl fun K hK' => ?_
  have hrd' := hrd
  obtain ⟨hlen, ax, cap, rfl, g1, _⟩ := hrd
  have hr := run_cut_lo ok w ax n cap lo kl h1 g1
  subst eL
  unfold Oper.wp
  simp [execOp, hx, hl, run_sliceAt ok.under, hr, Result.andThen]
  refine hK' _ _ (hK _ ?_)
  have := hrd'.cut lo n h1 (Nat.le_refl _)
  rwa [List.take_of_length_le (by rw [List.length_drop, hlen, Nat.sub_mul]; exact Nat.le_refl _)] at this
end

section
variable {P : Program} {ops : Array Oper} {rest : List Oper} {a : Act} {Q : Exit → Act → World → Prop} {w : World} {d : Option Tmp} {t ty : TypeId} {x : Operand} {pos : String} {af : Array Edge} {g : Option (Nat × Bool)}
end

/-! ### bytes -/
/-- one byte as a value -/
def by8 (x : UInt8) : Value := .int .u8 (x.toNat : Int)
def Rd8 (w : World) (v : Value) (l : List UInt8) : Prop := RdRow 1 w v l.length (l.map by8)
def Own8 (e : TypeId) (w : World) (v : Value) (l : List UInt8) : Prop := Own e 1 w v l.length (l.map by8)

def str8 (l : List UInt8) : Value := .string ⟨l.toArray⟩
section
variable {P : Program} {ops : Array Oper} {rest : List Oper} {a : Act} {Q : Exit → Act → World → Prop} {w : World} {d : Option Tmp} {t ty : TypeId} {x : Operand} {pos : String} {af : Array Edge}
end

section
variable {P : Program} {ops : Array Oper} {rest : List Oper} {a : Act} {Q : Exit → Act → World → Prop} {w : World} {d : Option Tmp} {ty : TypeId} {x : Operand} {pos : String} {af : Array Edge} {g : Option (Nat × Bool)}
end

/-! ### rows of the call's own, made since a world w0 -/
def Mine8 (e : TypeId) (w0 w : World) (v : Value) (l : List UInt8) : Prop := Own8 e w v l ∧ ∀ b, v.ownBlock = some b → w0.heap.size ≤ b
end Go.Kt
set_option linter.unusedVariables false
set_option linter.unusedSimpArgs false
namespace Go.Kt
open Go.RowKit Go.Maps

/-- an element reads as itself -/
def anyElem (v : Value) : Option (DataW Value × List MemPlace) := some (.held v, [])

/-- block b is a map of n entries; at each key it has what f says -/
def MapIs (P : Program) (k : TypeId) (w : World) (b : Nat) (f : Lit → Option Value) (n : Nat) : Prop :=
  ∃ D : DataW Value, w.ownsMap P k anyElem b n D ∧ Maps.size D = n ∧ ∀ kl, (f kl = none → Maps.has D kl = false) ∧ ∀ v, f kl = some v → Maps.has D kl = true ∧ ∀ z, D.atKey kl z = .held v

variable {P : Program} {k : TypeId} {w : World} {b n : Nat} {f : Lit → Option Value}

theorem ownsMap_tight {R : Value → Option (DataW Value × List MemPlace)} {D : DataW Value} (h : w.ownsMap P k R b n D) : w.ownsMap P k R b (Maps.size D) D := by
  obtain ⟨es, clock, hb, F, hs, rfl⟩ := h
  exact ⟨es, clock, hb, F, by simp [Maps.size, length_sorted], rfl⟩
theorem MapIs.made (w : World) (P : Program) (k : TypeId) : MapIs P k (w.alloc (.map #[] 0)) w.heap.size (fun _ => none) 0 :=
  ⟨_, World.ownsMap_made w P k anyElem, rfl, fun _ => ⟨fun _ => rfl, fun _ h => by cases h⟩⟩
theorem MapIs.lt (h : MapIs P k w b f n) : b < w.heap.size := by obtain ⟨_, h, _⟩ := h; exact h.lt
theorem MapIs.grown {w' : World} {row : Option Nat} (h : MapIs P k w b f n) (hg : w.grownBy w' row) (hne : some b ≠ row) : MapIs P k w' b f n := by
  obtain ⟨D, h1, h2⟩ := h
  exact ⟨D, h1.kept hg hne, h2⟩
theorem MapIs.below (h : MapIs P k w b f n) {w' : World} (hb : Below w.heap.size w w') : MapIs P k w' b f n :=
  h.grown (row := none) ⟨hb.os, hb.tape, hb.output, hb.size, fun i hi _ => hb.block i hi⟩ (by simp)
theorem MapIs.alloc (h : MapIs P k w b f n) (o : Obj) : MapIs P k (w.alloc o) b f n := h.below (below_alloc w o)
theorem MapIs.drew (h : MapIs P k w b f n) : MapIs P k w.drew b f n := h
theorem MapIs.drewN (h : MapIs P k w b f n) (m : Nat) : MapIs P k (w.drewN m) b f n := by obtain ⟨D, h1, h2⟩ := h; exact ⟨D, h1, h2⟩
theorem MapIs.setCell (h : MapIs P k w b f n) {a : Addr} (ha : b ≠ a.block) (u : Value) : MapIs P k (w.setCell a u) b f n := by
  obtain ⟨D, h1, h2⟩ := h
  exact ⟨D, h1.setCell ha u, h2⟩

theorem MapIs.look (h : MapIs P k w b f n) {t e : TypeId} (K : Keyed P k) (ht : P.underlying t = some (.map k e)) {z : Value} (hz : (zeroValue e).run P w = .ok z w) {key : Value} {kl : Lit} (hkey : keyOf P k key = some kl) :
    (Instr.lookup t (.map (some b)) key true).run P w = .ok (.tuple #[(f kl).getD z, .bool (f kl).isSome]) w := by
  obtain ⟨D, h1, _, h2⟩ := h
  obtain ⟨v, ps, hr, hv⟩ := h1.look_ok K ht hz (zd := .held z) (zp := []) rfl hkey
  rw [hr]
  cases hf : f kl with
  | none =>
    have h3 := (h2 kl).1 hf
    rw [h3]
    rw [Maps.atKey_of_not_has h3] at hv
    unfold anyElem at hv
    injection hv with hv
    injection hv with hv _
    injection hv with hv
    rw [hv]; rfl
  | some u =>
    obtain ⟨h3, h4⟩ := (h2 kl).2 u hf
    rw [h3]
    rw [h4] at hv
    unfold anyElem at hv
    injection hv with hv
    injection hv with hv _
    injection hv with hv
    rw [hv]; rfl
theorem MapIs.look1 (h : MapIs P k w b f n) {t e : TypeId} (K : Keyed P k) (ht : P.underlying t = some (.map k e)) {z : Value} (hz : (zeroValue e).run P w = .ok z w) {key : Value} {kl : Lit} (hkey : keyOf P k key = some kl) :
    (Instr.lookup t (.map (some b)) key false).run P w = .ok ((f kl).getD z) w := by
  obtain ⟨D, h1, _, h2⟩ := h
  obtain ⟨v, ps, hr, hv⟩ := h1.lookup K ht hz (zd := .held z) (zp := []) rfl hkey
  rw [hr]
  cases hf : f kl with
  | none =>
    have h3 := (h2 kl).1 hf
    rw [Maps.atKey_of_not_has h3] at hv
    unfold anyElem at hv
    injection hv with hv
    injection hv with hv _
    injection hv with hv
    rw [hv]; rfl
  | some u =>
    obtain ⟨h3, h4⟩ := (h2 kl).2 u hf
    rw [h4] at hv
    unfold anyElem at hv
    injection hv with hv
    injection hv with hv _
    injection hv with hv
    rw [hv]; rfl
theorem MapIs.len (h : MapIs P k w b f n) {t e : TypeId} (ht : P.underlying t = some (.map k e)) (ty : TypeId) : (Builtin.len_ #[t] ty #[.map (some b)]).run P w = .ok (.int .i64 (n : Int)) w := by
  obtain ⟨D, h1, h2, _⟩ := h
  rw [h1.len ht ty, h2]

open Classical in
/-- the function with one key's value changed -/
noncomputable def upd (f : Lit → Option Value) (kl : Lit) (v : Value) : Lit → Option Value := fun x => if x = kl then some v else f x
theorem MapIs.put (h : MapIs P k w b f n) {t e : TypeId} (K : Keyed P k) (ht : P.underlying t = some (.map k e)) (hn : n < maxLen) {key : Value} (val : Value) {kl : Lit} (hkey : keyOf P k key = some kl) (hk : WideAt.IsKeyLit kl) :
    ∃ w', (Instr.mapUpdate t (.map (some b)) key val).run P w = .ok () w' ∧ MapIs P k w' b (upd f kl val) (if (f kl).isSome then n else n + 1) ∧ w.grownBy w' (some b) := by
  obtain ⟨D, h1, h2, h3⟩ := h
  obtain ⟨w', hr, h4, h5⟩ := h1.update K ht hn (val := val) (d := .held val) (ps := []) hkey rfl
  have hs := Maps.size_put (k := kl) (h1.tidy K) (.held val)
  have hh : Maps.has D kl = (f kl).isSome := by
    cases hf : f kl with
    | none => rw [(h3 kl).1 hf]; rfl
    | some u => rw [((h3 kl).2 u hf).1]; rfl
  rw [hh, h2] at hs
  refine ⟨w', hr, ⟨D.put kl (.held val), ?_, hs, fun x => ?_⟩, h5⟩
  · have := ownsMap_tight h4
    rwa [hs] at this
  · unfold upd
    by_cases hx : x = kl
    · subst hx
      rw [if_pos rfl]
      refine ⟨fun h => (by cases h), fun v hv => ?_⟩
      cases hv
      exact ⟨Maps.has_put_same h1.isMap hk _, fun z => Maps.atKey_put_same h1.isMap hk _ z⟩
    · rw [if_neg hx]
      refine ⟨fun h => by rw [Maps.has_put_other hx]; exact (h3 x).1 h, fun v hv => ?_⟩
      obtain ⟨g1, g2⟩ := (h3 x).2 v hv
      exact ⟨by rw [Maps.has_put_other hx]; exact g1, fun z => by rw [Maps.atKey_put_other hx]; exact g2 z⟩
end Go.Kt
set_option linter.unusedVariables false
set_option linter.unusedSimpArgs false
namespace Go.Kt
open Go.RowKit

/-- a block, whole -/
def Blk (w : World) (g : Nat) (cs : Array Value) (t : TypeId) : Prop := w.heap[g]? = some (.cells cs t (0, 0))
theorem Blk.lt {w : World} {g : Nat} {cs : Array Value} {t : TypeId} (h : Blk w g cs t) : g < w.heap.size := (Array.getElem?_eq_some_iff.1 h).1
theorem Blk.next {w w' : World} {g : Nat} {cs : Array Value} {t : TypeId} (h : Blk w g cs t) (hb : Below w.heap.size w w') : Blk w' g cs t := (hb.block g h.lt).trans h
theorem Blk.new (w : World) (cs : Array Value) (t : TypeId) : Blk (w.alloc (.cells cs t)) w.heap.size cs t := heap_alloc_new w _
theorem Blk.cell {w : World} {g : Nat} {cs : Array Value} {t : TypeId} (h : Blk w g cs t) (j : Nat) : w.cell? ⟨g, j, none⟩ = cs[j]? := cell_of_row w g j cs t (0, 0) h
theorem Blk.free {w : World} {g : Nat} {cs : Array Value} {t : TypeId} (h : Blk w g cs t) (j : Nat) : w.frozen? ⟨g, j, none⟩ = false := frozen_of_row w g j cs t h
theorem Blk.set {w : World} {g : Nat} {cs : Array Value} {t : TypeId} (h : Blk w g cs t) (j : Nat) (u : Value) : Blk (w.setCell ⟨g, j, none⟩ u) g (cs.setIfInBounds j u) t := heap_setCell_same w g j cs t u h
theorem Blk.other {w : World} {g : Nat} {cs : Array Value} {t : TypeId} (h : Blk w g cs t) {p : Addr} (hg : g ≠ p.block) (u : Value) : Blk (w.setCell p u) g cs t := (heap_setCell_other w p g u hg).trans h
theorem Blk.grown {w w' : World} {g : Nat} {cs : Array Value} {t : TypeId} (h : Blk w g cs t) {r : Option Nat} (hg : w.grownBy w' r) (hne : r ≠ some g) : Blk w' g cs t := (hg.block g h.lt (fun e => hne e.symm)).trans h
theorem own_no_blk {w : World} {e t : TypeId} {size n g : Nat} {v : Value} {xs : List Value} {cs : Array Value} (h : Own e size w v n xs) (hb : Blk w g cs t) (hne : e ≠ t) : v.ownBlock ≠ some g := by
  intro hv
  rcases h.2 with ⟨rfl, _⟩ | ⟨g', cap, cur, rfl, _, hg, _⟩
  · cases hv
  · have : g' = g := by simpa [Value.ownBlock] using hv
    subst this
    unfold Blk at hb
    rw [hg] at hb
    injection hb with hb
    injection hb with _ hb
    exact hne hb
theorem own_no_map {w : World} {e : TypeId} {size n m : Nat} {v : Value} {xs : List Value} {P : Program} {k : TypeId} {F : Lit → Option Value} {c : Nat} (h : Own e size w v n xs) (hm : MapIs P k w m F c) : v.ownBlock ≠ some m := by
  intro hb
  rcases h.2 with ⟨rfl, _⟩ | ⟨g, cap, cur, rfl, _, hg, _⟩
  · cases hb
  · have : g = m := by simpa [Value.ownBlock] using hb
    subst this
    obtain ⟨D, ⟨es, clock, hb', _⟩, _⟩ := hm
    rw [hg] at hb'
    cases hb'
theorem own_set {e : TypeId} {size n : Nat} {w : World} {v : Value} {xs : List Value} (h : Own e size w v n xs) {p : Addr} (hp : ∀ b, v.ownBlock = some b → b ≠ p.block) (u : Value) : Own e size (w.setCell p u) v n xs :=
  h.keep fun b hb => heap_setCell_other w p b u (hp b hb)
/-- 'append(s, x...)' as a step of a region that draws its order -/
theorem step_app {P : Program} {w : World} {ops : Array Oper} {o : Oper} {a : Act} {K : Act → World → Prop} {Q : Exit → Act → World → Prop} {E : Prop} (hgd : o.guard = none) (s x : Operand) (t : TypeId)
    (ho : o.op = .call { callee := .builtin .append, args := #[s, x], argTypes := #[t, t] })
    {e : TypeId} {z : Value} {size bytes : Nat} (ok : ElemOk P t e z size bytes)
    {v : Value} {n : Nat} {xs : List Value} {vx : Value} {m : Nat} {news : List Value} (hs : a.eval s = v) (hx : a.eval x = vx)
    (hown : Own e size w v n xs) (hrd : RdRow size w vx m news) (h1 : ∀ u ∈ news, u.oneCell' = true)
    (h63 : n + m ≤ maxLen) (hbytes : (n + m) * bytes ≤ 140737488355328)
    (h : ∀ v' w', Own e size w' v' (n + m) (xs ++ news) → w.grownBy w' v.ownBlock → (∀ b, v'.ownBlock = some b → v.ownBlock = some b ∨ w.heap.size ≤ b) → K (a.put o.dst v') w') :
    if Region.wanted o (yielded ops a.tmps) = true then Oper.wp P o a w K Q else E := by
  have hw : Region.wanted o (yielded ops a.tmps) = true := by simp [Region.wanted, hgd]
  rw [if_pos hw]
  obtain ⟨v', w', hr, h2, h3, h4⟩ := run_app (P := P) w t o.type e z size bytes ok v n xs hown vx m news hrd h1 h63 hbytes
  unfold Oper.wp execOp
  simp only [ho, resolve, invoke, builtin, Sem.run_bind, Sem.run_pure, Result.andThen_ok, List.map_toArray, List.map_cons, List.map_nil, hs, hx, hr]
  exact h v' w' h2 h3 h4
end Go.Kt
set_option linter.unusedVariables false
set_option linter.unusedSimpArgs false
namespace Go.Kt
open Go.RowKit Go.Maps

/-- at each key the row X k; all made since w0 -/
structure Book (P : Program) (kt e : TypeId) (size : Nat) (w0 w : World) (am : Nat) (F : Lit → Option Value) (X : Lit → Nat × List Value) (n : Nat) : Prop where
  map : MapIs P kt w am F n
  ge : w0.heap.size ≤ am
  none_ : ∀ k, F k = none → X k = (0, [])
  row : ∀ k v, F k = some v → Own e size w v (X k).1 (X k).2 ∧ (∀ b, v.ownBlock = some b → w0.heap.size ≤ b)
  apart : ∀ k v k' v', F k = some v → F k' = some v' → k ≠ k' → ∀ b, v.ownBlock = some b → v'.ownBlock ≠ some b

variable {P : Program} {kt e : TypeId} {size : Nat} {w0 w w' : World} {am : Nat} {F : Lit → Option Value} {X : Lit → Nat × List Value} {n : Nat}
open Classical in
/-- one key's row made another -/
noncomputable def setX {α : Type} (X : Lit → α) (k : Lit) (l : α) : Lit → α := fun x => if x = k then l else X x
theorem setX_same {α : Type} (X : Lit → α) (k : Lit) (l : α) : setX X k l k = l := by unfold setX; rw [if_pos rfl]
theorem setX_other {α : Type} (X : Lit → α) {k x : Lit} (l : α) (h : x ≠ k) : setX X k l x = X x := by unfold setX; rw [if_neg h]
end Go.Kt
set_option linter.unusedVariables false
set_option linter.unusedSimpArgs false
namespace Go.Kt
open Go.ChangeShapes Go.WideShapes Go.ChangeAt Go.RowKit

section
variable {H : Type} {enc : TypeId × Value → H} {P : Program}

theorem trodAll_below (hl : laidOutB P = true) {W W' : World} (hb : Below W.heap.size W W') : ∀ (ts : List TypeId) (vs : List Value) (ds : List (DataW H)) (ps : List MemPlace),
    (∀ t ∈ ts, P.readableRec t = true ∧ t < P.types.size) → DataW.TrodAll enc P W 0 (fun _ => true) true ts vs ds ps → (∀ x ∈ ps, x.block < W.heap.size) →
    DataW.TrodAll enc P W' 0 (fun b => decide (b < W.heap.size)) true ts vs ds ps
  | [], [], [], _, _, h, _ => h
  | t :: ts, v :: vs, d :: ds, _, hr, h, hlt => by
    obtain ⟨p, q, h1, h2, rfl⟩ := h
    exact ⟨p, q, Below.trod hl (hr t (by simp)).1 (hr t (by simp)).2 h1 hb (fun x hx => hlt x (List.mem_append_left _ hx)),
      trodAll_below hl hb ts vs ds q (fun t ht => hr t (List.mem_cons_of_mem _ ht)) h2 (fun x hx => hlt x (List.mem_append_right _ hx)), rfl⟩
  | [], [], _ :: _, _, _, h, _ => h.elim
  | [], _ :: _, _, _, _, h, _ => h.elim
  | _ :: _, [], _, _, _, h, _ => h.elim
  | _ :: _, _ :: _, [], _, _, h, _ => h.elim

/-- A LAW's POST: true, and nothing that was there has turned. -/
theorem law_post {f : Func} {s : ChangeSpec} {tb : TypeId} {w w' : World} {args : Array Value} {ds gs : List (DataW H)} {before : List MemPlace} (hl : laidOutB P = true)
    (hr : (f.params.toList.all fun t => P.readableRec t && decide (t < P.types.size)) = true) (hv : s.vars = []) (hres : f.resultTypes = #[tb]) (htb : P.underlying tb = some .bool)
    (hfn : s.fn H ds = { results := [.lit (.bool true)], args := ds })
    (hW : DataW.Whole enc P f.params.toList s.vars false w args.toList ds gs before) (hb : Below w.heap.size w w') : s.post enc P f false true false false w args (.bool true) w' := by
  have hlt := hW.lt
  have hW0 := hW
  obtain ⟨p, q, hA, hV, rfl, hfz, hnd⟩ := hW0
  rw [hv] at hV
  obtain ⟨rfl, rfl⟩ : gs = [] ∧ q = [] := by
    cases gs with
    | nil => exact ⟨rfl, hV⟩
    | cons _ _ => exact hV.elim
  have hfn' : s.fn H (ds ++ []) = { results := [.lit (.bool true)], args := ds } := by rw [List.append_nil]; exact hfn
  refine ⟨ds, [], p ++ [], [], p, [], hW, ?_, ?_, ?_, ?_, fun h => by cases h⟩
  · rw [hfn', hres]
    exact ⟨[], [], shut_bool htb true, rfl, rfl⟩
  · rw [hfn']
    exact trodAll_below hl hb _ _ _ _ (fun t ht => by have := List.all_eq_true.1 hr t ht; simpa using this) hA (fun x hx => hlt x (by simpa using hx))
  · rw [hv, hfn']
    rfl
  · exact hb.frame _

theorem flatten_get {α : Type} (size : Nat) (hs : 0 < size) : ∀ (css : List (List α)), (∀ c ∈ css, c.length = size) → ∀ j, css.flatten[j]? = (css[j / size]?).bind (·[j % size]?)
  | [], _, j => by simp
  | c :: css, h, j => by
    have hc := h c (by simp)
    rw [List.flatten_cons, List.getElem?_append]
    by_cases hj : j < c.length
    · rw [if_pos hj]
      have h0 : j / size = 0 := Nat.div_eq_of_lt (by omega)
      have h1 : j % size = j := Nat.mod_eq_of_lt (by omega)
      rw [h0, h1]; simp
    · rw [if_neg hj, flatten_get size hs css (fun c hc => h c (by simp [hc])) (j - c.length), hc]
      have h0 : j / size = (j - size) / size + 1 := by
        rw [Nat.div_eq_sub_div hs (by omega)]
      have h1 : j % size = (j - size) % size := by
        rw [Nat.mod_eq_sub_mod (by omega)]
      rw [h0, h1]; simp

/-- what a slice that came in reads as: its elements' cells, and of each what these read as -/
theorem open_row {t e : TypeId} {w : World} {fuel : Nat} {cs : List Value} {x : DataW H × List MemPlace} (ht : P.underlying t = some (.slice e)) (hsz : 0 < P.cellsOf e)
    (h : DataW.trod enc P w 0 (fun _ => true) true fuel t cs = some x) :
    ∃ (v : Value) (css : List (List Value)) (xs : List (DataW H × List MemPlace)), cs = [v] ∧ RdRow (P.cellsOf e) w v css.length css.flatten ∧ (∀ c ∈ css, c.length = P.cellsOf e) ∧ xs.length = css.length ∧
      (∀ (i : Nat) (c : List Value) (y : DataW H × List MemPlace), css[i]? = some c → xs[i]? = some y → ∃ n, DataW.trod enc P w 0 (fun _ => true) true n e c = some y) ∧
      (x.1 = .nil ∧ css = [] ∨ ∃ spare, x.1 = .slice (xs.map (·.1)) spare) := by
  rcases DataW.trod_slice ht h with ⟨rfl, rfl⟩ | ⟨a, len, cap, elems, rest, n, rfl, rfl, rfl, hb, hl, hm, hlen, hel, hsp, hns⟩
  · exact ⟨_, [], [], rfl, ⟨by simp, none, 0, rfl, Nat.le_refl _, by simp [maxLen], fun _ => rfl, fun j u hj => by simp at hj⟩, by simp, rfl, by simp, .inl ⟨rfl, rfl⟩⟩
  · -- each element's cells
    have each : ∀ i, i < len → ∃ c, w.cells? 0 (a.add (i * P.cellsOf e)) (P.cellsOf e) = some c ∧ ∃ y, elems[i]? = some y ∧ DataW.trod enc P w 0 (fun _ => true) true n e c = some y := by
      intro i hi
      have h1 := hel i hi
      rw [List.getElem?_eq_getElem (by omega)] at h1
      obtain ⟨c, hc, hy⟩ := Option.bind_eq_some_iff.1 h1
      exact ⟨c, hc, _, List.getElem?_eq_getElem (by omega), hy⟩
    have hspot : 0 < len → a.spot = none := by
      intro h0
      obtain ⟨c, hc, _⟩ := each 0 h0
      obtain ⟨_, hcl, hcc⟩ := World.cells?_some hc
      have h1 := hcc 0 hsz
      rw [List.getElem?_eq_getElem (by omega)] at h1
      obtain ⟨b, o, s⟩ := a
      cases s with
      | none => rfl
      | some s =>
        simp [Addr.add, World.cell?] at h1
        split at h1 <;> simp at h1
    let css : List (List Value) := (List.range len).map fun i => (w.cells? 0 (a.add (i * P.cellsOf e)) (P.cellsOf e)).getD []
    have hcl : css.length = len := by simp [css]
    have hcget : ∀ (i : Nat) (c : List Value), css[i]? = some c → i < len ∧ w.cells? 0 (a.add (i * P.cellsOf e)) (P.cellsOf e) = some c := by
      intro i c hic
      have hi : i < len := by
        have := (List.getElem?_eq_some_iff.1 hic).1
        omega
      obtain ⟨c', hc', _⟩ := each i hi
      have : css[i]? = some c' := by simp [css, hi, hc']
      rw [hic] at this
      cases this
      exact ⟨hi, hc'⟩
    have hcs : ∀ c ∈ css, c.length = P.cellsOf e := by
      intro c hc
      obtain ⟨i, hi⟩ := List.mem_iff_getElem?.1 hc
      exact (World.cells?_some (hcget i c hi).2).2.1
    refine ⟨_, css, elems, rfl, ⟨?_, some a, cap, by rw [hcl], by omega, hm, (fun h => by cases h), fun j u hj => ?_⟩, hcs, by rw [hcl, hlen], fun i c y hc hy => ?_, .inr ⟨_, rfl⟩⟩
    · have : ∀ (l : List (List Value)), (∀ c ∈ l, c.length = P.cellsOf e) → l.flatten.length = l.length * P.cellsOf e := by
        intro l
        induction l with
        | nil => intro _; simp
        | cons c l ih => intro hl; rw [List.flatten_cons, List.length_append, ih (fun c hc => hl c (by simp [hc])), hl c (by simp), List.length_cons, Nat.add_mul, Nat.one_mul, Nat.add_comm]
      exact this css hcs
    · rw [flatten_get _ hsz css hcs] at hj
      obtain ⟨c, hc, hu⟩ := Option.bind_eq_some_iff.1 hj
      obtain ⟨hi, hcc⟩ := hcget _ c hc
      obtain ⟨_, _, hcell⟩ := World.cells?_some hcc
      have h1 := hcell (j % P.cellsOf e) (Nat.mod_lt _ hsz)
      rw [hu] at h1
      have hs := hspot (Nat.lt_of_le_of_lt (Nat.zero_le _) hi)
      obtain ⟨b, o, s⟩ := a
      simp only at hs
      subst hs
      refine ⟨b, o, rfl, ?_⟩
      rw [Addr.add_lit, Addr.add_lit, Nat.add_assoc, Nat.mul_comm, Nat.div_add_mod] at h1
      exact h1
    · obtain ⟨hi, hcc⟩ := hcget i c hc
      obtain ⟨c', hc', y', hy', ht'⟩ := each i hi
      rw [hcc] at hc'
      cases hc'
      rw [hy] at hy'
      cases hy'
      exact ⟨n, ht'⟩

end

end Go.Kt
set_option linter.unusedVariables false
set_option linter.unusedSimpArgs false
namespace Go.Kt
open Go.ChangeMaps Go.MapKept Go.WideShapes Go.RowKit
open Go.WideElems (Fit rd rg pl rd_key rd_val rd_mk rg_of other_key)
open Go.Maps (Keyed)
variable {H : Type} {P : Program} {k : TypeId} {R : Value → Option (DataW H × List MemPlace)} {w : World} {b r n : Nat} {D : DataW H} {left : Lit → Bool} {cnt : Nat}

theorem left_size (a : Array MapEntry) (seen : Array Nat) : (leftOf a seen).size = ((a.toList.map (·.born)).filter fun x => !seen.contains x).length := by
  unfold leftOf
  rw [← Array.length_toList, Array.toList_filter, List.filter_map, List.length_map]
  rfl
/-- 'm[k] = v' in the round, where the key is there: the range goes on as it was -/
theorem ranges_store {t e : TypeId} (h : w.ranges P k R b r n D left cnt) (K : Keyed P k) (ht : P.underlying t = some (.map k e)) (hn : n < maxLen) {key val : Value} {kl : Lit} {d : DataW H} {ps : List MemPlace} (hkey : keyOf P k key = some kl) (hv : R val = some (d, ps)) (hhas : Maps.has D kl = true) :
    ∃ w', (Instr.mapUpdate t (.map (some b)) key val).run P w = .ok () w' ∧ w'.ranges P k R b r n (D.put kl d) left cnt ∧ w.grownBy w' (some b) := by
  have hne := h.ne
  obtain ⟨es, clock, since, seen, c0, hb, F, hs, rfl, hr, hold, rfl, hl1, hl2, hsc, hsk⟩ := h
  obtain ⟨es', clock', hrun, F', hput, _⟩ := Maps.fit_store (R' := R) K ht hb F (Nat.lt_of_le_of_lt hs hn) (fun _ _ _ _ hz => hz) hkey hv
  rcases K.find w hkey es.toList F.keys with ⟨h1, h2⟩ | ⟨j, e0, h1, h2, h3⟩
  · exfalso
    rw [Maps.has, List.any_eq_true] at hhas
    obtain ⟨p, hp, hsame⟩ := hhas
    obtain ⟨x, hx, rfl⟩ := List.mem_map.1 (mem_sorted.1 hp)
    obtain ⟨y, hy⟩ := F.reads x hx
    have e1 := WideAt.sameKey_eq hsame
    rw [rg_of hy] at e1
    exact h2 x hx (K.inj (e1 ▸ rd_key hy) hkey)
  · have hj : es[j]? = some e0 := by simpa using h2
    have hjl : j < es.toList.length := (List.getElem?_eq_some_iff.1 h2).1
    have hlist : (es.modify j (fun e' => { e' with key := key, val := val })).toList = es.toList.set j { e0 with key := key, val := val } := by rw [Array.toList_modify, modify_eq_set _ _ _ _ h2]
    have hrun2 : (Instr.mapUpdate t (.map (some b)) key val).run P w = .ok () (setBlock w b (.map (es.modify j (fun e' => { e' with key := key, val := val })) clock)) := by
      simp [Instr.mapUpdate, run_underlying ht, MapKept.run_getObj_map hb, K.check w false hkey, h1, hj, h3, K.stays w hkey, MapKept.run_setObj_map _ hb, Result.andThen, setBlock]
    rw [hrun2] at hrun
    have hw : (setBlock w b (.map (es.modify j (fun e' => { e' with key := key, val := val })) clock)).heap[b]? = (setBlock w b (.map es' clock')).heap[b]? := by injection hrun with _ hrun; rw [hrun]
    rw [heap_setBlock_same hb _, heap_setBlock_same hb _] at hw
    injection hw with hw
    injection hw with hw1 hw2
    subst hw1 hw2
    have hborn : (es.modify j (fun e' => { e' with key := key, val := val })).toList.map (·.born) = es.toList.map (·.born) := by
      rw [hlist, List.map_set]
      apply List.ext_getElem?
      intro i
      by_cases hij : j = i
      · subst hij
        rw [List.getElem?_set_self (by simpa using hjl), List.getElem?_map, h2]
        rfl
      · rw [List.getElem?_set_ne hij]
    have hkn : (rg P k R { e0 with key := key, val := val }).1 = kl := by rw [rg_of (rd_mk hkey hv)]
    have he0 : e0 ∈ es.toList := List.mem_of_getElem? h2
    have hk0 : (rg P k R e0).1 = kl := by
      obtain ⟨y, hy⟩ := F.reads e0 he0
      have := rd_key hy
      rw [h3, hkey] at this
      rw [rg_of hy]
      exact (Option.some.inj this).symm
    refine ⟨_, hrun2, ⟨_, clock, since, seen, c0, heap_setBlock_same hb _, F', by simpa using hs, by rw [DataW.put_eq, hput], (heap_setBlock_other hb _ hne).trans hr, fun x hx => ?_, ?_, fun x hx => ?_, fun kl' hkl' => ?_, hsc, hsk⟩, ⟨rfl, rfl, rfl, by simp [setBlock], fun i _ hi => heap_setBlock_other hb _ (fun e => hi (by rw [e]))⟩⟩
    · have : x.born ∈ (es.modify j (fun e' => { e' with key := key, val := val })).toList.map (·.born) := List.mem_map.2 ⟨x, hx, rfl⟩
      rw [hborn] at this
      obtain ⟨y, hy, e⟩ := List.mem_map.1 this
      rw [← e]
      exact hold y hy
    · rw [left_size, left_size, hborn]
    · rw [hlist] at hx
      rcases List.mem_or_eq_of_mem_set hx with hx | rfl
      · exact hl1 x hx
      · rw [hkn, ← hk0]
        exact hl1 e0 he0
    · obtain ⟨x, hx, rfl⟩ := hl2 kl' hkl'
      rw [hlist]
      obtain ⟨i, hi, rfl⟩ := List.getElem_of_mem hx
      by_cases hij : j = i
      · subst hij
        refine ⟨_, List.mem_set hjl _, ?_⟩
        rw [hkn]
        obtain ⟨_, e⟩ := List.getElem?_eq_some_iff.1 h2
        rw [e]
        exact hk0.symm
      · refine ⟨es.toList[i], ?_, rfl⟩
        have : (es.toList.set j { e0 with key := key, val := val })[i]? = some es.toList[i] := by rw [List.getElem?_set_ne hij, List.getElem?_eq_getElem hi]
        exact List.mem_of_getElem? this
end Go.Kt
