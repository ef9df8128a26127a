/- General facts, over any program: a slice that is only read (RdRow), a slice whose array is the call's own (Own), and append from the one to the other. -/
import Derived.WalkKit
import Derived.Lib.Hide
import Derived.Deep.Draws
import Derived.Laws.BytesArg
import Derived.Laws.IdiomStrings
set_option linter.unusedVariables false
set_option linter.unusedSimpArgs false
namespace Go.Kt
open Go.RowKit

/-- the walk stands still before an operation that is met by a law of its own -/
def Hold (p : Prop) : Prop := p
theorem Hold.mk {p : Prop} (h : Hold p) : p := h

/-- a slice value of n elements (each of 'size' cells) that reads as the cells xs -/
def RdRow (size : Nat) (w : World) (v : Value) (n : Nat) (xs : List Value) : Prop :=
  xs.length = n * size ∧ ∃ a cap, v = .slice a n cap ∧ n ≤ cap ∧ cap ≤ maxLen ∧ (a = none → cap = 0) ∧
    ∀ j u, xs[j]? = some u → ∃ b o, a = some ⟨b, o, none⟩ ∧ w.cell? ⟨b, o + j, none⟩ = some u

/-- a slice value whose elements lie at the head of an array of their own -/
def Own (e : TypeId) (size : Nat) (w : World) (v : Value) (n : Nat) (xs : List Value) : Prop := w.ownsRow 0 e size v n xs

theorem Own.rd {e : TypeId} {size : Nat} {w : World} {v : Value} {n : Nat} {xs : List Value} (h : Own e size w v n xs) : RdRow size w v n xs := by
  rcases h with ⟨hl, ⟨rfl, h0⟩ | ⟨g, cap, cur, rfl, hb, hg, hn, hm, hcs, ht⟩⟩
  · subst h0
    refine ⟨hl, none, 0, rfl, by omega, by simp [maxLen], fun _ => rfl, fun j u hj => ?_⟩
    have : xs = [] := List.eq_nil_of_length_eq_zero (by simpa using hl)
    subst this
    simp at hj
  · refine ⟨hl, some ⟨g, 0, none⟩, cap, rfl, hn, hm, (fun h => by cases h), fun j u hj => ⟨g, 0, rfl, ?_⟩⟩
    have hjl : j < n * size := by
      have := (List.getElem?_eq_some_iff.1 hj).1
      omega
    rw [Nat.zero_add, cell_of_row w g j cur e (0, 0) hg]
    have h2 := congrArg (fun z => z[j]?) ht
    simp only [List.getElem?_take, if_pos hjl, hj] at h2
    simpa using h2

/-- only what lies in blocks that are there already is read -/
theorem RdRow.below {size : Nat} {w w' : World} {v : Value} {n : Nat} {xs : List Value} (h : RdRow size w v n xs) (hb : Below w.heap.size w w') : RdRow size w' v n xs := by
  obtain ⟨hl, a, cap, rfl, h1, h2, h3, h5⟩ := h
  refine ⟨hl, a, cap, rfl, h1, h2, h3, fun j u hj => ?_⟩
  obtain ⟨b, o, ha, hc⟩ := h5 j u hj
  exact ⟨b, o, ha, (hb.cell (p := ⟨b, o + j, none⟩) (World.block_lt_of_cell? w _ hc)).trans hc⟩

theorem RdRow.keep {size : Nat} {w w' : World} {v : Value} {n : Nat} {xs : List Value} (h : RdRow size w v n xs) (hb : ∀ b, v.ownBlock = some b → w'.heap[b]? = w.heap[b]?) : RdRow size w' v n xs := by
  obtain ⟨hl, a, cap, rfl, h1, h2, h3, h5⟩ := h
  refine ⟨hl, a, cap, rfl, h1, h2, h3, fun j u hj => ?_⟩
  obtain ⟨b, o, ha, hc⟩ := h5 j u hj
  subst ha
  exact ⟨b, o, rfl, (World.cell?_of_block (w := w) (hb b rfl)).trans hc⟩

theorem Own.keep {e : TypeId} {size : Nat} {w w' : World} {v : Value} {n : Nat} {xs : List Value} (h : Own e size w v n xs) (hb : ∀ b, v.ownBlock = some b → w'.heap[b]? = w.heap[b]?) : Own e size w' v n xs := by
  refine ⟨h.1, ?_⟩
  rcases h.2 with hn | ⟨g, cap, cur, rfl, hbg, hgg, rest⟩
  · exact .inl hn
  · exact .inr ⟨g, cap, cur, rfl, hbg, (hb g rfl).trans hgg, rest⟩

theorem Own.lt {e : TypeId} {size : Nat} {w : World} {v : Value} {n : Nat} {xs : List Value} (h : Own e size w v n xs) : ∀ b, v.ownBlock = some b → b < w.heap.size :=
  fun b hb => (World.ownsRow.lt h b hb).2

theorem Own.below {e : TypeId} {size B : Nat} {w w' : World} {v : Value} {n : Nat} {xs : List Value} (h : Own e size w v n xs) (hb : Below B w w') (hB : ∀ b, v.ownBlock = some b → b < B) : Own e size w' v n xs :=
  h.keep fun b hbb => hb.block b (hB b hbb)

theorem Own.below' {e : TypeId} {size : Nat} {w w' : World} {v : Value} {n : Nat} {xs : List Value} (h : Own e size w v n xs) (hb : Below w.heap.size w w') : Own e size w' v n xs :=
  h.below hb h.lt

theorem Own.grown {e : TypeId} {size : Nat} {w w' : World} {v : Value} {n : Nat} {xs : List Value} {row : Option Nat} (h : Own e size w v n xs) (hg : w.grownBy w' row) (hne : ∀ b, v.ownBlock = some b → row ≠ some b) : Own e size w' v n xs :=
  h.keep fun b hbb => hg.block b (h.lt b hbb) (fun e => hne b hbb e.symm)

theorem own_lit (w : World) (e : TypeId) (size : Nat) (cs : Array Value) (n : Nat) (hm : n ≤ maxLen) (hs : cs.size = n * size) :
    Own e size (w.alloc (.cells cs e)) (.slice (some ⟨w.heap.size, 0, none⟩) n n) n cs.toList := World.ownsRow_lit w cs n (Nat.zero_le _) hm hs

theorem own_nil (w : World) (e : TypeId) (size : Nat) : Own e size w (.slice none 0 0) 0 [] := World.ownsRow_nil w 0 e size

theorem below_alloc (w : World) (o : Obj) : Below w.heap.size w (w.alloc o) := (Below.refl _ _).alloc (Nat.le_refl _) o

theorem below_grown {B : Nat} {w w' : World} {v : Value} (hg : w.grownBy w' v.ownBlock) (hB : B ≤ w.heap.size) (hv : ∀ b, v.ownBlock = some b → B ≤ b) : Below B w w' :=
  (Below.refl B w).grown hg hB hv

/-- the facts on a slice type's element that the laws on append ask for -/
structure ElemOk (P : Program) (t e : TypeId) (z : Value) (size bytes : Nat) : Prop where
  under : P.underlying t = some (.slice e)
  info : ∃ i, P.info? e = some i ∧ i.zero = some z ∧ i.size = size ∧ i.bytes = bytes
  cells : z.cells.size = size
  pos : 0 < size

theorem run_app {P : Program} (w : World) (t ty e : TypeId) (z : Value) (size bytes : Nat) (ok : ElemOk P t e z size bytes)
    (v : Value) (n : Nat) (xs : List Value) (hown : Own e size w v n xs)
    (x : Value) (m : Nat) (news : List Value) (hx : RdRow size w x m news) (h1 : ∀ u ∈ news, u.oneCell' = true)
    (h63 : n + m ≤ maxLen) (hbytes : (n + m) * bytes ≤ 140737488355328) :
    ∃ v' w', (Builtin.append_ #[t, t] ty #[v, x]).run P w = .ok v' w' ∧ Own e size w' v' (n + m) (xs ++ news) ∧ w.grownBy w' v.ownBlock ∧
      (∀ b, v'.ownBlock = some b → v.ownBlock = some b ∨ w.heap.size ≤ b) := by
  obtain ⟨ht, ⟨i, hi, hz, hsize, hby⟩, hzs, hsz⟩ := ok
  obtain ⟨hl, ax, cx, rfl, hx1, hx2, hx3, hx5⟩ := hx
  cases ax with
  | none =>
    obtain rfl : cx = 0 := hx3 rfl
    obtain rfl : m = 0 := by omega
    have hnews : news = [] := List.eq_nil_of_length_eq_zero (by simpa using hl)
    subst hnews
    refine ⟨v, w, run_append_owned_none w 0 t ty e i size ht hi v n xs hown, ?_, ⟨rfl, rfl, rfl, Nat.le_refl _, fun _ _ _ => rfl⟩, fun b hb => .inl hb⟩
    simpa using hown
  | some ad =>
    have hnews : ∀ j u, news[j]? = some u → w.cell? (ad.add j) = some u := by
      intro j u hj
      obtain ⟨b, o, he, hc⟩ := hx5 j u hj
      cases he
      rw [Addr.add_lit]; exact hc
    by_cases hroom : ∃ g cap, v = .slice (some ⟨g, 0, none⟩) n cap ∧ n + m ≤ cap
    · obtain ⟨g, cap, rfl, hroom⟩ := hroom
      obtain ⟨w', hr, h2, h3⟩ := run_append_fits (P := P) w 0 t ty e i size ht hi hsize g n cap xs hown ad m cx news hl hnews h1 hroom
      exact ⟨_, w', hr, h2, h3, fun b hb => .inl hb⟩
    · obtain ⟨v', w', hr, h2, h3, h4⟩ := run_append_own (P := P) w 0 t ty e i z size bytes ht hi hz hsize hby hzs hsz v n xs hown ad m cx news hl hnews h1 h63 hbytes (Nat.zero_le _)
      refine ⟨v', w', hr, h2, h3, fun b hb => ?_⟩
      -- it was grown into a new row
      rcases hown.2 with ⟨rfl, rfl⟩ | ⟨g, cap, cur, rfl, _, hg, hnc, hcm, hcs, htake⟩
      · by_cases hm : m = 0
        · rw [(h4.2 ⟨rfl, hm⟩)] at hb
          cases hb
        · have hr2 := run_append_nil (P := P) w t ty e i z ht hi hz ad m cx news (by rw [hsize]; exact hl) hnews (by omega) (by simp only [maxLen] at h63; omega) (by rw [hby]; simp only [Nat.zero_add] at hbytes; omega)
          rw [hr2] at hr
          injection hr with e1 e2
          rw [← e1] at hb
          injection hb with hb
          exact .inr (by rw [← hb]; exact Nat.le_refl _)
      · have hgrow : cap < n + m := by
          rcases Nat.lt_or_ge cap (n + m) with h | h
          · exact h
          · exact (hroom ⟨g, cap, rfl, h⟩).elim
        have holds : ∀ j u, xs[j]? = some u → w.cell? ((⟨g, 0, none⟩ : Addr).add j) = some u := World.ownsRow.cells (g := g) hown rfl
        have hr2 := run_append_grow (P := P) w t ty e i z ht hi hz ⟨g, 0, none⟩ n cap xs (by rw [hsize]; exact hown.1) holds ad m cx news (by rw [hsize]; exact hl) hnews hgrow (by simp only [maxLen] at h63; omega) (by rw [hby]; exact growslice_fits hgrow hbytes)
        rw [hr2] at hr
        injection hr with e1 e2
        rw [← e1] at hb
        injection hb with hb
        exact .inr (by rw [← hb]; exact Nat.le_refl _)

theorem wpList_want {P : Program} {w : World} {ops : Array Oper} {rest : List Oper} {o : Oper} {a : Act} {Q : Exit → Act → World → Prop} (hw : Region.wanted o (yielded ops a.tmps) = true)
    (h : ∀ K : Act → World → Prop, (∀ a w, wpList P ops Q rest a w → K a w) → o.wp P a w K Q) : wpList P ops Q (o :: rest) a w :=
  wpList_step fun K hK => by rw [if_pos hw]; exact h K hK

/-- 'append(s, x...)': s the call's own, x whatever is read -/
theorem wpList_app {P : Program} {w : World} {ops : Array Oper} {rest : List Oper} {o : Oper} {a : Act} {Q : Exit → Act → World → Prop} (hgd : Region.wanted o (yielded ops a.tmps) = true) (s x : Operand) (t : TypeId)
    (ho : o.op = .call { callee := .builtin .append, args := #[s, x], argTypes := #[t, t] })
    {e : TypeId} {z : Value} {size bytes : Nat} (ok : ElemOk P t e z size bytes)
    {v : Value} {n : Nat} {xs : List Value} {vx : Value} {m : Nat} {news : List Value} (hs : a.eval s = v) (hx : a.eval x = vx)
    (hown : Own e size w v n xs) (hrd : RdRow size w vx m news) (h1 : ∀ u ∈ news, u.oneCell' = true)
    (h63 : n + m ≤ maxLen) (hbytes : (n + m) * bytes ≤ 140737488355328)
    (h : ∀ v' w', Own e size w' v' (n + m) (xs ++ news) → w.grownBy w' v.ownBlock → (∀ b, v'.ownBlock = some b → v.ownBlock = some b ∨ w.heap.size ≤ b) → wpList P ops Q rest (a.put o.dst v') w') : wpList P ops Q (o :: rest) a w := by
  refine wpList_want hgd fun K hK => ?_
  obtain ⟨v', w', hr, h2, h3, h4⟩ := run_app (P := P) w t o.type e z size bytes ok v n xs hown vx m news hrd h1 h63 hbytes
  unfold Oper.wp execOp
  simp only [ho, resolve, invoke, builtin, Sem.run_bind, Sem.run_pure, Result.andThen_ok, List.map_toArray, List.map_cons, List.map_nil, hs, hx, hr]
  exact hK _ _ (h v' w' h2 h3 h4)

/-! ### x[lo:hi] -/
theorem RdRow.cut {size : Nat} {w : World} {a : Option Addr} {n cap : Nat} {xs : List Value} (h : RdRow size w (.slice a n cap) n xs) (lo hi : Nat) (h1 : lo ≤ hi) (h2 : hi ≤ n) :
    RdRow size w (.slice (if cap = lo then a else a.map (·.add (lo * size))) (hi - lo) (cap - lo)) (hi - lo) ((xs.drop (lo * size)).take ((hi - lo) * size)) := by
  obtain ⟨hl, a', cap', he, g1, g2, g3, g5⟩ := h
  cases he
  refine ⟨?_, _, _, rfl, by omega, by omega, fun h => ?_, fun j u hj => ?_⟩
  · rw [List.length_take, List.length_drop, hl, ← Nat.sub_mul, Nat.min_eq_left (Nat.mul_le_mul_right _ (by omega))]
  · split at h
    · omega
    · cases a with
      | none => have := g3 rfl; omega
      | some ad => simp at h
  · rw [List.getElem?_take] at hj
    split at hj
    · rename_i hjl
      rw [List.getElem?_drop] at hj
      obtain ⟨b, o, rfl, hc⟩ := g5 _ u hj
      have hlo : ¬ cap = lo := by
        intro e
        have : hi - lo = 0 := by omega
        rw [this] at hjl
        omega
      refine ⟨b, o + lo * size, ?_, by rw [Nat.add_assoc]; exact hc⟩
      rw [if_neg hlo]
      simp [Addr.add]
      try (split <;> simp_all)
    · cases hj

theorem run_sliceAt {P : Program} {t e : TypeId} (ht : P.underlying t = some (.slice e)) (w : World) (x : Value) (lo hi mx : Option Value) : (Instr.sliceAt t x lo hi mx).run P w = (Instr.slice t x lo hi mx).run P w := by
  simp [Instr.sliceAt, run_underlying ht]
theorem run_cut {P : Program} {t e : TypeId} {z : Value} {size bytes : Nat} (ok : ElemOk P t e z size bytes) (w : World) (a : Option Addr) (n cap lo hi : Nat) (kl kh : IntKind) (h1 : lo ≤ hi) (h2 : hi ≤ n) (h3 : n ≤ cap) :
    (Instr.slice t (.slice a n cap) (some (.int kl (lo : Int))) (some (.int kh (hi : Int))) none).run P w = .ok (.slice (if cap = lo then a else a.map (·.add (lo * size))) (hi - lo) (cap - lo)) w := by
  obtain ⟨ht, ⟨i, hi', hz, hsize, hby⟩, hzs, hsz⟩ := ok
  simp [Instr.slice, run_underlying ht, Instr.sliceBounds, run_sliceBound, sizeOf, typeInfo, hi', hsize, *, show (hi : Int) ≤ cap by omega]
theorem run_cut_lo {P : Program} {t e : TypeId} {z : Value} {size bytes : Nat} (ok : ElemOk P t e z size bytes) (w : World) (a : Option Addr) (n cap lo : Nat) (kl : IntKind) (h2 : lo ≤ n) (h3 : n ≤ cap) :
    (Instr.slice t (.slice a n cap) (some (.int kl (lo : Int))) none none).run P w = .ok (.slice (if cap = lo then a else a.map (·.add (lo * size))) (n - lo) (cap - lo)) w := by
  obtain ⟨ht, ⟨i, hi', hz, hsize, hby⟩, hzs, hsz⟩ := ok
  simp [Instr.slice, run_underlying ht, Instr.sliceBounds, run_sliceBound, sizeOf, typeInfo, hi', hsize, *]
theorem run_cut_hi {P : Program} {t e : TypeId} {z : Value} {size bytes : Nat} (ok : ElemOk P t e z size bytes) (w : World) (a : Option Addr) (n cap hi : Nat) (kh : IntKind) (h2 : hi ≤ n) (h3 : n ≤ cap) :
    (Instr.slice t (.slice a n cap) none (some (.int kh (hi : Int))) none).run P w = .ok (.slice (if cap = 0 then a else a.map (·.add (0 * size))) hi cap) w := by
  obtain ⟨ht, ⟨i, hi', hz, hsize, hby⟩, hzs, hsz⟩ := ok
  simp [Instr.slice, run_underlying ht, Instr.sliceBounds, run_sliceBound, sizeOf, typeInfo, hi', hsize, *, show (hi : Int) ≤ cap by omega]

section
variable {P : Program} {ops : Array Oper} {rest : List Oper} {a : Act} {Q : Exit → Act → World → Prop} {w : World} {d : Option Tmp} {t ty : TypeId} {x : Operand} {lo hi mx : Option Operand} {pos : String} {af : Array Edge}
theorem hold_slice {g : Option (Nat × Bool)} (h : Hold (wpList P ops Q (⟨d, .slice t x lo hi mx, ty, pos, af, g⟩ :: rest) a w)) : wpList P ops Q (⟨d, .slice t x lo hi mx, ty, pos, af, g⟩ :: rest) a w := h
theorem wpList_cut {e : TypeId} {z : Value} {size bytes : Nat} (ok : ElemOk P t e z size bytes) {l h : Operand} {vx : Value} {n : Nat} {xs : List Value} (lo hi : Nat) {kl kh : IntKind} {L H : Int}
    (hx : a.eval x = vx) (hl : a.eval l = .int kl L) (hh : a.eval h = .int kh H) (eL : L = lo) (eH : H = hi) (hrd : RdRow size w vx n xs) (h1 : lo ≤ hi) (h2 : hi ≤ n)
    (hK : ∀ v', RdRow size w v' (hi - lo) ((xs.drop (lo * size)).take ((hi - lo) * size)) → wpList P ops Q rest (a.put d v') w) : wpList P ops Q (⟨d, .slice t x (some l) (some h) none, ty, pos, af, none⟩ :: rest) a w := by
  refine wpList_plain rfl fun K hK' => ?_
  have hrd' := hrd
  obtain ⟨_, ax, cap, rfl, g1, _⟩ := hrd
  have hr := run_cut ok w ax n cap lo hi kl kh h1 h2 g1
  subst eL; subst eH
  unfold Oper.wp
  simp [execOp, hx, hl, hh, run_sliceAt ok.under, hr, Result.andThen]
  exact hK' _ _ (hK _ (hrd'.cut lo hi h1 h2))
theorem wpList_cut_lo {e : TypeId} {z : Value} {size bytes : Nat} (ok : ElemOk P t e z size bytes) {l : Operand} {vx : Value} {n : Nat} {xs : List Value} (lo : Nat) {kl : IntKind} {L : Int}
    (hx : a.eval x = vx) (hl : a.eval l = .int kl L) (eL : L = lo) (hrd : RdRow size w vx n xs) (h1 : lo ≤ n)
    (hK : ∀ v', RdRow size w v' (n - lo) (xs.drop (lo * size)) → wpList P ops Q rest (a.put d v') w) : wpList P ops Q (⟨d, .slice t x (some l) none none, ty, pos, af, none⟩ :: rest) a w := by
  refine wpList_plain rfl fun K hK' => ?_
  have hrd' := hrd
  obtain ⟨hlen, ax, cap, rfl, g1, _⟩ := hrd
  have hr := run_cut_lo ok w ax n cap lo kl h1 g1
  subst eL
  unfold Oper.wp
  simp [execOp, hx, hl, run_sliceAt ok.under, hr, Result.andThen]
  refine hK' _ _ (hK _ ?_)
  have := hrd'.cut lo n h1 (Nat.le_refl _)
  rwa [List.take_of_length_le (by rw [List.length_drop, hlen, Nat.sub_mul]; exact Nat.le_refl _)] at this
end

section
variable {P : Program} {ops : Array Oper} {rest : List Oper} {a : Act} {Q : Exit → Act → World → Prop} {w : World} {d : Option Tmp} {t ty : TypeId} {x : Operand} {pos : String} {af : Array Edge} {g : Option (Nat × Bool)}
/-- 'x[:h]' -/
theorem wpList_cut_hi {e : TypeId} {z : Value} {size bytes : Nat} (ok : ElemOk P t e z size bytes) {h : Operand} (hw : Region.wanted ⟨d, .slice t x none (some h) none, ty, pos, af, g⟩ (yielded ops a.tmps) = true) {vx : Value} {n : Nat} {xs : List Value} (hi : Nat) {kh : IntKind} {H : Int}
    (hx : a.eval x = vx) (hh : a.eval h = .int kh H) (eH : H = hi) (hrd : RdRow size w vx n xs) (h2 : hi ≤ n)
    (hK : ∀ v', (∀ (w0 : World) (xs : List Value), RdRow size w0 vx n xs → RdRow size w0 v' hi (xs.take (hi * size))) → wpList P ops Q rest (a.put d v') w) : wpList P ops Q (⟨d, .slice t x none (some h) none, ty, pos, af, g⟩ :: rest) a w := by
  refine wpList_want hw fun K hK' => ?_
  obtain ⟨_, ax, cap, rfl, g1, _⟩ := hrd
  have hr := run_cut_hi ok w ax n cap hi kh h2 g1
  subst eH
  unfold Oper.wp
  simp [execOp, hx, hh, run_sliceAt ok.under, hr, Result.andThen]
  refine hK' _ _ (hK _ fun w0 xs hrd' => ?_)
  have := hrd'.cut 0 hi (Nat.zero_le _) h2
  simpa using this
/-- 'x[l:]', guarded or not -/
theorem wpList_cut_lo' {e : TypeId} {z : Value} {size bytes : Nat} (ok : ElemOk P t e z size bytes) {l : Operand} (hw : Region.wanted ⟨d, .slice t x (some l) none none, ty, pos, af, g⟩ (yielded ops a.tmps) = true) {vx : Value} {n : Nat} {xs : List Value} (lo : Nat) {kl : IntKind} {L : Int}
    (hx : a.eval x = vx) (hl : a.eval l = .int kl L) (eL : L = lo) (hrd : RdRow size w vx n xs) (h1 : lo ≤ n)
    (hK : ∀ v', (∀ (w0 : World) (xs : List Value), RdRow size w0 vx n xs → RdRow size w0 v' (n - lo) (xs.drop (lo * size))) → wpList P ops Q rest (a.put d v') w) : wpList P ops Q (⟨d, .slice t x (some l) none none, ty, pos, af, g⟩ :: rest) a w := by
  refine wpList_want hw fun K hK' => ?_
  obtain ⟨_, ax, cap, rfl, g1, _⟩ := hrd
  have hr := run_cut_lo ok w ax n cap lo kl h1 g1
  subst eL
  unfold Oper.wp
  simp [execOp, hx, hl, run_sliceAt ok.under, hr, Result.andThen]
  refine hK' _ _ (hK _ fun w0 xs hrd' => ?_)
  have hlen := hrd'.1
  have := hrd'.cut lo n h1 (Nat.le_refl _)
  rwa [List.take_of_length_le (by rw [List.length_drop, hlen, Nat.sub_mul]; exact Nat.le_refl _)] at this
end

/-! ### bytes -/
/-- one byte as a value -/
def by8 (x : UInt8) : Value := .int .u8 (x.toNat : Int)
def Rd8 (w : World) (v : Value) (l : List UInt8) : Prop := RdRow 1 w v l.length (l.map by8)
def Own8 (e : TypeId) (w : World) (v : Value) (l : List UInt8) : Prop := Own e 1 w v l.length (l.map by8)

theorem by8_one (l : List UInt8) : ∀ u ∈ l.map by8, u.oneCell' = true := by
  intro u hu
  obtain ⟨x, _, rfl⟩ := List.mem_map.1 hu
  rfl
theorem by8_mod {z : Int} (n : Nat) (h : z = (n : Int) % 256) : Value.int .u8 z = by8 (UInt8.ofNat n) := by
  subst h
  simp [by8]
theorem by8_ofNat (n : Nat) (h : n < 256) : by8 (UInt8.ofNat n) = .int .u8 (n : Int) := by
  simp [by8, Nat.mod_eq_of_lt h]

def str8 (l : List UInt8) : Value := .string ⟨l.toArray⟩
/-- the form in which a walk reads bytes -/
theorem Rd8.open {w : World} {v : Value} {l : List UInt8} (h : Rd8 w v l) : ∃ a cap, v = .slice a l.length cap ∧ l.length ≤ cap ∧ cap ≤ maxLen ∧ (a = none → cap = 0) ∧
    ∀ j (h : j < l.length), ∃ b o, a = some ⟨b, o, none⟩ ∧ w.cell? ⟨b, o + j, none⟩ = some (.int .u8 (l[j].toNat : Int)) := by
  obtain ⟨_, a, cap, rfl, h1, h2, h3, h5⟩ := h
  refine ⟨a, cap, rfl, h1, h2, h3, fun j hj => h5 j _ ?_⟩
  simp [List.getElem?_eq_getElem hj, by8]
theorem Rd8.len {w : World} {v : Value} {l : List UInt8} (h : Rd8 w v l) : l.length ≤ maxLen := by
  obtain ⟨a, cap, _, h1, h2, _⟩ := h.open
  omega
theorem Own8.rd {e : TypeId} {w : World} {v : Value} {l : List UInt8} (h : Own8 e w v l) : Rd8 w v l := Own.rd h

theorem Own8.below {e : TypeId} {w w' : World} {v : Value} {l : List UInt8} (h : Own8 e w v l) (hb : Below w.heap.size w w') : Own8 e w' v l := Own.below' h hb
theorem Own8.alloc {e : TypeId} {w : World} {v : Value} {l : List UInt8} (h : Own8 e w v l) (o : Obj) : Own8 e (w.alloc o) v l := h.below (below_alloc w o)
theorem Own8.grown {e : TypeId} {w w' : World} {v : Value} {l : List UInt8} {row : Option Nat} (h : Own8 e w v l) (hg : w.grownBy w' row) (hne : ∀ b, v.ownBlock = some b → row ≠ some b) : Own8 e w' v l := Own.grown h hg hne
theorem Own8.lt {e : TypeId} {w : World} {v : Value} {l : List UInt8} (h : Own8 e w v l) : ∀ b, v.ownBlock = some b → b < w.heap.size := Own.lt h
theorem Rd8.below {w w' : World} {v : Value} {l : List UInt8} (h : Rd8 w v l) (hb : Below w.heap.size w w') : Rd8 w' v l := RdRow.below h hb
theorem Rd8.drewN {w : World} {v : Value} {l : List UInt8} (h : Rd8 w v l) (n : Nat) : Rd8 (w.drewN n) v l := h
theorem Rd8.undrewN {w : World} {v : Value} {l : List UInt8} {n : Nat} (h : Rd8 (w.drewN n) v l) : Rd8 w v l := h
theorem below_drewN (w : World) (n : Nat) : Below w.heap.size w (w.drewN n) := ⟨rfl, rfl, rfl, Nat.le_refl _, fun _ _ => rfl⟩
theorem own8_lit {w : World} {e : TypeId} {cs : Array Value} (l : List UInt8) (hl : l.length ≤ maxLen) (h : cs.toList = l.map by8) :
    Own8 e (w.alloc (.cells cs e)) (.slice (some ⟨w.heap.size, 0, none⟩) l.length l.length) l := by
  have := own_lit w e 1 cs l.length hl (by rw [← Array.length_toList, h]; simp)
  rw [h] at this
  exact this

/-- the same, the block's number and the length spelled as the walk spells them -/
theorem own8_at {w : World} {e : TypeId} {cs : Array Value} {g n : Nat} (l : List UInt8) (hl : l.length ≤ maxLen) (hn : n = l.length) (hg : g = w.heap.size) (h : cs.toList = l.map by8) :
    Own8 e (w.alloc (.cells cs e)) (.slice (some ⟨g, 0, none⟩) n n) l := by
  subst hn; subst hg; exact own8_lit l hl h

theorem wpList_app8 {P : Program} {w : World} {ops : Array Oper} {rest : List Oper} {o : Oper} {a : Act} {Q : Exit → Act → World → Prop} (hgd : Region.wanted o (yielded ops a.tmps) = true) (s x : Operand) (t : TypeId)
    (ho : o.op = .call { callee := .builtin .append, args := #[s, x], argTypes := #[t, t] })
    {e : TypeId} {z : Value} (ok : ElemOk P t e z 1 1)
    {v : Value} {l : List UInt8} {vx : Value} {news : List UInt8} (hs : a.eval s = v) (hx : a.eval x = vx)
    (hown : Own8 e w v l) (hrd : Rd8 w vx news) (hlen : l.length + news.length ≤ 140737488355328)
    (h : ∀ v' w', Own8 e w' v' (l ++ news) → w.grownBy w' v.ownBlock → (∀ b, v'.ownBlock = some b → v.ownBlock = some b ∨ w.heap.size ≤ b) → wpList P ops Q rest (a.put o.dst v') w') : wpList P ops Q (o :: rest) a w :=
  wpList_app hgd s x t ho ok hs hx hown hrd (by8_one _) (by simp only [maxLen]; omega) (by omega) fun v' w' h2 h3 h4 =>
    h v' w' (by unfold Own8; rw [List.length_append, List.map_append]; exact h2) h3 h4


section
variable {P : Program} {ops : Array Oper} {rest : List Oper} {a : Act} {Q : Exit → Act → World → Prop} {w : World} {d : Option Tmp} {t ty : TypeId} {x : Operand} {pos : String} {af : Array Edge}
theorem wpList_cut8 {e : TypeId} {z : Value} (ok : ElemOk P t e z 1 1) {l h : Operand} {vx : Value} (b : List UInt8) (lo hi : Nat) {kl kh : IntKind} {L H : Int}
    (hx : a.eval x = vx) (hl : a.eval l = .int kl L) (hh : a.eval h = .int kh H) (eL : L = lo) (eH : H = hi) (hrd : Rd8 w vx b) (h1 : lo ≤ hi) (h2 : hi ≤ b.length)
    (hK : ∀ v', Rd8 w v' ((b.drop lo).take (hi - lo)) → wpList P ops Q rest (a.put d v') w) : wpList P ops Q (⟨d, .slice t x (some l) (some h) none, ty, pos, af, none⟩ :: rest) a w :=
  wpList_cut ok lo hi hx hl hh eL eH hrd h1 h2 fun v' h => hK v' (by
    unfold Rd8
    rw [List.length_take, List.length_drop, Nat.min_eq_left (by omega), List.map_take, List.map_drop]
    simpa using h)
theorem wpList_cut8_lo {e : TypeId} {z : Value} (ok : ElemOk P t e z 1 1) {l : Operand} {vx : Value} (b : List UInt8) (lo : Nat) {kl : IntKind} {L : Int}
    (hx : a.eval x = vx) (hl : a.eval l = .int kl L) (eL : L = lo) (hrd : Rd8 w vx b) (h1 : lo ≤ b.length)
    (hK : ∀ v', Rd8 w v' (b.drop lo) → wpList P ops Q rest (a.put d v') w) : wpList P ops Q (⟨d, .slice t x (some l) none none, ty, pos, af, none⟩ :: rest) a w :=
  wpList_cut_lo ok lo hx hl eL hrd h1 fun v' h => hK v' (by
    unfold Rd8
    rw [List.length_drop, List.map_drop]
    simpa using h)
end

theorem run_str8 {P : Program} {w : World} {src dst e : TypeId} {v : Value} {l : List UInt8} (hs : P.underlying src = some (.slice e)) (he : P.underlying e = some (.int .u8)) (hd : P.underlying dst = some .string) (hr : Rd8 w v l) :
    (convert src dst v).run P w = .ok (.string ⟨l.toArray⟩) w := by
  obtain ⟨a, cap, rfl, h1, h2, h3, h4⟩ := hr.open
  cases a with
  | none =>
    have : l = [] := List.eq_nil_of_length_eq_zero (by have := h3 rfl; omega)
    subst this
    exact run_convert_bytes_nil w src e hs he _ _ dst hd
  | some ad =>
    refine run_convert_bytes_back w src dst e ad cap l hs he hd fun j hj => ?_
    obtain ⟨b, o, e, hc⟩ := h4 j hj
    cases e
    rw [Addr.add_lit]; exact hc
section
variable {P : Program} {ops : Array Oper} {rest : List Oper} {a : Act} {Q : Exit → Act → World → Prop} {w : World} {d : Option Tmp} {ty : TypeId} {x : Operand} {pos : String} {af : Array Edge} {g : Option (Nat × Bool)}
theorem hold_conv (f t : TypeId) (h : Hold (wpList P ops Q (⟨d, .convert f t x, ty, pos, af, g⟩ :: rest) a w)) : wpList P ops Q (⟨d, .convert f t x, ty, pos, af, g⟩ :: rest) a w := h
/-- 'string(b)' -/
theorem wpList_str8 {f t e : TypeId} (hw : Region.wanted ⟨d, .convert f t x, ty, pos, af, g⟩ (yielded ops a.tmps) = true) (hs : P.underlying f = some (.slice e)) (he : P.underlying e = some (.int .u8)) (hd : P.underlying t = some .string)
    {v : Value} {l : List UInt8} (hx : a.eval x = v) (hr : Rd8 w v l) (hK : wpList P ops Q rest (a.put d (.string ⟨l.toArray⟩)) w) : wpList P ops Q (⟨d, .convert f t x, ty, pos, af, g⟩ :: rest) a w := by
  refine wpList_want hw fun K hK' => ?_
  have hrun := run_str8 (P := P) hs he hd hr
  unfold Oper.wp execOp
  simp only [hx, Sem.run_bind, Sem.run_pure, hrun, Result.andThen_ok, Result.andThen]
  exact hK' _ _ hK
end

/-! ### rows of the call's own, made since a world w0 -/
def Mine8 (e : TypeId) (w0 w : World) (v : Value) (l : List UInt8) : Prop := Own8 e w v l ∧ ∀ b, v.ownBlock = some b → w0.heap.size ≤ b
theorem Mine8.own {e : TypeId} {w0 w : World} {v : Value} {l : List UInt8} (h : Mine8 e w0 w v l) : Own8 e w v l := h.1
theorem Mine8.rd {e : TypeId} {w0 w : World} {v : Value} {l : List UInt8} (h : Mine8 e w0 w v l) : Rd8 w v l := h.1.rd
theorem Mine8.below {e : TypeId} {w0 w w' : World} {v : Value} {l : List UInt8} (h : Mine8 e w0 w v l) (hb : Below w.heap.size w w') : Mine8 e w0 w' v l := ⟨h.1.below hb, h.2⟩
theorem Mine8.alloc {e : TypeId} {w0 w : World} {v : Value} {l : List UInt8} (h : Mine8 e w0 w v l) (o : Obj) : Mine8 e w0 (w.alloc o) v l := h.below (below_alloc w o)
theorem Mine8.since {e : TypeId} {w0 w1 w : World} {v : Value} {l : List UInt8} (h : Mine8 e w1 w v l) (hz : w0.heap.size ≤ w1.heap.size) : Mine8 e w0 w v l := ⟨h.1, fun b hb => Nat.le_trans hz (h.2 b hb)⟩
theorem mine8_at {w0 w : World} {e : TypeId} {cs : Array Value} {g n : Nat} (l : List UInt8) (hl : l.length ≤ maxLen) (hn : n = l.length) (hg : g = w.heap.size) (hz : w0.heap.size ≤ w.heap.size) (h : cs.toList = l.map by8) :
    Mine8 e w0 (w.alloc (.cells cs e)) (.slice (some ⟨g, 0, none⟩) n n) l :=
  ⟨own8_at l hl hn hg h, fun b hb => by cases hb; show w0.heap.size ≤ g; omega⟩
theorem mine8_nil (e : TypeId) (w0 w : World) : Mine8 e w0 w (.slice none 0 0) [] := ⟨own_nil w e 1, fun b hb => by cases hb⟩

theorem wpList_app8_mine {P : Program} {w : World} {ops : Array Oper} {rest : List Oper} {o : Oper} {a : Act} {Q : Exit → Act → World → Prop} (hgd : Region.wanted o (yielded ops a.tmps) = true) (s x : Operand) (t : TypeId)
    (ho : o.op = .call { callee := .builtin .append, args := #[s, x], argTypes := #[t, t] })
    {e : TypeId} {z : Value} (ok : ElemOk P t e z 1 1)
    {v : Value} (l : List UInt8) {vx : Value} (news : List UInt8) (hs : a.eval s = v) (hx : a.eval x = vx)
    (w0 : World) (hb0 : Below w0.heap.size w0 w) (hown : Mine8 e w0 w v l) (hrd : Rd8 w vx news) (hlen : l.length + news.length ≤ 140737488355328)
    (h : ∀ v' w', Mine8 e w0 w' v' (l ++ news) → Below w0.heap.size w0 w' → w.grownBy w' v.ownBlock → w0.heap.size ≤ w'.heap.size → wpList P ops Q rest (a.put o.dst v') w') : wpList P ops Q (o :: rest) a w :=
  wpList_app8 hgd s x t ho ok hs hx hown.own hrd hlen fun v' w' h2 h3 h4 =>
    h v' w' ⟨h2, fun b hb => (h4 b hb).elim (hown.2 b) fun h => Nat.le_trans hb0.size h⟩ (hb0.grown h3 hb0.size fun k hk => hown.2 k hk) h3 (Nat.le_trans hb0.size h3.size)

/-- the same inside a region that draws its order -/
theorem wp_app8_mine {P : Program} {w : World} {o : Oper} {a : Act} {K : Act → World → Prop} {Q : Exit → Act → World → Prop} (s x : Operand) (t : TypeId)
    (ho : o.op = .call { callee := .builtin .append, args := #[s, x], argTypes := #[t, t] })
    {e : TypeId} {z : Value} (ok : ElemOk P t e z 1 1)
    {v : Value} (l : List UInt8) {vx : Value} (news : List UInt8) (hs : a.eval s = v) (hx : a.eval x = vx)
    (w0 : World) (hb0 : Below w0.heap.size w0 w) (hown : Mine8 e w0 w v l) (hrd : Rd8 w vx news) (hlen : l.length + news.length ≤ 140737488355328)
    (h : ∀ v' w', Mine8 e w0 w' v' (l ++ news) → Below w0.heap.size w0 w' → w.grownBy w' v.ownBlock → w0.heap.size ≤ w'.heap.size → K (a.put o.dst v') w') : o.wp P a w K Q := by
  obtain ⟨v', w', hr, h2, h3, h4⟩ := run_app (P := P) w t o.type e z 1 1 ok v l.length (l.map by8) hown.own vx news.length (news.map by8) hrd (by8_one _) (by simp only [maxLen]; omega) (by omega)
  unfold Oper.wp execOp
  simp only [ho, resolve, invoke, builtin, Sem.run_bind, Sem.run_pure, Result.andThen_ok, List.map_toArray, List.map_cons, List.map_nil, hs, hx, hr]
  have h2' : Own8 e w' v' (l ++ news) := by unfold Own8; rw [List.length_append, List.map_append]; exact h2
  exact h v' w' ⟨h2', fun b hb => (h4 b hb).elim (hown.2 b) fun h => Nat.le_trans hb0.size h⟩ (hb0.grown h3 hb0.size fun k hk => hown.2 k hk) h3 (Nat.le_trans hb0.size h3.size)

theorem step_app8_mine {P : Program} {w : World} {ops : Array Oper} {o : Oper} {a : Act} {K : Act → World → Prop} {Q : Exit → Act → World → Prop} {E : Prop} (hgd : o.guard = none) (s x : Operand) (t : TypeId)
    (ho : o.op = .call { callee := .builtin .append, args := #[s, x], argTypes := #[t, t] })
    {e : TypeId} {z : Value} (ok : ElemOk P t e z 1 1)
    {v : Value} (l : List UInt8) {vx : Value} (news : List UInt8) (hs : a.eval s = v) (hx : a.eval x = vx)
    (w0 : World) (hb0 : Below w0.heap.size w0 w) (hown : Mine8 e w0 w v l) (hrd : Rd8 w vx news) (hlen : l.length + news.length ≤ 140737488355328)
    (h : ∀ v' w', Mine8 e w0 w' v' (l ++ news) → Below w0.heap.size w0 w' → w.grownBy w' v.ownBlock → w0.heap.size ≤ w'.heap.size → K (a.put o.dst v') w') :
    if Region.wanted o (yielded ops a.tmps) = true then Oper.wp P o a w K Q else E := by
  have hw : Region.wanted o (yielded ops a.tmps) = true := by simp [Region.wanted, hgd]
  rw [if_pos hw]
  exact wp_app8_mine s x t ho ok l news hs hx w0 hb0 hown hrd hlen h

end Go.Kt
