/- General facts: blocks known whole; append as the last step of a region that draws its order. -/
import Derived.Test.YtplieoalfbpniaaGreatKtM
set_option linter.unusedVariables false
set_option linter.unusedSimpArgs false
namespace Go.Kt
open Go.RowKit

/-- a block, whole -/
def Blk (w : World) (g : Nat) (cs : Array Value) (t : TypeId) : Prop := w.heap[g]? = some (.cells cs t (0, 0))
theorem Blk.lt {w : World} {g : Nat} {cs : Array Value} {t : TypeId} (h : Blk w g cs t) : g < w.heap.size := (Array.getElem?_eq_some_iff.1 h).1
theorem Blk.next {w w' : World} {g : Nat} {cs : Array Value} {t : TypeId} (h : Blk w g cs t) (hb : Below w.heap.size w w') : Blk w' g cs t := (hb.block g h.lt).trans h
theorem Blk.new (w : World) (cs : Array Value) (t : TypeId) : Blk (w.alloc (.cells cs t)) w.heap.size cs t := heap_alloc_new w _
theorem Blk.cell {w : World} {g : Nat} {cs : Array Value} {t : TypeId} (h : Blk w g cs t) (j : Nat) : w.cell? ⟨g, j, none⟩ = cs[j]? := cell_of_row w g j cs t (0, 0) h
theorem Blk.free {w : World} {g : Nat} {cs : Array Value} {t : TypeId} (h : Blk w g cs t) (j : Nat) : w.frozen? ⟨g, j, none⟩ = false := frozen_of_row w g j cs t h
theorem Blk.set {w : World} {g : Nat} {cs : Array Value} {t : TypeId} (h : Blk w g cs t) (j : Nat) (u : Value) : Blk (w.setCell ⟨g, j, none⟩ u) g (cs.setIfInBounds j u) t := heap_setCell_same w g j cs t u h
theorem Blk.other {w : World} {g : Nat} {cs : Array Value} {t : TypeId} (h : Blk w g cs t) {p : Addr} (hg : g ≠ p.block) (u : Value) : Blk (w.setCell p u) g cs t := (heap_setCell_other w p g u hg).trans h
theorem Blk.grown {w w' : World} {g : Nat} {cs : Array Value} {t : TypeId} (h : Blk w g cs t) {r : Option Nat} (hg : w.grownBy w' r) (hne : r ≠ some g) : Blk w' g cs t := (hg.block g h.lt (fun e => hne e.symm)).trans h
theorem own_no_blk {w : World} {e t : TypeId} {size n g : Nat} {v : Value} {xs : List Value} {cs : Array Value} (h : Own e size w v n xs) (hb : Blk w g cs t) (hne : e ≠ t) : v.ownBlock ≠ some g := by
  intro hv
  rcases h.2 with ⟨rfl, _⟩ | ⟨g', cap, cur, rfl, _, hg, _⟩
  · cases hv
  · have : g' = g := by simpa [Value.ownBlock] using hv
    subst this
    unfold Blk at hb
    rw [hg] at hb
    injection hb with hb
    injection hb with _ hb
    exact hne hb
theorem own_no_map {w : World} {e : TypeId} {size n m : Nat} {v : Value} {xs : List Value} {P : Program} {k : TypeId} {F : Lit → Option Value} {c : Nat} (h : Own e size w v n xs) (hm : MapIs P k w m F c) : v.ownBlock ≠ some m := by
  intro hb
  rcases h.2 with ⟨rfl, _⟩ | ⟨g, cap, cur, rfl, _, hg, _⟩
  · cases hb
  · have : g = m := by simpa [Value.ownBlock] using hb
    subst this
    obtain ⟨D, ⟨es, clock, hb', _⟩, _⟩ := hm
    rw [hg] at hb'
    cases hb'
theorem own_set {e : TypeId} {size n : Nat} {w : World} {v : Value} {xs : List Value} (h : Own e size w v n xs) {p : Addr} (hp : ∀ b, v.ownBlock = some b → b ≠ p.block) (u : Value) : Own e size (w.setCell p u) v n xs :=
  h.keep fun b hb => heap_setCell_other w p b u (hp b hb)
theorem cell_no_map {w : World} {m c : Nat} {P : Program} {k : TypeId} {F : Lit → Option Value} (hm : MapIs P k w m F c) (o : Nat) : w.cell? ⟨m, o, none⟩ = none := by
  obtain ⟨D, ⟨es, clock, hb, _⟩, _⟩ := hm
  simp [World.cell?, hb]
theorem rd_drew {size n : Nat} {w : World} {v : Value} {xs : List Value} (h : RdRow size w v n xs) : RdRow size w.drew v n xs := h
/-- a row that is read, behind a step that turned a map alone -/
theorem rdRow_grown {size : Nat} {w w' : World} {v : Value} {n m c : Nat} {xs : List Value} {P : Program} {k : TypeId} {F : Lit → Option Value} (h : RdRow size w v n xs) (hm : MapIs P k w m F c) (hg : w.grownBy w' (some m)) : RdRow size w' v n xs := by
  obtain ⟨hl, a, cap, rfl, h1, h2, h3, h5⟩ := h
  refine ⟨hl, a, cap, rfl, h1, h2, h3, fun j u hj => ?_⟩
  obtain ⟨b, o, ha, hc⟩ := h5 j u hj
  refine ⟨b, o, ha, ?_⟩
  have hne : b ≠ m := by
    rintro rfl
    rw [cell_no_map hm] at hc
    cases hc
  rw [← hc]
  exact World.cell?_of_block (hg.block b (World.block_lt_of_cell? w _ hc) (fun e => hne (by injection e)))

/-- 'append(s, x...)' as a step of a region that draws its order -/
theorem step_app {P : Program} {w : World} {ops : Array Oper} {o : Oper} {a : Act} {K : Act → World → Prop} {Q : Exit → Act → World → Prop} {E : Prop} (hgd : o.guard = none) (s x : Operand) (t : TypeId)
    (ho : o.op = .call { callee := .builtin .append, args := #[s, x], argTypes := #[t, t] })
    {e : TypeId} {z : Value} {size bytes : Nat} (ok : ElemOk P t e z size bytes)
    {v : Value} {n : Nat} {xs : List Value} {vx : Value} {m : Nat} {news : List Value} (hs : a.eval s = v) (hx : a.eval x = vx)
    (hown : Own e size w v n xs) (hrd : RdRow size w vx m news) (h1 : ∀ u ∈ news, u.oneCell' = true)
    (h63 : n + m ≤ maxLen) (hbytes : (n + m) * bytes ≤ 140737488355328)
    (h : ∀ v' w', Own e size w' v' (n + m) (xs ++ news) → w.grownBy w' v.ownBlock → (∀ b, v'.ownBlock = some b → v.ownBlock = some b ∨ w.heap.size ≤ b) → K (a.put o.dst v') w') :
    if Region.wanted o (yielded ops a.tmps) = true then Oper.wp P o a w K Q else E := by
  have hw : Region.wanted o (yielded ops a.tmps) = true := by simp [Region.wanted, hgd]
  rw [if_pos hw]
  obtain ⟨v', w', hr, h2, h3, h4⟩ := run_app (P := P) w t o.type e z size bytes ok v n xs hown vx m news hrd h1 h63 hbytes
  unfold Oper.wp execOp
  simp only [ho, resolve, invoke, builtin, Sem.run_bind, Sem.run_pure, Result.andThen_ok, List.map_toArray, List.map_cons, List.map_nil, hs, hx, hr]
  exact h v' w' h2 h3 h4
end Go.Kt
