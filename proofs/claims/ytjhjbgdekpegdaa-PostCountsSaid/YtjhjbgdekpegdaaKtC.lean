/- General facts: a send or a receive of one goroutine as a step of a region, for the walk by Code.wp. -/
import Derived.Test.YtjhjbgdekpegdaaKtB
import Derived.Conc.LoneCalls
import Derived.Conc.LoneSelect
namespace Go.Kt
open Go.RowKit Go.Conc

/-- what a region's walk comes to, said by the machine's steps -/
def WpL (P : Program) (ops : Array Oper) (Q : Exit → Act → World → Prop) (l : List Nat) (a : Act) (w : World) : Prop :=
  ∀ (b : Frame) (k : List Item) (cs : List Frame), ∃ e a' w', Q e a' w' ∧ Arrives P (lone (b.at a (.inRegion ops l :: k)) cs w) b k cs e a' w'
section
variable {P : Program} {ops : Array Oper} {Q : Exit → Act → World → Prop} {i : Nat} {rest : List Nat} {a : Act} {w w' : World} {o : Oper} {v : Value}
theorem WpL.region {id : Nat} (h : WpL P ops Q (List.range ops.size) a w) : (Code.region id ops false).wp P Q a w := by
  intro b k cs
  obtain ⟨e, a', w', hq, harr⟩ := h b k cs
  exact ⟨e, a', w', hq, .of_steps (.one step_region) harr⟩
theorem WpL.of {l : List Nat} (h : wpOps P ops Q l a w) : WpL P ops Q l a w := fun b k cs => wp_ops l a w h b k cs
theorem WpL.nil (h : Q .normal a w) : WpL P ops Q [] a w := WpL.of (by simpa [wpOps] using h)
theorem WpL.value (ho : ops[i]? = some o) (hw : Region.wanted o (yielded ops a.tmps) = true) (hr : (execOp a.eval o).run P w = .ok (.value v) w') (h : WpL P ops Q rest (a.put o.dst v) w') : WpL P ops Q (i :: rest) a w := by
  intro b k cs
  obtain ⟨e, a', w'', hq, harr⟩ := h b k cs
  have hfin : (b.at a (.inRegion ops (i :: rest) :: k)).finish v = b.at (a.put o.dst v) (.inRegion ops rest :: k) := by
    rw [Frame.finish_at, ho]; rfl
  refine ⟨e, a', w'', hq, .of_steps (.one (step_lone_go ?_)) harr⟩
  rw [stepG_op ho hw, ← hfin]; simp [stepG.apply, hr]
theorem stepG_comm_any {cases : Array CommCase} {blocking : Bool} {shape : CommShape} {b : Frame} {k : List Item} {cs : List Frame} (ho : ops[i]? = some o) (hw : Region.wanted o (yielded ops a.tmps) = true)
    (hr : (execOp a.eval o).run P w = .ok (.comm cases blocking shape) w') :
    ∃ es, stepG P true (G (b.at a (.inRegion ops (i :: rest) :: k)) cs) w = .comm (G (b.at a (.inRegion ops (i :: rest) :: k)) cs) cases blocking shape w' es := by
  rw [stepG_oper ho hw]
  cases hk : b.kind == CallKind.early
  · exact ⟨_, by simp [stepG.apply, hr, G, Frame.at, hk, GStep.after]; rfl⟩
  · exact ⟨_, by simp [stepG.apply, hr, G, Frame.at, hk, GStep.after]; rfl⟩
/-- one communication: the machine's step is told by a law of Derived.Conc -/
theorem WpL.comm {cases : Array CommCase} {blocking : Bool} {shape : CommShape} {w2 : World} (ho : ops[i]? = some o) (hw : Region.wanted o (yielded ops a.tmps) = true)
    (hr : (execOp a.eval o).run P w = .ok (.comm cases blocking shape) w')
    (hs : ∀ (fr : Frame) (cs : List Frame) (es : Array Event), stepG P true (G fr cs) w = .comm (G fr cs) cases blocking shape w' es → step P (solo (G fr cs) w) = .next (solo (G (fr.finish v) cs) w2))
    (h : WpL P ops Q rest (a.put o.dst v) w2) : WpL P ops Q (i :: rest) a w := by
  intro b k cs
  obtain ⟨e, a', w'', hq, harr⟩ := h b k cs
  have hfin : (b.at a (.inRegion ops (i :: rest) :: k)).finish v = b.at (a.put o.dst v) (.inRegion ops rest :: k) := by
    rw [Frame.finish_at, ho]; rfl
  obtain ⟨es, hg⟩ := stepG_comm_any (rest := rest) (b := b) (k := k) (cs := cs) ho hw hr
  have := hs _ _ _ hg
  rw [hfin] at this
  exact ⟨e, a', w'', hq, .of_steps (.one this) harr⟩
end
end Go.Kt
