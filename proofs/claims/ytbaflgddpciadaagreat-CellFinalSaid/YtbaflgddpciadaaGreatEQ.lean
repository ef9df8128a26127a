/- Deed (32). What holds between two commands of a law's loop; Deed of a cell. -/
import Derived.Test.YtbaflgddpciadaaGreatEH
import Derived.Test.YtbaflgddpciadaaGreatEO
set_option linter.unusedVariables false
set_option linter.unusedSimpArgs false
namespace Go.Proofs.YtbaflgddpciadaaGreat
open Go.RowKit Go.Kt Go.Ix Go.Sx Go.Cx
set_option maxRecDepth 100000
variable {F : Nat → Prop} {w w' : World} {c N : Nat} {C : Cl} {p : Cp}
/-- how a deed is told, if it is known -/
def DeedPost (C : Cl) (n : Int) (w : World) (e : Ending) (w' : World) : Prop := ∃ ok d, FoundD C.deeds n ok d ∧ e = .returned (.tuple #[replyV (if ok = true then d.told else bad 0), .bool ok]) ∧ Below w.heap.size w w'
end Go.Proofs.YtbaflgddpciadaaGreat
set_option linter.unusedVariables false
set_option linter.unusedSimpArgs false
namespace Go.Proofs.YtbaflgddpciadaaGreat
open Go.RowKit Go.Kt Go.Ix Go.Sx Go.Cx
set_option maxRecDepth 100000
variable {S : Nat → Prop} {w w' : World} {c N : Nat} {C : Cl}
/-- between two commands -/
structure Rn (w wr : World) (S : Nat → Prop) (c : Nat) (C : Cl) (k : Nat) : Prop where
  cel : Cel S wr c C (64 * k)
  ticks : C.ticks ≤ k
  ge : ∀ x, S x → w.heap.size ≤ x
  bel : Below w.heap.size w wr
theorem Rn.next {wr wr' : World} {k : Nat} (h : Rn w wr S c C k) (hb : Below wr.heap.size wr wr') : Rn w wr' S c C k := ⟨h.cel.next hb, h.ticks, h.ge, bel_trans h.bel hb⟩
/-- a command was done -/
theorem Rn.done {wr W W' : World} {S' : Nat → Prop} {k : Nat} (h : Rn w wr S c C k) (hb : Below wr.heap.size wr W) {m : Cmd} (hc : Cel S' W' c (doC C m).2 (64 * k + 64)) (hS : ∀ x, S' x → S x ∨ W.heap.size ≤ x) (ht : Turn S W W') : Rn w W' S' c (doC C m).2 (k + 1) := by
  have hW := h.next hb
  refine ⟨hc.more (by omega), ?_, fun x hx => ?_, ?_⟩
  · have h1 := (do_rises C m).2.2.2; have h2 := h.ticks; omega
  · rcases hS x hx with h1 | h1
    · exact h.ge x h1
    · exact Nat.le_trans hW.bel.size h1
  · have hT : Turn (fun x => w.heap.size ≤ x) w W' := (Turn.of hW.bel).trans ht (fun x hx => .inl (h.ge x hx))
    exact hT.bel (Nat.le_refl _) (fun x hx => hx)
def DeedFact (C : Cl) (n : Int) (ok : Bool) (ws : Int) (at_ : Tm) : Prop := (ok = false → findD C.deeds n = none) ∧ (ok = true → ∃ d, findD C.deeds n = some d ∧ d.state = ws ∧ d.at_ = at_)
theorem cmpT_pos {a b : Tm} (h : b.lt a) : decide (cmpT a b ≤ 0) = false := by
  simp only [decide_eq_false_iff_not]
  exact fun e => cmpT_le.1 e h
end Go.Proofs.YtbaflgddpciadaaGreat
