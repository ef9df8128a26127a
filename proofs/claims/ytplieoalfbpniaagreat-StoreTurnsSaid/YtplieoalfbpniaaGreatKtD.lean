/- General facts, over any program: a map of the call's own that holds rows of the call's own, each apart from all others. -/
import Derived.Test.YtplieoalfbpniaaGreatKtM
import Derived.Test.YtplieoalfbpniaaGreatKtB
set_option linter.unusedVariables false
set_option linter.unusedSimpArgs false
namespace Go.Kt
open Go.RowKit Go.Maps

/-- at each key the row X k; all made since w0 -/
structure Book (P : Program) (kt e : TypeId) (size : Nat) (w0 w : World) (am : Nat) (F : Lit → Option Value) (X : Lit → Nat × List Value) (n : Nat) : Prop where
  map : MapIs P kt w am F n
  ge : w0.heap.size ≤ am
  none_ : ∀ k, F k = none → X k = (0, [])
  row : ∀ k v, F k = some v → Own e size w v (X k).1 (X k).2 ∧ (∀ b, v.ownBlock = some b → w0.heap.size ≤ b)
  apart : ∀ k v k' v', F k = some v → F k' = some v' → k ≠ k' → ∀ b, v.ownBlock = some b → v'.ownBlock ≠ some b

variable {P : Program} {kt e : TypeId} {size : Nat} {w0 w w' : World} {am : Nat} {F : Lit → Option Value} {X : Lit → Nat × List Value} {n : Nat}
theorem Book.new (P : Program) (kt e : TypeId) (size : Nat) (w0 w : World) (h : w0.heap.size ≤ w.heap.size) : Book P kt e size w0 (w.alloc (.map #[] 0)) w.heap.size (fun _ => none) (fun _ => (0, [])) 0 :=
  ⟨MapIs.made w P kt, h, fun _ _ => rfl, fun _ _ h => (by cases h), fun _ _ _ _ h => (by cases h)⟩
/-- behind a step that turned one block alone, and that is neither the map's nor a row's -/
theorem Book.grown {r : Option Nat} (h : Book P kt e size w0 w am F X n) (hg : w.grownBy w' r) (h1 : r ≠ some am) (h2 : ∀ k v, F k = some v → ∀ b, v.ownBlock = some b → r ≠ some b) : Book P kt e size w0 w' am F X n :=
  ⟨h.map.grown hg (fun e => h1 e.symm), h.ge, h.none_, fun k v hv => ⟨(h.row k v hv).1.grown hg (h2 k v hv), (h.row k v hv).2⟩, h.apart⟩
theorem Book.below (h : Book P kt e size w0 w am F X n) (hb : Below w.heap.size w w') : Book P kt e size w0 w' am F X n :=
  ⟨h.map.below hb, h.ge, h.none_, fun k v hv => ⟨(h.row k v hv).1.below' hb, (h.row k v hv).2⟩, h.apart⟩
/-- what is read at a key -/
theorem Book.look (h : Book P kt e size w0 w am F X n) (k : Lit) :
    Own e size w ((F k).getD (.slice none 0 0)) (X k).1 (X k).2 ∧ ∀ b, ((F k).getD (.slice none 0 0)).ownBlock = some b → w0.heap.size ≤ b := by
  cases hf : F k with
  | none =>
    rw [h.none_ k hf]
    exact ⟨own_nil w e size, fun b hb => (by cases hb)⟩
  | some v => exact h.row k v hf
open Classical in
/-- one key's row made another -/
noncomputable def setX {α : Type} (X : Lit → α) (k : Lit) (l : α) : Lit → α := fun x => if x = k then l else X x
theorem setX_same {α : Type} (X : Lit → α) (k : Lit) (l : α) : setX X k l k = l := by unfold setX; rw [if_pos rfl]
theorem setX_other {α : Type} (X : Lit → α) {k x : Lit} (l : α) (h : x ≠ k) : setX X k l x = X x := by unfold setX; rw [if_neg h]
/-- behind the append, and behind the store into the map -/
theorem Book.push {w1 w2 : World} {n' : Nat} (h : Book P kt e size w0 w am F X n) (k : Lit) {v' : Value} {l : Nat × List Value}
    (ho : Own e size w1 v' l.1 l.2) (hg : w.grownBy w1 ((F k).getD (.slice none 0 0)).ownBlock) (hn : ∀ b, v'.ownBlock = some b → ((F k).getD (.slice none 0 0)).ownBlock = some b ∨ w.heap.size ≤ b) (hz : w0.heap.size ≤ w.heap.size)
    (hm : MapIs P kt w2 am (upd F k v') n') (hg2 : w1.grownBy w2 (some am)) (hm1 : MapIs P kt w1 am F n) : Book P kt e size w0 w2 am (upd F k v') (setX X k l) n' := by
  have hne : ∀ k' v'', F k' = some v'' → k' ≠ k → ∀ b, v''.ownBlock = some b → v'.ownBlock ≠ some b ∧ ((F k).getD (.slice none 0 0)).ownBlock ≠ some b := by
    intro k' v'' hf hk b hb
    have h1 : ((F k).getD (.slice none 0 0)).ownBlock ≠ some b := by
      cases hfk : F k with
      | none => intro e; cases e
      | some v => exact h.apart k' v'' k v hf hfk hk b hb
    refine ⟨fun e => ?_, h1⟩
    rcases hn b e with h2 | h2
    · exact h1 h2
    · have := (h.row k' v'' hf).1.lt b hb
      omega
  refine ⟨hm, h.ge, fun x hx => ?_, fun x v hx => ?_, fun x v x' v'' hx hx' hxx b hb => ?_⟩
  · unfold upd at hx
    by_cases e : x = k
    · rw [if_pos e] at hx; cases hx
    · rw [if_neg e] at hx
      rw [setX_other X l e]
      exact h.none_ x hx
  · unfold upd at hx
    by_cases e : x = k
    · rw [if_pos e] at hx
      cases hx
      rw [e, setX_same]
      refine ⟨ho.grown hg2 (fun b hb e' => own_no_map ho hm1 (by rw [hb]; exact e'.symm)), fun b hb => ?_⟩
      rcases hn b hb with h2 | h2
      · exact (h.look k).2 b h2
      · omega
    · rw [if_neg e] at hx
      rw [setX_other X l e]
      obtain ⟨r1, r2⟩ := h.row x v hx
      have r3 := r1.grown hg (fun b hb e' => (hne x v hx e b hb).2 e')
      exact ⟨r3.grown hg2 (fun b hb e' => own_no_map r3 hm1 (by rw [hb]; exact e'.symm)), r2⟩
  · unfold upd at hx hx'
    by_cases e : x = k
    · rw [if_pos e] at hx
      cases hx
      have e' : ¬ x' = k := fun h' => hxx (by rw [e, h'])
      rw [if_neg e'] at hx'
      exact fun hb' => (hne x' v'' hx' e' b hb').1 hb
    · rw [if_neg e] at hx
      by_cases e' : x' = k
      · rw [if_pos e'] at hx'
        cases hx'
        exact (hne x v hx e b hb).1
      · rw [if_neg e'] at hx'
        exact h.apart x v x' v'' hx hx' hxx b hb
end Go.Kt
