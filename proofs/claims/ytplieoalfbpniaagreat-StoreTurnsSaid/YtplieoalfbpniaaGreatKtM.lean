/- General facts, over any program: a map of the call's own as a function from keys to values (whatever the element type). -/
import Derived.Test.YtplieoalfbpniaaGreatKtA
import Derived.Maps.OwnSet
import Derived.Maps.OwnOps
set_option linter.unusedVariables false
set_option linter.unusedSimpArgs false
namespace Go.Kt
open Go.RowKit Go.Maps

/-- an element reads as itself -/
def anyElem (v : Value) : Option (DataW Value × List MemPlace) := some (.held v, [])

/-- block b is a map of n entries; at each key it has what f says -/
def MapIs (P : Program) (k : TypeId) (w : World) (b : Nat) (f : Lit → Option Value) (n : Nat) : Prop :=
  ∃ D : DataW Value, w.ownsMap P k anyElem b n D ∧ Maps.size D = n ∧ ∀ kl, (f kl = none → Maps.has D kl = false) ∧ ∀ v, f kl = some v → Maps.has D kl = true ∧ ∀ z, D.atKey kl z = .held v

variable {P : Program} {k : TypeId} {w : World} {b n : Nat} {f : Lit → Option Value}

theorem ownsMap_tight {R : Value → Option (DataW Value × List MemPlace)} {D : DataW Value} (h : w.ownsMap P k R b n D) : w.ownsMap P k R b (Maps.size D) D := by
  obtain ⟨es, clock, hb, F, hs, rfl⟩ := h
  exact ⟨es, clock, hb, F, by simp [Maps.size, length_sorted], rfl⟩
theorem MapIs.made (w : World) (P : Program) (k : TypeId) : MapIs P k (w.alloc (.map #[] 0)) w.heap.size (fun _ => none) 0 :=
  ⟨_, World.ownsMap_made w P k anyElem, rfl, fun _ => ⟨fun _ => rfl, fun _ h => by cases h⟩⟩
theorem MapIs.lt (h : MapIs P k w b f n) : b < w.heap.size := by obtain ⟨_, h, _⟩ := h; exact h.lt
theorem MapIs.grown {w' : World} {row : Option Nat} (h : MapIs P k w b f n) (hg : w.grownBy w' row) (hne : some b ≠ row) : MapIs P k w' b f n := by
  obtain ⟨D, h1, h2⟩ := h
  exact ⟨D, h1.kept hg hne, h2⟩
theorem MapIs.below (h : MapIs P k w b f n) {w' : World} (hb : Below w.heap.size w w') : MapIs P k w' b f n :=
  h.grown (row := none) ⟨hb.os, hb.tape, hb.output, hb.size, fun i hi _ => hb.block i hi⟩ (by simp)
theorem MapIs.alloc (h : MapIs P k w b f n) (o : Obj) : MapIs P k (w.alloc o) b f n := h.below (below_alloc w o)
theorem MapIs.drew (h : MapIs P k w b f n) : MapIs P k w.drew b f n := h
theorem MapIs.drewN (h : MapIs P k w b f n) (m : Nat) : MapIs P k (w.drewN m) b f n := by obtain ⟨D, h1, h2⟩ := h; exact ⟨D, h1, h2⟩
theorem MapIs.setCell (h : MapIs P k w b f n) {a : Addr} (ha : b ≠ a.block) (u : Value) : MapIs P k (w.setCell a u) b f n := by
  obtain ⟨D, h1, h2⟩ := h
  exact ⟨D, h1.setCell ha u, h2⟩

theorem MapIs.look (h : MapIs P k w b f n) {t e : TypeId} (K : Keyed P k) (ht : P.underlying t = some (.map k e)) {z : Value} (hz : (zeroValue e).run P w = .ok z w) {key : Value} {kl : Lit} (hkey : keyOf P k key = some kl) :
    (Instr.lookup t (.map (some b)) key true).run P w = .ok (.tuple #[(f kl).getD z, .bool (f kl).isSome]) w := by
  obtain ⟨D, h1, _, h2⟩ := h
  obtain ⟨v, ps, hr, hv⟩ := h1.look_ok K ht hz (zd := .held z) (zp := []) rfl hkey
  rw [hr]
  cases hf : f kl with
  | none =>
    have h3 := (h2 kl).1 hf
    rw [h3]
    rw [Maps.atKey_of_not_has h3] at hv
    unfold anyElem at hv
    injection hv with hv
    injection hv with hv _
    injection hv with hv
    rw [hv]; rfl
  | some u =>
    obtain ⟨h3, h4⟩ := (h2 kl).2 u hf
    rw [h3]
    rw [h4] at hv
    unfold anyElem at hv
    injection hv with hv
    injection hv with hv _
    injection hv with hv
    rw [hv]; rfl
theorem MapIs.look1 (h : MapIs P k w b f n) {t e : TypeId} (K : Keyed P k) (ht : P.underlying t = some (.map k e)) {z : Value} (hz : (zeroValue e).run P w = .ok z w) {key : Value} {kl : Lit} (hkey : keyOf P k key = some kl) :
    (Instr.lookup t (.map (some b)) key false).run P w = .ok ((f kl).getD z) w := by
  obtain ⟨D, h1, _, h2⟩ := h
  obtain ⟨v, ps, hr, hv⟩ := h1.lookup K ht hz (zd := .held z) (zp := []) rfl hkey
  rw [hr]
  cases hf : f kl with
  | none =>
    have h3 := (h2 kl).1 hf
    rw [Maps.atKey_of_not_has h3] at hv
    unfold anyElem at hv
    injection hv with hv
    injection hv with hv _
    injection hv with hv
    rw [hv]; rfl
  | some u =>
    obtain ⟨h3, h4⟩ := (h2 kl).2 u hf
    rw [h4] at hv
    unfold anyElem at hv
    injection hv with hv
    injection hv with hv _
    injection hv with hv
    rw [hv]; rfl
theorem MapIs.len (h : MapIs P k w b f n) {t e : TypeId} (ht : P.underlying t = some (.map k e)) (ty : TypeId) : (Builtin.len_ #[t] ty #[.map (some b)]).run P w = .ok (.int .i64 (n : Int)) w := by
  obtain ⟨D, h1, h2, _⟩ := h
  rw [h1.len ht ty, h2]

open Classical in
/-- the function with one key's value changed -/
noncomputable def upd (f : Lit → Option Value) (kl : Lit) (v : Value) : Lit → Option Value := fun x => if x = kl then some v else f x
theorem MapIs.put (h : MapIs P k w b f n) {t e : TypeId} (K : Keyed P k) (ht : P.underlying t = some (.map k e)) (hn : n < maxLen) {key : Value} (val : Value) {kl : Lit} (hkey : keyOf P k key = some kl) (hk : WideAt.IsKeyLit kl) :
    ∃ w', (Instr.mapUpdate t (.map (some b)) key val).run P w = .ok () w' ∧ MapIs P k w' b (upd f kl val) (if (f kl).isSome then n else n + 1) ∧ w.grownBy w' (some b) := by
  obtain ⟨D, h1, h2, h3⟩ := h
  obtain ⟨w', hr, h4, h5⟩ := h1.update K ht hn (val := val) (d := .held val) (ps := []) hkey rfl
  have hs := Maps.size_put (k := kl) (h1.tidy K) (.held val)
  have hh : Maps.has D kl = (f kl).isSome := by
    cases hf : f kl with
    | none => rw [(h3 kl).1 hf]; rfl
    | some u => rw [((h3 kl).2 u hf).1]; rfl
  rw [hh, h2] at hs
  refine ⟨w', hr, ⟨D.put kl (.held val), ?_, hs, fun x => ?_⟩, h5⟩
  · have := ownsMap_tight h4
    rwa [hs] at this
  · unfold upd
    by_cases hx : x = kl
    · subst hx
      rw [if_pos rfl]
      refine ⟨fun h => (by cases h), fun v hv => ?_⟩
      cases hv
      exact ⟨Maps.has_put_same h1.isMap hk _, fun z => Maps.atKey_put_same h1.isMap hk _ z⟩
    · rw [if_neg hx]
      refine ⟨fun h => by rw [Maps.has_put_other hx]; exact (h3 x).1 h, fun v hv => ?_⟩
      obtain ⟨g1, g2⟩ := (h3 x).2 v hv
      exact ⟨by rw [Maps.has_put_other hx]; exact g1, fun z => by rw [Maps.atKey_put_other hx]; exact g2 z⟩
end Go.Kt
