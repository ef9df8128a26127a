/- A key taken out of a map. -/
import Derived.Test.YtokmiphgalpahaaWD
namespace Go.Proofs.Ytokmiphgalpahaa
open Go.RowKit Go.Kt
set_option maxRecDepth 100000
open Classical in
noncomputable def cut (f : Lit → Option Value) (kl : Lit) : Lit → Option Value := fun x => if x = kl then none else f x
theorem mapIs_del {P : Program} {k : TypeId} {w : World} {b n : Nat} {f : Lit → Option Value} (h : MapIs P k w b f n) {t e : TypeId} (K : Maps.Keyed P k) (ht : P.underlying t = some (.map k e)) {key : Value} {kl : Lit} (hkey : keyOf P k key = some kl) (ty : TypeId) :
    ∃ w', (Builtin.delete_ #[t, k] ty #[.map (some b), key]).run P w = .ok (.tuple #[]) w' ∧ MapIs P k w' b (cut f kl) (if (f kl).isSome then n - 1 else n) ∧ w.mapTurned w' b := by
  obtain ⟨D, h1, h2, h3⟩ := h
  obtain ⟨w', hr, h4, h5⟩ := h1.drop K ht hkey ty
  have hs := Maps.size_del (k := kl) (h1.tidy K)
  have hh : Maps.has D kl = (f kl).isSome := by
    cases hf : f kl with
    | none => rw [(h3 kl).1 hf]; rfl
    | some u => rw [((h3 kl).2 u hf).1]; rfl
  have hsz : Maps.size (D.del kl) = if (f kl).isSome then n - 1 else n := by
    rw [hh, h2] at hs
    split at hs <;> simp_all <;> omega
  refine ⟨w', hr, ⟨D.del kl, ?_, hsz, fun x => ?_⟩, h5⟩
  · have := ownsMap_tight h4
    rwa [hsz] at this
  · unfold cut
    by_cases hx : x = kl
    · subst hx
      rw [if_pos rfl]
      exact ⟨fun _ => Maps.has_del_same, fun v hv => (by cases hv)⟩
    · rw [if_neg hx]
      refine ⟨fun h => by rw [Maps.has_del_other hx]; exact (h3 x).1 h, fun v hv => ?_⟩
      obtain ⟨g1, g2⟩ := (h3 x).2 v hv
      exact ⟨by rw [Maps.has_del_other hx]; exact g1, fun z => by rw [Maps.atKey_del_other hx]; exact g2 z⟩
end Go.Proofs.Ytokmiphgalpahaa
