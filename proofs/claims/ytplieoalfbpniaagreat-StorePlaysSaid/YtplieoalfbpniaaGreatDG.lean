/- Where a write is laid in a rising list of chains. -/
import Derived.Test.YtplieoalfbpniaaGreatPG
set_option linter.unusedVariables false
set_option linter.unusedSimpArgs false
namespace Go.Sx
section
variable {σ : Type} {lt : σ → σ → Prop}
theorem split_ahead [DecidableEq σ] [DecidableRel lt] (h : Line lt) {L : List (Item σ)} (hL : Rise lt L) {s : σ} {t : Int} {k : Nat} (hn : ∀ x, L[k]? = some x → ¬ x.Ahead lt s t) : ∀ y ∈ L.drop k, ¬ y.Ahead lt s t := by
  intro y hy
  obtain ⟨j, hj, rfl⟩ := List.getElem_of_mem hy
  rw [List.length_drop] at hj
  rw [List.getElem_drop]
  by_cases e : j = 0
  · subst e
    exact hn _ (List.getElem?_eq_getElem (by omega))
  · intro ha
    have hp := List.pairwise_iff_getElem.1 hL k (k + j) (by omega) (by omega) (by omega)
    exact hn _ (List.getElem?_eq_getElem (by omega)) (ahead_trans h hp ha)
theorem set_take [DecidableEq σ] [DecidableRel lt] {L : List (Item σ)} {s : σ} {t : Int} {k : Nat} (hk : ∀ x ∈ L.take k, x.Ahead lt s t) (hd : ∀ y ∈ L.drop k, ¬ y.Ahead lt s t) :
    L.filter (fun x => decide (x.Ahead lt s t)) = L.take k := by
  conv => lhs; rw [← List.take_append_drop k L]
  rw [List.filter_append, List.filter_eq_self.2 (fun x hx => by simpa using hk x hx), List.filter_eq_nil_iff.2 (fun x hx => by simpa using hd x hx), List.append_nil]
theorem ahead_unlike (h : Line lt) {x : Item σ} {s : σ} {t : Int} (ha : x.Ahead lt s t) : ¬ (x.set = s ∧ x.time = t) := by
  rintro ⟨rfl, rfl⟩
  exact ahead_irr h x ha
/-- the chain is there -/
theorem set_there [DecidableEq σ] [DecidableRel lt] (h : Line lt) {L : List (Item σ)} (hL : Rise lt L) {s : σ} {t : Int} {k : Nat} {x : Item σ} (hk : ∀ y ∈ L.take k, y.Ahead lt s t) (hx : L[k]? = some x) (e1 : x.set = s) (e2 : x.time = t) :
    atL L s t = x.l ∧ ∀ c, setL lt L s t c = L.take k ++ ⟨s, t, c⟩ :: L.drop (k + 1) := by
  subst e1 e2
  obtain ⟨hk', hxe⟩ := List.getElem?_eq_some_iff.1 hx
  have hm : x ∈ L := List.mem_of_getElem? hx
  refine ⟨atL_of h hL hm, fun c => ?_⟩
  have hd : ∀ y ∈ L.drop k, ¬ y.Ahead lt x.set x.time := split_ahead h hL (fun y hy => by
    rw [hx] at hy
    injection hy with hy
    rw [← hy]
    exact ahead_irr h _)
  have hdk : L.drop k = x :: L.drop (k + 1) := by rw [List.drop_eq_getElem_cons hk', hxe]
  unfold setL
  rw [set_take hk hd]
  congr 2
  have hs : ∀ p : Item σ → Bool, L.filter p = (L.take k).filter p ++ (x :: L.drop (k + 1)).filter p := fun p => by rw [← List.filter_append, ← hdk, List.take_append_drop]
  rw [hs, List.filter_eq_nil_iff.2 (fun y hy => by simp [hk y hy]), List.nil_append, List.filter_cons, if_neg (by simp)]
  refine List.filter_eq_self.2 (fun y hy => ?_)
  have h1 := hd y (by rw [hdk]; exact List.mem_cons_of_mem _ hy)
  have h2 : ¬ (y.set = x.set ∧ y.time = x.time) := by
    obtain ⟨j, hj, rfl⟩ := List.getElem_of_mem hy
    rw [List.length_drop] at hj
    rw [List.getElem_drop]
    have hp := List.pairwise_iff_getElem.1 hL k (k + 1 + j) hk' (by omega) (by omega)
    rintro ⟨e1, e2⟩
    rw [e1, e2, hxe] at hp
    exact ahead_irr h _ hp
  simp [h1, h2]
/-- there is no such chain -/
theorem set_new [DecidableEq σ] [DecidableRel lt] (h : Line lt) {L : List (Item σ)} (hL : Rise lt L) {s : σ} {t : Int} {k : Nat} (hk : ∀ y ∈ L.take k, y.Ahead lt s t) (hn : ∀ x, L[k]? = some x → ¬ x.Ahead lt s t) (hu : ∀ x, L[k]? = some x → ¬ (x.set = s ∧ x.time = t)) :
    atL L s t = [] ∧ ∀ c, setL lt L s t c = L.take k ++ ⟨s, t, c⟩ :: L.drop k := by
  have hd := split_ahead h hL hn
  have hs : ∀ y ∈ L.drop k, ¬ (y.set = s ∧ y.time = t) := by
    intro y hy
    obtain ⟨j, hj, rfl⟩ := List.getElem_of_mem hy
    rw [List.length_drop] at hj
    rw [List.getElem_drop]
    by_cases e : j = 0
    · subst e
      exact hu _ (List.getElem?_eq_getElem (by omega))
    · rintro ⟨e1, e2⟩
      have hp := List.pairwise_iff_getElem.1 hL k (k + j) (by omega) (by omega) (by omega)
      rw [e1, e2] at hp
      exact hn _ (List.getElem?_eq_getElem (by omega)) hp
  refine ⟨?_, fun c => ?_⟩
  · unfold atL
    have : L.find? (fun x => decide (x.set = s ∧ x.time = t)) = none := by
      rw [List.find?_eq_none]
      intro y hy
      rw [← List.take_append_drop k L] at hy
      rcases List.mem_append.1 hy with h1 | h1
      · simpa using ahead_unlike h (hk y h1)
      · simpa using hs y h1
    rw [this]
  · unfold setL
    rw [set_take hk hd]
    congr 2
    conv => lhs; rw [← List.take_append_drop k L]
    rw [List.filter_append, List.filter_eq_nil_iff.2 (fun y hy => by simp [hk y hy]), List.nil_append]
    exact List.filter_eq_self.2 (fun y hy => by have h1 := hd y hy; have h2 := hs y hy; simp [h1, h2])
end
end Go.Sx
