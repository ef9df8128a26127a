/- The plain law of KeepSpares: stamps are ordered by cmp; a plan's cut stands behind nothing; with more closed it never falls back. -/
import Derived.Test.YtabpcbjjchhbeaaW6
namespace Go.Proofs.Ytabpcbjjchhbeaa
open Go.RowKit Go.Kt

/-- a stamp's small parts are not below nought -/
def St.nat (s : St) : Prop := 0 ≤ s.tick ∧ 0 ≤ s.mark
/-- not behind -/
def St.le (a b : St) : Prop := a.wall < b.wall ∨ a.wall = b.wall ∧ (a.tick < b.tick ∨ a.tick = b.tick ∧ a.mark ≤ b.mark)
theorem St.le_refl (a : St) : a.le a := .inr ⟨rfl, .inr ⟨rfl, Int.le_refl _⟩⟩
theorem St.le_trans {a b c : St} (h : a.le b) (k : b.le c) : a.le c := by
  unfold St.le at *
  omega
theorem cmp_neg (a b : St) : cmp a b < 0 ↔ ¬ b.le a := by
  unfold cmp St.le
  by_cases h1 : a.wall = b.wall
  · rw [if_neg (by simp [h1])]
    by_cases h2 : a.tick = b.tick
    · rw [if_neg (by simp [h2])]
      by_cases h3 : a.mark = b.mark
      · rw [if_neg (by simp [h3])]
        omega
      · rw [if_pos h3]
        split <;> omega
    · rw [if_pos h2]
      split <;> omega
  · rw [if_pos h1]
    split <;> omega
theorem cmp_pos (a b : St) : cmp a b ≤ 0 ↔ a.le b := by
  unfold cmp St.le
  by_cases h1 : a.wall = b.wall
  · rw [if_neg (by simp [h1])]
    by_cases h2 : a.tick = b.tick
    · rw [if_neg (by simp [h2])]
      by_cases h3 : a.mark = b.mark
      · rw [if_neg (by simp [h3])]
        omega
      · rw [if_pos h3]
        split <;> omega
    · rw [if_pos h2]
      split <;> omega
  · rw [if_pos h1]
    split <;> omega
theorem pick_le (x m : St) : (if cmp x m < 0 then x else m).le x ∧ (if cmp x m < 0 then x else m).le m := by
  split
  · rename_i h
    rw [cmp_neg] at h
    refine ⟨St.le_refl _, ?_⟩
    unfold St.le at *
    omega
  · rename_i h
    rw [cmp_neg] at h
    exact ⟨Classical.not_not.1 h, St.le_refl _⟩
theorem least_le (l : List St) : ∀ m : St, (least m l).le m ∧ ∀ x ∈ l, (least m l).le x := by
  induction l with
  | nil => exact fun m => ⟨St.le_refl _, by simp⟩
  | cons y t ih =>
    intro m
    have e : least m (y :: t) = least (if cmp y m < 0 then y else m) t := rfl
    rw [e]
    obtain ⟨h1, h2⟩ := ih (if cmp y m < 0 then y else m)
    obtain ⟨g1, g2⟩ := pick_le y m
    refine ⟨St.le_trans h1 g2, fun x hx => ?_⟩
    rcases List.mem_cons.1 hx with rfl | hx
    · exact St.le_trans h1 g1
    · exact h2 x hx
theorem le_least {c m : St} {l : List St} (h : c.le m) (hl : ∀ x ∈ l, c.le x) : c.le (least m l) := by
  rcases least_mem m l with h1 | h1
  · rw [h1]; exact h
  · exact hl _ h1
theorem head_mem {l : List St} (h : l ≠ []) (d : St) : l.headD d ∈ l := by
  cases l with
  | nil => exact (h rfl).elim
  | cons x t => simp
theorem cut0_le {a : Int} {m : St} (ha : 0 ≤ a) (hm : stR m = true) (hn : m.nat) : (cut0 a m).le m := by
  obtain ⟨h1, h2⟩ := hn
  simp only [stR, Bool.and_eq_true, decide_eq_true_eq] at hm
  unfold cut0
  by_cases h : a ≤ m.wall
  · rw [if_pos h]; unfold St.le; simp only; omega
  · rw [if_neg h]; unfold St.le; simp only; omega
theorem cut0_mono {a : Int} {m m' : St} (h : m.le m') (hm : 0 ≤ m.wall) : (cut0 a m).le (cut0 a m') := by
  unfold St.le at h
  unfold cut0
  by_cases h1 : a ≤ m.wall
  · by_cases h2 : a ≤ m'.wall
    · rw [if_pos h1, if_pos h2]
      rcases h with h | ⟨h, _⟩
      · exact .inl (by simp only; omega)
      · exact .inr ⟨by simp only; omega, .inr ⟨rfl, Int.le_refl _⟩⟩
    · omega
  · by_cases h2 : a ≤ m'.wall
    · rw [if_neg h1, if_pos h2]
      rcases Int.lt_or_eq_of_le (show 0 ≤ m'.wall - a by omega) with h3 | h3
      · exact .inl h3
      · exact .inr ⟨h3, .inr ⟨rfl, Int.le_refl _⟩⟩
    · rw [if_neg h1, if_neg h2]; exact St.le_refl _
theorem spares_cut {a s : Int} {closed pins : List St} {newest : Int} (hok : okArgs a s closed pins newest) (hn : ∀ x ∈ closed, x.nat) : ∀ x ∈ closed ++ pins, ¬ cmp x (planOf a s closed pins newest).cut < 0 := by
  obtain ⟨h1, h2, h3, h4, h5, h6⟩ := hok
  have ha : 0 ≤ a := by
    simp only [polR, Bool.and_eq_true, decide_eq_true_eq] at h1
    exact h1.1.1.1
  intro x hx
  rw [cmp_neg, Classical.not_not]
  show (least (cut0 a (least (closed.headD ⟨0, 0, 0⟩) closed)) pins).le x
  obtain ⟨g1, g2⟩ := least_le pins (cut0 a (least (closed.headD ⟨0, 0, 0⟩) closed))
  obtain ⟨g3, g4⟩ := least_le closed (closed.headD ⟨0, 0, 0⟩)
  have hm : least (closed.headD ⟨0, 0, 0⟩) closed ∈ closed := by
    rcases least_mem (closed.headD ⟨0, 0, 0⟩) closed with h | h
    · rw [h]; exact head_mem h2 _
    · exact h
  rcases List.mem_append.1 hx with hx | hx
  · exact St.le_trans g1 (St.le_trans (cut0_le ha (h5 _ hm) (hn _ hm)) (g4 x hx))
  · exact g2 x hx
theorem spares_more {a s : Int} {closed pins : List St} {newest : Int} (hok : okArgs a s closed pins newest) {k : Nat} {x y : St} (hk : closed[k]? = some x) (hy : ¬ cmp y x < 0) (hr : stR y = true) :
    okArgs a s (closed.set k y) pins newest ∧ cmp (planOf a s closed pins newest).cut (planOf a s (closed.set k y) pins newest).cut ≤ 0 := by
  obtain ⟨h1, h2, h3, h4, h5, h6⟩ := hok
  rw [cmp_neg, Classical.not_not] at hy
  obtain ⟨hk1, hk2⟩ := List.getElem?_eq_some_iff.1 hk
  have h2' : closed.set k y ≠ [] := by
    intro h
    have := congrArg List.length h
    simp at this
    exact h2 this
  refine ⟨⟨h1, h2', h3, h4, fun z hz => ?_, h6⟩, ?_⟩
  · rcases List.mem_or_eq_of_mem_set hz with hz | rfl
    · exact h5 z hz
    · exact hr
  rw [cmp_pos]
  show (least (cut0 a (least (closed.headD ⟨0, 0, 0⟩) closed)) pins).le (least (cut0 a (least ((closed.set k y).headD ⟨0, 0, 0⟩) (closed.set k y))) pins)
  obtain ⟨g3, g4⟩ := least_le closed (closed.headD ⟨0, 0, 0⟩)
  have hall : ∀ z ∈ closed.set k y, (least (closed.headD ⟨0, 0, 0⟩) closed).le z := by
    intro z hz
    rcases List.mem_or_eq_of_mem_set hz with hz | rfl
    · exact g4 z hz
    · exact St.le_trans (g4 x (List.mem_of_getElem? hk)) hy
  have hm : least (closed.headD ⟨0, 0, 0⟩) closed ∈ closed := by
    rcases least_mem (closed.headD ⟨0, 0, 0⟩) closed with h | h
    · rw [h]; exact head_mem h2 _
    · exact h
  have hw : 0 ≤ (least (closed.headD ⟨0, 0, 0⟩) closed).wall := by
    have := h5 _ hm
    simp only [stR, Bool.and_eq_true, decide_eq_true_eq] at this
    exact this.1
  have hmm := le_least (hall _ (head_mem h2' ⟨0, 0, 0⟩)) hall
  obtain ⟨g1, g2⟩ := least_le pins (cut0 a (least (closed.headD ⟨0, 0, 0⟩) closed))
  exact le_least (St.le_trans g1 (cut0_mono hmm hw)) g2
theorem spares_horizon {a s : Int} {closed pins : List St} {newest : Int} (hok : okArgs a s closed pins newest) :
    0 ≤ (planOf a s closed pins newest).horizon ∧ (planOf a s closed pins newest).horizon ≤ newest ∧ newest - (planOf a s closed pins newest).horizon ≤ s := by
  obtain ⟨h1, h2, h3, h4, h5, h6⟩ := hok
  simp only [polR, Bool.and_eq_true, decide_eq_true_eq] at h1
  show 0 ≤ max 0 (newest - s) ∧ max 0 (newest - s) ≤ newest ∧ newest - max 0 (newest - s) ≤ s
  omega
end Go.Proofs.Ytabpcbjjchhbeaa
