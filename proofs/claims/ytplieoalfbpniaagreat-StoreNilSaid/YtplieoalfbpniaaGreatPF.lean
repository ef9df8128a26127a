/- Plain facts: how many versions a store has; writes in whatever order. -/
import Derived.Test.YtplieoalfbpniaaGreatPE
namespace Go.Sx
section
variable {σ : Type} {lt : σ → σ → Prop}
theorem len_three [DecidableEq σ] [DecidableRel lt] (L : List (Item σ)) (s : σ) (t : Int) (hn : ∀ x ∈ L, x.Ahead lt s t → ¬ (x.set = s ∧ x.time = t)) :
    lenL L = lenL (L.filter fun x => decide (x.Ahead lt s t)) + lenL (L.filter fun x => decide (¬ x.Ahead lt s t ∧ ¬ (x.set = s ∧ x.time = t))) + lenL (L.filter fun x => decide (x.set = s ∧ x.time = t)) := by
  induction L with
  | nil => rfl
  | cons x L ih =>
    have ih' := ih (fun y hy => hn y (by simp [hy]))
    have hx := hn x (by simp)
    by_cases h1 : x.Ahead lt s t
    · have h2 := hx h1
      rw [List.filter_cons, if_pos (by simpa using h1), List.filter_cons, if_neg (by simpa using fun h => absurd h1 h), List.filter_cons, if_neg (by simpa using h2), lenL_cons, lenL_cons]
      omega
    · by_cases h2 : x.set = s ∧ x.time = t
      · rw [List.filter_cons, if_neg (by simpa using h1), List.filter_cons, if_neg (by simp [h2]), List.filter_cons, if_pos (by simpa using h2), lenL_cons, lenL_cons]
        omega
      · rw [List.filter_cons, if_neg (by simpa using h1), List.filter_cons, if_pos (by simp only [decide_eq_true_eq]; exact ⟨h1, h2⟩), List.filter_cons, if_neg (by simpa using h2), lenL_cons, lenL_cons]
        omega
theorem len_at [DecidableEq σ] [DecidableRel lt] (h : Line lt) {L : List (Item σ)} (hL : Rise lt L) (s : σ) (t : Int) : lenL (L.filter fun x => decide (x.set = s ∧ x.time = t)) = (atL L s t).length := by
  induction L with
  | nil => rfl
  | cons x L ih =>
    obtain ⟨h1, h2⟩ := List.pairwise_cons.1 hL
    unfold atL at ih ⊢
    rw [List.filter_cons, List.find?_cons]
    by_cases hx : x.set = s ∧ x.time = t
    · have hnil : (L.filter fun y => decide (y.set = s ∧ y.time = t)) = [] := by
        rw [List.filter_eq_nil_iff]
        intro y hy
        simp only [decide_eq_true_eq]
        intro e
        have := h1 y hy
        rw [e.1, e.2, ← hx.1, ← hx.2] at this
        exact ahead_irr h x this
      simp only [decide_eq_true hx]
      simp only [if_true]
      rw [lenL_cons, hnil]
      simp [lenL]
    · simp only [decide_eq_false hx]
      rw [if_neg (by simp)]
      exact ih h2
theorem lenL_set [DecidableEq σ] [DecidableRel lt] (h : Line lt) {L : List (Item σ)} (hL : Rise lt L) (s : σ) (t : Int) (c : List Ver) : lenL (setL lt L s t c) + (atL L s t).length = lenL L + c.length := by
  have h3 := len_three (lt := lt) L s t (fun x _ ha e => by
    have ha' : x.Ahead lt x.set x.time := by rw [← e.1, ← e.2] at ha; exact ha
    exact ahead_irr h x ha')
  rw [len_at h hL] at h3
  unfold setL
  rw [lenL_append, lenL_cons]
  simp only
  omega
theorem putL_len [DecidableEq σ] [DecidableRel lt] (h : Line lt) {L : List (Item σ)} (hL : StoreOk lt L) {s : σ} {t : Int} {v : Ver} (h0 : (putL lt L s t v).1 = 0) : lenL (putL lt L s t v).2 = lenL L + 1 := by
  unfold putL at h0 ⊢
  by_cases h1 : (putC (atL L s t) v).1 ≠ 0
  · rw [if_pos h1] at h0; exact absurd h0 h1
  rw [if_neg h1]
  have h1' : (putC (atL L s t) v).1 = 0 := by simpa using h1
  have h2 := lenL_set h hL.rise s t (putC (atL L s t) v).2
  rw [putC_len h1'] at h2
  simp only
  omega
/-- writes, one behind the other -/
def putsL [DecidableEq σ] (lt : σ → σ → Prop) [DecidableRel lt] : List (Item σ) → List (σ × Int × Ver) → List (Item σ)
  | L, [] => L
  | L, w :: W => putsL lt (putL lt L w.1 w.2.1 w.2.2).2 W
/-- two writes of one set, one time, one stamp -/
def SameKey (a b : σ × Int × Ver) : Prop := a.1 = b.1 ∧ a.2.1 = b.2.1 ∧ a.2.2.at_ = b.2.2.at_
theorem puts_ok [DecidableEq σ] [DecidableRel lt] (h : Line lt) : ∀ (W : List (σ × Int × Ver)) {L : List (Item σ)}, StoreOk lt L → (∀ w ∈ W, verR w.2.2) → W.Pairwise (fun a b => ¬ SameKey a b) → (∀ w ∈ W, ∀ z ∈ keptL L, ¬ SameKey z w) →
    StoreOk lt (putsL lt L W) ∧ (∀ z, z ∈ keptL (putsL lt L W) ↔ z ∈ keptL L ∨ z ∈ W) ∧ lenL (putsL lt L W) = lenL L + W.length
  | [], L, hL, _, _, _ => ⟨hL, fun z => by simp [putsL], by simp [putsL]⟩
  | w :: W, L, hL, hv, hd, hn => by
    obtain ⟨d1, d2⟩ := List.pairwise_cons.1 hd
    have h0 : (putL lt L w.1 w.2.1 w.2.2).1 = 0 := (putL_err h hL (hv w (by simp))).2 (fun z hz e => hn w (by simp) z hz e)
    have hm := fun z => putL_mem h hL h0 (z := z)
    obtain ⟨q1, q2, q3⟩ := puts_ok h W (putL_ok h hL w.1 w.2.1 w.2.2) (fun x hx => hv x (by simp [hx])) d2 (fun x hx z hz => by
      rcases (hm z).1 hz with hz | rfl
      · exact hn x (by simp [hx]) z hz
      · exact d1 x hx)
    refine ⟨q1, fun z => ?_, ?_⟩
    · rw [putsL, q2 z, hm z, List.mem_cons]
      constructor
      · rintro ((h1 | h1) | h1)
        · exact .inl h1
        · exact .inr (.inl h1)
        · exact .inr (.inr h1)
      · rintro (h1 | h1 | h1)
        · exact .inl (.inl h1)
        · exact .inl (.inr h1)
        · exact .inr h1
    · rw [putsL, q3, putL_len h hL h0, List.length_cons]
      omega
theorem empty_ok [DecidableEq σ] [DecidableRel lt] : StoreOk lt ([] : List (Item σ)) := ⟨List.Pairwise.nil, fun _ hx => (List.not_mem_nil hx).elim, fun _ hx => (List.not_mem_nil hx).elim⟩
/-- the order of the writes turns nothing -/
theorem puts_turn [DecidableEq σ] [DecidableRel lt] (h : Line lt) {W V : List (σ × Int × Ver)} (hp : W.Perm V) (hv : ∀ w ∈ W, verR w.2.2) (hd : W.Pairwise (fun a b => ¬ SameKey a b)) : keptL (putsL lt [] W) = keptL (putsL lt [] V) := by
  have hd' : V.Pairwise (fun a b => ¬ SameKey a b) := (hp.pairwise_iff (fun {a b} hab e => hab ⟨e.1.symm, e.2.1.symm, e.2.2.symm⟩)).1 hd
  obtain ⟨a1, a2, -⟩ := puts_ok h W empty_ok hv hd (fun w _ z hz => by cases hz)
  obtain ⟨b1, b2, -⟩ := puts_ok h V empty_ok (fun w hw => hv w (hp.mem_iff.2 hw)) hd' (fun w _ z hz => by cases hz)
  exact kept_ext h a1 b1 (fun z => by rw [a2, b2, hp.mem_iff])
/-- writes that were taken are unlike -/
theorem puts_unlike [DecidableEq σ] [DecidableRel lt] (h : Line lt) {L : List (Item σ)} (hL : StoreOk lt L) {W : List (σ × Int × Ver)} (hW : ∀ z, z ∈ keptL L ↔ z ∈ W) (hd : W.Pairwise (fun a b => ¬ SameKey a b)) {w : σ × Int × Ver} (hv : verR w.2.2) (h0 : (putL lt L w.1 w.2.1 w.2.2).1 = 0) :
    (W ++ [w]).Pairwise (fun a b => ¬ SameKey a b) ∧ ∀ z, z ∈ keptL (putL lt L w.1 w.2.1 w.2.2).2 ↔ z ∈ W ++ [w] := by
  have hn := (putL_err h hL hv).1 h0
  refine ⟨?_, fun z => ?_⟩
  · rw [List.pairwise_append]
    refine ⟨hd, by simp, fun a ha b hb => ?_⟩
    have : b = w := by simpa using hb
    subst this
    exact fun e => hn a ((hW a).2 ha) e
  · rw [putL_mem h hL h0, hW z, List.mem_append]
    simp
end
end Go.Sx
