/- Plain facts: the line of sets. -/
import Derived.Test.YtplieoalfbpniaaGreatPL
import Derived.Test.YtplieoalfbpniaaGreatPF
namespace Go.Sx
open Go.Ix
theorem bytesLess_lt : ∀ (x y : List UInt8), Op.bytesLess x y = decide (x < y)
  | [], [] => by simp [Op.bytesLess]
  | _ :: _, [] => by simp [Op.bytesLess]
  | [], _ :: _ => by simp [Op.bytesLess]
  | a :: x, b :: y => by
    rw [Op.bytesLess, bytesLess_lt x y]
    simp only [List.cons_lt_cons_iff]
    by_cases h1 : a < b <;> by_cases h2 : a = b <;> by_cases h3 : x < y <;> simp [h1, h2, h3]
theorem toList_inj {a b : ByteArray} (h : a.toList = b.toList) : a = b := by
  have h1 : bl a = bl b := by
    have e : ∀ c : ByteArray, c.toList = bl c := fun c => by
      exact ByteArray.toList_eq c
    rw [← e, ← e, h]
  exact bl_inj h1
theorem less_tri (a b : ByteArray) : Less a b ∨ a = b ∨ Less b a := by
  unfold Less
  rw [bytesLess_lt, bytesLess_lt, decide_eq_true_eq, decide_eq_true_eq]
  by_cases h1 : a.toList < b.toList
  · exact .inl h1
  · by_cases h2 : b.toList < a.toList
    · exact .inr (.inr h2)
    · exact .inr (.inl (toList_inj (List.le_antisymm (by exact h2) (by exact h1))))
theorem less_irr (a : ByteArray) : ¬ Less a a := by
  unfold Less
  rw [bytesLess_lt, decide_eq_true_eq]
  exact List.lt_irrefl _
theorem less_trn {a b c : ByteArray} (h : Less a b) (k : Less b c) : Less a c := by
  unfold Less at *
  rw [bytesLess_lt, decide_eq_true_eq] at *
  exact List.lt_trans h k
/-- how two sets stand -/
def cmpS : List Pr → List Pr → Int
  | [], [] => 0
  | [], _ :: _ => -1
  | _ :: _, [] => 1
  | p :: a, q :: b => if p.n ≠ q.n then (if Op.bytesLess p.n.toList q.n.toList = true then -1 else 1) else if p.v ≠ q.v then (if Op.bytesLess p.v.toList q.v.toList = true then -1 else 1) else cmpS a b
def ltS (a b : List Pr) : Prop := cmpS a b = -1
theorem cmpS_rng : ∀ a b, cmpS a b = -1 ∨ cmpS a b = 0 ∨ cmpS a b = 1
  | [], [] => by simp [cmpS]
  | [], _ :: _ => by simp [cmpS]
  | _ :: _, [] => by simp [cmpS]
  | p :: a, q :: b => by
    have ih := cmpS_rng a b
    unfold cmpS
    split
    · split <;> simp
    · split
      · split <;> simp
      · exact ih
theorem cmpS_cons (p q : Pr) (a b : List Pr) : cmpS (p :: a) (q :: b) = if p.n ≠ q.n then (if Op.bytesLess p.n.toList q.n.toList = true then -1 else 1) else if p.v ≠ q.v then (if Op.bytesLess p.v.toList q.v.toList = true then -1 else 1) else cmpS a b := by rw [cmpS]
theorem cmpS_zero : ∀ {a b : List Pr}, cmpS a b = 0 → a = b
  | [], [], _ => rfl
  | [], _ :: _, h => by simp [cmpS] at h
  | _ :: _, [], h => by simp [cmpS] at h
  | p :: a, q :: b, h => by
    rw [cmpS_cons] at h
    by_cases h1 : p.n = q.n
    · rw [if_neg (by simpa using h1)] at h
      by_cases h2 : p.v = q.v
      · rw [if_neg (by simpa using h2)] at h
        rw [cmpS_zero h, Pr.ext' h1 h2]
      · rw [if_pos h2] at h
        split at h <;> simp at h
    · rw [if_pos h1] at h
      split at h <;> simp at h
theorem cmpS_self : ∀ a, cmpS a a = 0
  | [] => rfl
  | p :: a => by rw [cmpS_cons, if_neg (by simp), if_neg (by simp)]; exact cmpS_self a
theorem less_no {a b : ByteArray} (h : Less a b) : ¬ Op.bytesLess b.toList a.toList = true := fun k => less_irr _ (less_trn h k)
theorem cmpS_turn : ∀ a b, cmpS b a = - cmpS a b
  | [], [] => rfl
  | [], _ :: _ => rfl
  | _ :: _, [] => rfl
  | p :: a, q :: b => by
    have ih := cmpS_turn a b
    rw [cmpS_cons, cmpS_cons]
    by_cases h1 : p.n = q.n
    · rw [if_neg (show ¬ q.n ≠ p.n by simpa using h1.symm), if_neg (show ¬ p.n ≠ q.n by simpa using h1)]
      by_cases h2 : p.v = q.v
      · rw [if_neg (show ¬ q.v ≠ p.v by simpa using h2.symm), if_neg (show ¬ p.v ≠ q.v by simpa using h2)]
        exact ih
      · rw [if_pos (show q.v ≠ p.v from fun e => h2 e.symm), if_pos (show p.v ≠ q.v from h2)]
        rcases less_tri p.v q.v with h | h | h
        · rw [if_neg (less_no h), if_pos (show Op.bytesLess p.v.toList q.v.toList = true from h)]
          rfl
        · exact absurd h h2
        · rw [if_pos (show Op.bytesLess q.v.toList p.v.toList = true from h), if_neg (less_no h)]
    · rw [if_pos (show q.n ≠ p.n from fun e => h1 e.symm), if_pos (show p.n ≠ q.n from h1)]
      rcases less_tri p.n q.n with h | h | h
      · rw [if_neg (less_no h), if_pos (show Op.bytesLess p.n.toList q.n.toList = true from h)]
        rfl
      · exact absurd h h1
      · rw [if_pos (show Op.bytesLess q.n.toList p.n.toList = true from h), if_neg (less_no h)]
theorem ltS_cons {p q : Pr} {a b : List Pr} : ltS (p :: a) (q :: b) ↔ Less p.n q.n ∨ (p.n = q.n ∧ (Less p.v q.v ∨ (p.v = q.v ∧ ltS a b))) := by
  unfold ltS
  rw [cmpS_cons]
  by_cases h1 : p.n = q.n
  · rw [if_neg (by simpa using h1)]
    have n1 : ¬ Less p.n q.n := by rw [h1]; exact less_irr _
    by_cases h2 : p.v = q.v
    · rw [if_neg (by simpa using h2)]
      have n2 : ¬ Less p.v q.v := by rw [h2]; exact less_irr _
      simp only [n1, n2, false_or, h1, h2, true_and]
      simp [less_irr]
    · rw [if_pos h2]
      by_cases h3 : Less p.v q.v
      · rw [if_pos (show Op.bytesLess p.v.toList q.v.toList = true from h3)]
        simp [h1, h3]
      · rw [if_neg (show ¬ Op.bytesLess p.v.toList q.v.toList = true from h3)]
        simp [h1, h2, h3, less_irr]
  · rw [if_pos h1]
    by_cases h3 : Less p.n q.n
    · rw [if_pos (show Op.bytesLess p.n.toList q.n.toList = true from h3)]
      simp [h3]
    · rw [if_neg (show ¬ Op.bytesLess p.n.toList q.n.toList = true from h3)]
      simp [h1, h3]
theorem ltS_trans : ∀ {a b c : List Pr}, ltS a b → ltS b c → ltS a c
  | [], [], _, h, _ => by simp [ltS, cmpS] at h
  | _ :: _, [], _, h, _ => by simp [ltS, cmpS] at h
  | _, _ :: _, [], _, h => by simp [ltS, cmpS] at h
  | [], _ :: _, _ :: _, _, _ => by simp [ltS, cmpS]
  | p :: a, q :: b, r :: c, h, k => by
    rw [ltS_cons] at h k ⊢
    rcases h with h | ⟨e, h⟩
    · rcases k with k | ⟨f, -⟩
      · exact .inl (less_trn h k)
      · exact .inl (f ▸ h)
    · rcases k with k | ⟨f, k⟩
      · exact .inl (e ▸ k)
      · refine .inr ⟨e.trans f, ?_⟩
        rcases h with h | ⟨e2, h⟩
        · rcases k with k | ⟨f2, -⟩
          · exact .inl (less_trn h k)
          · exact .inl (f2 ▸ h)
        · rcases k with k | ⟨f2, k⟩
          · exact .inl (e2 ▸ k)
          · exact .inr ⟨e2.trans f2, ltS_trans h k⟩
theorem line_sets : Line ltS := by
  refine ⟨fun a h => ?_, fun h k => ltS_trans h k, fun a b => ?_⟩
  · unfold ltS at h
    rw [cmpS_self] at h
    simp at h
  · rcases cmpS_rng a b with h | h | h
    · exact .inl h
    · exact .inr (.inl (cmpS_zero h))
    · refine .inr (.inr ?_)
      unfold ltS
      rw [cmpS_turn, h]
end Go.Sx
