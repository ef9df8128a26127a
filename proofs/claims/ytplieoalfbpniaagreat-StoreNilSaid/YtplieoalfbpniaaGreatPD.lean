/- Plain facts: a store as one rising list of chains, of whatever sets. -/
import Derived.Test.YtplieoalfbpniaaGreatPC
namespace Go.Sx
/-- a strict line -/
structure Line {σ : Type} (lt : σ → σ → Prop) : Prop where
  irr : ∀ a, ¬ lt a a
  trans : ∀ {a b c}, lt a b → lt b c → lt a c
  tri : ∀ a b, lt a b ∨ a = b ∨ lt b a
/-- two rising lists of the same members are one -/
theorem rise_ext {α : Type} {lt : α → α → Prop} (hi : ∀ a, ¬ lt a a) (ht : ∀ {a b c}, lt a b → lt b c → lt a c) : ∀ {A B : List α}, A.Pairwise lt → B.Pairwise lt → (∀ x, x ∈ A ↔ x ∈ B) → A = B
  | [], [], _, _, _ => rfl
  | [], b :: B, _, _, h => by have := (h b).2 (by simp); cases this
  | a :: A, [], _, _, h => by have := (h a).1 (by simp); cases this
  | a :: A, b :: B, hA, hB, h => by
    obtain ⟨a1, a2⟩ := List.pairwise_cons.1 hA
    obtain ⟨b1, b2⟩ := List.pairwise_cons.1 hB
    have e : a = b := by
      have h1 := (h a).1 (by simp)
      have h2 := (h b).2 (by simp)
      rcases List.mem_cons.1 h1 with e | h1
      · exact e
      · rcases List.mem_cons.1 h2 with e | h2
        · exact e.symm
        · exact absurd (ht (b1 a h1) (a1 b h2)) (hi b)
    subst e
    rw [rise_ext hi ht a2 b2 (fun x => ?_)]
    constructor
    · intro hx
      rcases List.mem_cons.1 ((h x).1 (by simp [hx])) with e | hy
      · subst e; exact absurd (a1 x hx) (hi x)
      · exact hy
    · intro hx
      rcases List.mem_cons.1 ((h x).2 (by simp [hx])) with e | hy
      · subst e; exact absurd (b1 x hx) (hi x)
      · exact hy
section
variable {σ : Type} {lt : σ → σ → Prop}
/-- a chain of a store -/
structure Item (σ : Type) where
  set : σ
  time : Int
  l : List Ver
def Item.Ahead (lt : σ → σ → Prop) (x : Item σ) (s : σ) (t : Int) : Prop := lt x.set s ∨ (x.set = s ∧ x.time < t)
def Rise (lt : σ → σ → Prop) (L : List (Item σ)) : Prop := L.Pairwise (fun a b => a.Ahead lt b.set b.time)
theorem ahead_irr (h : Line lt) (x : Item σ) : ¬ x.Ahead lt x.set x.time := by
  rintro (h1 | h1)
  · exact h.irr _ h1
  · omega
theorem ahead_trans (h : Line lt) {a b : Item σ} {s : σ} {t : Int} (h1 : a.Ahead lt b.set b.time) (h2 : b.Ahead lt s t) : a.Ahead lt s t := by
  rcases h1 with h1 | ⟨e1, h1⟩
  · rcases h2 with h2 | ⟨e2, h2⟩
    · exact .inl (h.trans h1 h2)
    · exact .inl (e2 ▸ h1)
  · rcases h2 with h2 | ⟨e2, h2⟩
    · exact .inl (e1 ▸ h2)
    · exact .inr ⟨e1.trans e2, by omega⟩
theorem ahead_asymm (h : Line lt) {x : Item σ} {s : σ} {t : Int} (h1 : x.Ahead lt s t) : ¬ (lt s x.set ∨ (s = x.set ∧ t < x.time)) := by
  rintro (h2 | ⟨e, h2⟩)
  · rcases h1 with h1 | ⟨e1, h1⟩
    · exact h.irr _ (h.trans h1 h2)
    · rw [e1] at h2; exact h.irr _ h2
  · rcases h1 with h1 | ⟨e1, h1⟩
    · rw [e] at h1; exact h.irr _ h1
    · omega
theorem rise_store (h : Line lt) {A B : List (Item σ)} (hA : Rise lt A) (hB : Rise lt B) (hm : ∀ x, x ∈ A ↔ x ∈ B) : A = B := by
  unfold Rise at hA hB
  refine @rise_ext (Item σ) (fun a b => a.Ahead lt b.set b.time) (fun a => ahead_irr h a) ?_ A B hA hB hm
  intro a b c h1 h2
  exact ahead_trans h h1 h2
/-- of one set and one time there is one chain -/
theorem rise_one (h : Line lt) {L : List (Item σ)} (hL : Rise lt L) {x y : Item σ} (hx : x ∈ L) (hy : y ∈ L) (h1 : x.set = y.set) (h2 : x.time = y.time) : x = y := by
  obtain ⟨i, hi, rfl⟩ := List.getElem_of_mem hx
  obtain ⟨j, hj, rfl⟩ := List.getElem_of_mem hy
  rcases Nat.lt_trichotomy i j with hij | hij | hij
  · have hp := List.pairwise_iff_getElem.1 hL i j hi hj hij
    rw [← h1, ← h2] at hp
    exact absurd hp (ahead_irr h _)
  · subst hij; rfl
  · have hp := List.pairwise_iff_getElem.1 hL j i hj hi hij
    rw [h1, h2] at hp
    exact absurd hp (ahead_irr h _)
/-- how many versions -/
def lenL (L : List (Item σ)) : Nat := (L.map fun x => x.l.length).sum
theorem lenL_cons (x : Item σ) (L : List (Item σ)) : lenL (x :: L) = x.l.length + lenL L := by simp [lenL]
theorem lenL_append (A B : List (Item σ)) : lenL (A ++ B) = lenL A + lenL B := by simp [lenL]
/-- a cut of all chains, and those that lasted -/
def cutL (L : List (Item σ)) (t : Tm) : List (Item σ) := (L.map fun x => { x with l := cutC x.l t }).filter fun x => decide (x.l ≠ [])
def retL (L : List (Item σ)) (t : Int) : List (Item σ) := L.filter fun x => decide (t ≤ x.time)
theorem cutL_mem {L : List (Item σ)} {t : Tm} {y : Item σ} : y ∈ cutL L t ↔ ∃ x ∈ L, y = { x with l := cutC x.l t } ∧ cutC x.l t ≠ [] := by
  unfold cutL
  rw [List.mem_filter, List.mem_map]
  constructor
  · rintro ⟨⟨x, hx, rfl⟩, h⟩
    exact ⟨x, hx, rfl, by simpa using h⟩
  · rintro ⟨x, hx, rfl, h⟩
    exact ⟨⟨x, hx, rfl⟩, by simpa using h⟩
theorem cutL_rise {L : List (Item σ)} (h : Rise lt L) (t : Tm) : Rise lt (cutL L t) := by
  unfold cutL
  refine List.Pairwise.sublist List.filter_sublist ?_
  rw [List.pairwise_map]
  exact h
theorem retL_rise {L : List (Item σ)} (h : Rise lt L) (t : Int) : Rise lt (retL L t) := List.Pairwise.sublist List.filter_sublist h
theorem lenL_cut (L : List (Item σ)) (t : Tm) : lenL (cutL L t) ≤ lenL L := by
  induction L with
  | nil => simp [cutL, lenL]
  | cons x L ih =>
    have hc : (cutC x.l t).length ≤ x.l.length := by simp [cutC]
    unfold cutL at ih ⊢
    rw [List.map_cons, List.filter_cons]
    split
    · rw [lenL_cons, lenL_cons]
      simp only
      omega
    · rw [lenL_cons]
      omega
/-- what is told of one chain -/
def tell (x : Item σ) (a b : Int) (t : Tm) : Option (σ × Int × Ver) := if a ≤ x.time ∧ x.time < b then (getC x.l t).map fun v => (x.set, x.time, v) else none
/-- what is told of the sets that are asked for -/
def scanL (L : List (Item σ)) (p : σ → Bool) (a b : Int) (t : Tm) : List (σ × Int × Ver) := L.filterMap fun x => if p x.set = true then tell x a b t else none
def keptL (L : List (Item σ)) : List (σ × Int × Ver) := L.flatMap fun x => x.l.map fun v => (x.set, x.time, v)
theorem keptL_len (L : List (Item σ)) : (keptL L).length = lenL L := by
  induction L with
  | nil => rfl
  | cons x L ih => rw [keptL, List.flatMap_cons, List.length_append, lenL_cons, ← ih]; simp [keptL]
theorem getC_nil (t : Tm) : getC [] t = none := rfl
/-- a cut changes nothing that is told at, or behind, it -/
theorem scan_cut {L : List (Item σ)} (hc : ∀ x ∈ L, Chain x.l) {t u : Tm} (h : ¬ u.lt t) (p : σ → Bool) (a b : Int) : scanL (cutL L t) p a b u = scanL L p a b u := by
  induction L with
  | nil => rfl
  | cons x L ih =>
    have ih' := ih (fun y hy => hc y (by simp [hy]))
    have hg := get_cut (hc x (by simp)) h
    unfold scanL cutL at ih' ⊢
    rw [List.map_cons, List.filter_cons]
    split
    · rw [List.filterMap_cons, List.filterMap_cons, ih']
      have e : tell { x with l := cutC x.l t } a b u = tell x a b u := by unfold tell; simp only; rw [hg]
      simp only
      rw [e]
    · rename_i hn
      have hnil : cutC x.l t = [] := by simpa using hn
      rw [hnil, getC_nil] at hg
      rw [List.filterMap_cons, ih']
      have e : tell x a b u = none := by unfold tell; rw [← hg]; simp
      rw [e]
      simp
/-- a Retain changes nothing from its time on -/
theorem scan_ret (L : List (Item σ)) (p : σ → Bool) (a b c : Int) (u : Tm) : scanL (retL L c) p a b u = scanL L p (max a c) b u := by
  induction L with
  | nil => rfl
  | cons x L ih =>
    unfold scanL retL at ih ⊢
    rw [List.filter_cons]
    split
    · rename_i h
      have h' : c ≤ x.time := by simpa using h
      rw [List.filterMap_cons, List.filterMap_cons, ih]
      have e : tell x a b u = tell x (max a c) b u := by
        unfold tell
        by_cases h1 : a ≤ x.time ∧ x.time < b
        · rw [if_pos h1, if_pos ⟨by omega, h1.2⟩]
        · rw [if_neg h1, if_neg (by omega)]
      rw [e]
    · rename_i h
      have h' : ¬ c ≤ x.time := by simpa using h
      rw [List.filterMap_cons, ih]
      have e : tell x (max a c) b u = none := by
        unfold tell
        rw [if_neg (by omega)]
      rw [e]
      simp
theorem tell_low (x : Item σ) {a m b : Int} (h2 : m ≤ b) (u : Tm) (h : x.time < m) : tell x a b u = tell x a m u ∧ tell x m b u = none := by
  unfold tell
  refine ⟨?_, by rw [if_neg (by omega)]⟩
  by_cases ha : a ≤ x.time
  · rw [if_pos ⟨ha, by omega⟩, if_pos ⟨ha, h⟩]
  · rw [if_neg (by omega), if_neg (by omega)]
theorem tell_high (x : Item σ) {a m b : Int} (h1 : a ≤ m) (u : Tm) (h : ¬ x.time < m) : tell x a b u = tell x m b u ∧ tell x a m u = none := by
  unfold tell
  refine ⟨?_, by rw [if_neg (by omega)]⟩
  by_cases hb : x.time < b
  · rw [if_pos ⟨by omega, hb⟩, if_pos ⟨by omega, hb⟩]
  · rw [if_neg (by omega), if_neg (by omega)]
/-- a span of times is its two parts -/
theorem scan_split (L : List (Item σ)) (p : σ → Bool) {a m b : Int} (h1 : a ≤ m) (h2 : m ≤ b) (u : Tm) : (scanL L p a b u).length = (scanL L p a m u).length + (scanL L p m b u).length := by
  induction L with
  | nil => rfl
  | cons x L ih =>
    unfold scanL at ih ⊢
    rw [List.filterMap_cons, List.filterMap_cons, List.filterMap_cons]
    cases hp : p x.set with
    | false => simpa using ih
    | true =>
      simp only [if_true]
      by_cases hm : x.time < m
      · obtain ⟨e1, e2⟩ := tell_low x (a := a) h2 u hm
        rw [e1, e2]
        cases tell x a m u with
        | none => simpa using ih
        | some v => simp only [List.length_cons]; omega
      · obtain ⟨e1, e2⟩ := tell_high x (b := b) h1 u hm
        rw [e1, e2]
        cases tell x m b u with
        | none => simpa using ih
        | some v => simp only [List.length_cons]; omega
/-- what is told stands in the span, and not behind the stamp -/
theorem scan_in {L : List (Item σ)} (hc : ∀ x ∈ L, Chain x.l) {p : σ → Bool} {a b : Int} {u : Tm} {z : σ × Int × Ver} (hz : z ∈ scanL L p a b u) : a ≤ z.2.1 ∧ z.2.1 < b ∧ ¬ u.lt z.2.2.at_ := by
  unfold scanL at hz
  obtain ⟨x, hx, h⟩ := List.mem_filterMap.1 hz
  split at h
  · unfold tell at h
    split at h
    · rename_i hab
      rw [Option.map_eq_some_iff] at h
      obtain ⟨v, hv, rfl⟩ := h
      refine ⟨hab.1, hab.2, fun hlt => ?_⟩
      have hch := hc x hx
      unfold getC at hv
      split at hv
      · cases hv
      · rename_i i hi
        split at hv
        · rename_i v' hv'
          split at hv
          · cases hv
          · cases hv
            have hd := (chain_parts u hch).2.1
            have hm : v ∈ x.l.filter (fun y => decide (u.lt y.at_)) := List.mem_filter.2 ⟨List.mem_of_getElem? hv', by simpa using hlt⟩
            rw [hd] at hm
            obtain ⟨j, hj, e⟩ := List.getElem_of_mem hm
            rw [List.getElem_drop] at e
            obtain ⟨hi2, e2⟩ := List.getElem?_eq_some_iff.1 hv'
            have hp := List.pairwise_iff_getElem.1 hch i (upto x.l u + j) hi2 (by simp at hj; omega) (by omega)
            rw [e, e2] at hp
            exact Tm.irr _ hp
        · cases hv
    · cases h
  · cases h
end
end Go.Sx
