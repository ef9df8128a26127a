/- What a rule asks of sets (plain); marks. -/
import Derived.Test.YtmmilgcbjpbelaaWH
namespace Go.Proofs.Ytmmilgcbjpbelaa
open Go.RowKit Go.Kt Go.Ix

/-! ### a right set's names are unlike -/
theorem bytesLess_eq' : ∀ (x y : List UInt8), Op.bytesLess x y = decide (x < y)
  | [], [] => by simp [Op.bytesLess]
  | _ :: _, [] => by simp [Op.bytesLess]
  | [], _ :: _ => by simp [Op.bytesLess]
  | a :: x, b :: y => by
    rw [Op.bytesLess, bytesLess_eq' x y]
    simp only [List.cons_lt_cons_iff]
    by_cases h1 : a < b <;> by_cases h2 : a = b <;> by_cases h3 : x < y <;> simp [h1, h2, h3]
theorem less_trans {a b c : ByteArray} (h : Less a b) (k : Less b c) : Less a c := by
  unfold Less at *
  rw [bytesLess_eq', decide_eq_true_eq] at *
  exact List.lt_trans h k
theorem less_irrefl (a : ByteArray) : ¬ Less a a := by
  unfold Less
  rw [bytesLess_eq', decide_eq_true_eq]
  exact List.lt_irrefl _
theorem right_lt {d : List Pr} (h : RightP d) : ∀ (j : Nat) (hj : j < d.length) (i : Nat) (hi : i < j), Less (d[i]'(by omega)).n d[j].n
  | 0, _, i, hi => by omega
  | j + 1, hj, i, hi => by
    have h1 := (h.2 (j + 1) hj).2 j (by omega) rfl
    by_cases e : i = j
    · subst e; exact h1
    · exact less_trans (right_lt h j (by omega) i (by omega)) h1
theorem getL_at : ∀ (l : List Pr) (i : Nat) (hi : i < l.length), (∀ j (hj : j < i), (l[j]'(by omega)).n ≠ l[i].n) → getL l l[i].n = l[i].v
  | [], i, hi, _ => by simp at hi
  | p :: t, 0, _, _ => by simp [getL]
  | p :: t, i + 1, hi, h => by
    have h0 := h 0 (by omega)
    simp only [List.getElem_cons_zero, List.getElem_cons_succ] at h0
    simp only [List.getElem_cons_succ, getL]
    rw [if_neg h0]
    exact getL_at t i (by simpa using hi) (fun j hj => by have := h (j + 1) (by omega); simpa using this)
theorem getL_mem {d : List Pr} (h : RightP d) {p : Pr} (hp : p ∈ d) : getL d p.n = p.v := by
  obtain ⟨i, hi, rfl⟩ := List.mem_iff_getElem.1 hp
  exact getL_at d i hi (fun j hj e => by
    have := right_lt h i hi j hj
    rw [e] at this
    exact less_irrefl _ this)
theorem getL_some : ∀ {l : List Pr} {nm : ByteArray}, 0 < (getL l nm).size → ∃ p ∈ l, p.n = nm ∧ p.v = getL l nm
  | [], nm, h => by simp [getL] at h
  | p :: t, nm, h => by
    unfold getL at h ⊢
    by_cases e : p.n = nm
    · rw [if_pos e] at h ⊢
      exact ⟨p, by simp, e, rfl⟩
    · rw [if_neg e] at h ⊢
      obtain ⟨q, hq, h1, h2⟩ := getL_some h
      exact ⟨q, by simp [hq], h1, h2⟩
theorem right_val {d : List Pr} (h : RightP d) {p : Pr} (hp : p ∈ d) : 0 < p.v.size ∧ p.v.size ≤ 64 := by
  obtain ⟨i, hi, rfl⟩ := List.mem_iff_getElem.1 hp
  have h1 := (h.2 i hi).1.2
  have h2 := h1.1
  have h3 := h1.2.1
  rw [bl_len] at h2 h3
  omega
theorem getL_size {d : List Pr} (h : RightP d) (nm : ByteArray) : (getL d nm).size ≤ 64 := by
  by_cases h0 : (getL d nm).size = 0
  · omega
  · obtain ⟨p, hp, _, e⟩ := getL_some (show 0 < (getL d nm).size by omega)
    rw [← e]
    exact (right_val h hp).2
/-- which sets have a label -/
theorem ent_iff {D : List (List Pr)} (hok : ∀ d ∈ D, RightP d) (nm s : ByteArray) (n : Nat) : (kl nm, kl s, n) ∈ entD D ↔ ∃ d, D[n]? = some d ∧ getL d nm = s ∧ 0 < s.size := by
  rw [entD_mem]
  constructor
  · rintro ⟨d, hd, p, hp, e1, e2⟩
    have hr := hok d (List.mem_of_getElem? hd)
    rw [kl_inj e1, kl_inj e2]
    exact ⟨d, hd, getL_mem hr hp, (right_val hr hp).1⟩
  · rintro ⟨d, hd, rfl, h0⟩
    obtain ⟨p, hp, rfl, e⟩ := getL_some h0
    exact ⟨d, hd, p, hp, rfl, by rw [e]⟩

/-! ### marks -/
def marksOf (r : Rl) (D : List (List Pr)) : List Bool := D.map fun d => holdsB r (getL d r.n)
def bools (l : List Bool) : List Value := l.map Value.bool
theorem bools_len (l : List Bool) : (bools l).length = l.length := by simp [bools]
theorem bools_set (l : List Bool) (i : Nat) (x : Bool) : bools (l.set i x) = (bools l).set i (.bool x) := by simp [bools, List.map_set]
open Classical in
/-- the marks behind the values that S names -/
def MarkOK (r : Rl) (D : List (List Pr)) (S : Lit → Prop) (M : List Bool) : Prop :=
  M.length = D.length ∧ ∀ (i : Nat) d, D[i]? = some d → M[i]? = some (if S (kl (getL d r.n)) then holdsB r (getL d r.n) else holdsB r ⟨#[]⟩)
theorem mark0 {r : Rl} {D : List (List Pr)} {M : List Bool} (hl : M.length = D.length) (h : ∀ (i : Nat), i < D.length → M[i]? = some (holdsB r ⟨#[]⟩)) : MarkOK r D (fun _ => False) M :=
  ⟨hl, fun i d hd => by rw [h i (List.getElem?_eq_some_iff.1 hd).1]; simp⟩
theorem mark_end {r : Rl} {D : List (List Pr)} {S : Lit → Prop} {M : List Bool} (h : MarkOK r D S M) (hS : ∀ d ∈ D, 0 < (getL d r.n).size → S (kl (getL d r.n))) : M = marksOf r D := by
  apply List.ext_getElem?
  intro i
  cases hd : D[i]? with
  | none =>
    have h1 := List.getElem?_eq_none_iff.1 hd
    rw [List.getElem?_eq_none (by rw [h.1]; exact h1), List.getElem?_eq_none (by simp [marksOf]; exact h1)]
  | some d =>
    rw [h.2 i d hd, marksOf, List.getElem?_map, hd, Option.map_some]
    by_cases hs : S (kl (getL d r.n))
    · rw [if_pos hs]
    · rw [if_neg hs]
      have h0 : ¬ 0 < (getL d r.n).size := fun h0 => hs (hS d (List.mem_of_getElem? hd) h0)
      have : getL d r.n = ⟨#[]⟩ := by
        apply bl_inj
        apply List.eq_nil_of_length_eq_zero
        rw [bl_len]; omega
      rw [this]
/-- the marks of one value's sets, the first j -/
def MarkTo (r : Rl) (D : List (List Pr)) (S : Lit → Prop) (s : ByteArray) (ys : List Nat) (M : List Bool) : Prop :=
  M.length = D.length ∧ ∀ (i : Nat) d, D[i]? = some d → (i ∈ ys → M[i]? = some (holdsB r s)) ∧ (i ∉ ys → ∀ M0, MarkOK r D S M0 → M[i]? = M0[i]?)
theorem markTo0 {r : Rl} {D : List (List Pr)} {S : Lit → Prop} {s : ByteArray} {M : List Bool} (h : MarkOK r D S M) : MarkTo r D S s [] M :=
  ⟨h.1, fun i d hd => ⟨(fun h => by cases h), fun _ M0 h0 => by rw [h.2 i d hd, h0.2 i d hd]⟩⟩
theorem markTo_next {r : Rl} {D : List (List Pr)} {S : Lit → Prop} {s : ByteArray} {ys : List Nat} {M : List Bool} {n : Nat} (h : MarkTo r D S s ys M) (hn : n < D.length) : MarkTo r D S s (ys ++ [n]) (M.set n (holdsB r s)) := by
  refine ⟨by rw [List.length_set]; exact h.1, fun i d hd => ?_⟩
  obtain ⟨h1, h2⟩ := h.2 i d hd
  by_cases e : n = i
  · subst e
    refine ⟨fun _ => ?_, fun hx => absurd (by simp) hx⟩
    rw [List.getElem?_set_self (by rw [h.1]; exact hn)]
  · rw [List.getElem?_set_ne e]
    refine ⟨fun hx => h1 (by simpa [Ne.symm e] using hx), fun hx => h2 (fun hy => hx (by simp [hy]))⟩
theorem markTo_end {r : Rl} {D : List (List Pr)} {S : Lit → Prop} {s : ByteArray} {ys : List Nat} {M M0 : List Bool} (h : MarkTo r D S s ys M) (h0 : MarkOK r D S M0) (hy : ∀ i d, D[i]? = some d → (i ∈ ys ↔ getL d r.n = s)) : MarkOK r D (fun l => S l ∨ l = kl s) M := by
  refine ⟨h.1, fun i d hd => ?_⟩
  obtain ⟨h1, h2⟩ := h.2 i d hd
  by_cases hi : i ∈ ys
  · rw [h1 hi, (hy i d hd).1 hi, if_pos (.inr rfl)]
  · rw [h2 hi M0 h0, h0.2 i d hd]
    have hne : ¬ kl (getL d r.n) = kl s := fun e => hi ((hy i d hd).2 (kl_inj e))
    by_cases hs : S (kl (getL d r.n))
    · rw [if_pos hs, if_pos (.inl hs)]
    · rw [if_neg hs, if_neg (fun a => a.elim hs hne)]

/-! ### one place of a row of one-cell values -/
theorem own_place {e : TypeId} {size : Nat} {w : World} {v : Value} {n : Nat} {xs : List Value} (h : Own e size w v n xs) {j : Nat} (hj : j < n * size) :
    ∃ b cap, v = .slice (some ⟨b, 0, none⟩) n cap ∧ w.cell? ⟨b, j, none⟩ = xs[j]? ∧ w.frozen? ⟨b, j, none⟩ = false ∧ ∀ u, Own e size (w.setCell ⟨b, j, none⟩ u) v n (xs.set j u) := by
  have h' := h
  rcases h with ⟨hl, ⟨rfl, h0⟩ | ⟨g, cap', cur, rfl, hb, hg, hn, hm, hcs, ht⟩⟩
  · subst h0
    simp at hj
  · have hown : w.ownsRow 0 e size (.slice (some ⟨g, 0, none⟩) n cap') n xs := h'
    exact ⟨g, cap', rfl, hown.cellAt j (by omega), hown.frozenAt j, fun u => (hown.stored j u).1⟩
end Go.Proofs.Ytmmilgcbjpbelaa
