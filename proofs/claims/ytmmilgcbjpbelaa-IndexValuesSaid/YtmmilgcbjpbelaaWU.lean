/- The values of a name, rising, and how many sets have each (plain). -/
import Derived.Test.YtmmilgcbjpbelaaWS
namespace Go.Proofs.Ytmmilgcbjpbelaa
open Go.RowKit Go.Kt Go.Ix

/-! ### the order of texts -/
theorem lt_tri : ∀ a b : List UInt8, a < b ∨ a = b ∨ b < a
  | [], [] => .inr (.inl rfl)
  | [], _ :: _ => .inl (by simp)
  | _ :: _, [] => .inr (.inr (by simp))
  | x :: a, y :: b => by
    rw [List.cons_lt_cons_iff, List.cons_lt_cons_iff]
    by_cases h1 : x < y
    · exact .inl (.inl h1)
    · by_cases h2 : y < x
      · exact .inr (.inr (.inl h2))
      · have e : x = y := by
          apply UInt8.toNat_inj.1
          rw [UInt8.lt_iff_toNat_lt] at h1 h2
          omega
        subst e
        rcases lt_tri a b with h | h | h
        · exact .inl (.inr ⟨rfl, h⟩)
        · exact .inr (.inl (by rw [h]))
        · exact .inr (.inr (.inr ⟨rfl, h⟩))
theorem less_iff (a b : ByteArray) : Less a b ↔ bl a < bl b := by
  unfold Less
  rw [bytesLess_eq', decide_eq_true_eq, Lib.toList_data, Lib.toList_data]
  rfl
theorem less_tri (a b : ByteArray) : Less a b ∨ a = b ∨ Less b a := by
  rw [less_iff, less_iff]
  rcases lt_tri (bl a) (bl b) with h | h | h
  · exact .inl h
  · exact .inr (.inl (bl_inj h))
  · exact .inr (.inr h)
/-- rising -/
def Asc (L : List ByteArray) : Prop := L.Pairwise Less
theorem asc_unique : ∀ {L M : List ByteArray}, Asc L → Asc M → (∀ s, s ∈ L ↔ s ∈ M) → L = M
  | [], [], _, _, _ => rfl
  | [], y :: u, _, _, h => by have := (h y).2 (by simp); cases this
  | x :: t, [], _, _, h => by have := (h x).1 (by simp); cases this
  | x :: t, y :: u, h1, h2, h => by
    have a1 := List.pairwise_cons.1 h1
    have a2 := List.pairwise_cons.1 h2
    have e : x = y := by
      have m1 := (h x).1 (by simp)
      have m2 := (h y).2 (by simp)
      rcases List.mem_cons.1 m1 with e | m1
      · exact e
      · rcases List.mem_cons.1 m2 with e | m2
        · exact e.symm
        · exact absurd (less_trans (a1.1 y m2) (a2.1 x m1)) (less_irrefl x)
    subst e
    rw [asc_unique a1.2 a2.2 (fun s => ?_)]
    constructor
    · intro hs
      rcases List.mem_cons.1 ((h s).1 (by simp [hs])) with e | h3
      · subst e; exact absurd (a1.1 s hs) (less_irrefl s)
      · exact h3
    · intro hs
      rcases List.mem_cons.1 ((h s).2 (by simp [hs])) with e | h3
      · subst e; exact absurd (a2.1 s hs) (less_irrefl s)
      · exact h3
theorem asc_nodup {L : List ByteArray} (h : Asc L) : L.Nodup := List.Pairwise.imp (fun {a b} hl e => by subst e; exact less_irrefl a hl) h
theorem asc_of {L : List ByteArray} (h : L.Pairwise (fun a b => ¬ Less b a)) (hn : L.Nodup) : Asc L := by
  have := List.Pairwise.and h hn
  refine List.Pairwise.imp (fun {a b} hh => ?_) this
  rcases less_tri a b with h1 | h1 | h1
  · exact h1
  · exact absurd h1 hh.2
  · exact absurd h1 hh.1

/-! ### the values and their numbers -/
/-- how many sets have a value -/
def cntV (nm : ByteArray) (D : List (List Pr)) (s : ByteArray) : Nat := (D.filter fun d => decide (getL d nm = s)).length
/-- the values of a name, rising -/
def ValsOK (nm : ByteArray) (D : List (List Pr)) (L : List ByteArray) : Prop := Asc L ∧ ∀ s, s ∈ L ↔ 0 < s.size ∧ ∃ d ∈ D, getL d nm = s
theorem vals_unique {nm : ByteArray} {D : List (List Pr)} {L M : List ByteArray} (h1 : ValsOK nm D L) (h2 : ValsOK nm D M) : L = M :=
  asc_unique h1.1 h2.1 (fun s => (h1.2 s).trans (h2.2 s).symm)
theorem vals_nil (nm : ByteArray) : ValsOK nm [] [] := ⟨List.Pairwise.nil, fun s => by simp⟩
theorem cntV_snoc (nm : ByteArray) (D : List (List Pr)) (d : List Pr) (s : ByteArray) : cntV nm (D ++ [d]) s = cntV nm D s + if getL d nm = s then 1 else 0 := by
  unfold cntV
  rw [List.filter_append, List.length_append]
  by_cases h : getL d nm = s <;> simp [h]
theorem cntV_zero {nm : ByteArray} {D : List (List Pr)} {L : List ByteArray} (h : ValsOK nm D L) {s : ByteArray} (h0 : 0 < s.size) (hs : s ∉ L) : cntV nm D s = 0 := by
  unfold cntV
  rw [List.length_eq_zero_iff, List.filter_eq_nil_iff]
  intro d hd
  simp only [decide_eq_true_eq]
  exact fun e => hs ((h.2 s).2 ⟨h0, d, hd, e⟩)
/-- a set without the name -/
theorem vals_skip {nm : ByteArray} {D : List (List Pr)} {L : List ByteArray} (h : ValsOK nm D L) {d : List Pr} (hd : (getL d nm).size = 0) : ValsOK nm (D ++ [d]) L ∧ ∀ s ∈ L, cntV nm (D ++ [d]) s = cntV nm D s := by
  have hne : ∀ s : ByteArray, 0 < s.size → getL d nm ≠ s := fun s h0 e => by rw [e] at hd; omega
  refine ⟨⟨h.1, fun s => ?_⟩, fun s hs => ?_⟩
  · rw [h.2 s]
    constructor
    · rintro ⟨h0, x, hx, e⟩; exact ⟨h0, x, by simp [hx], e⟩
    · rintro ⟨h0, x, hx, e⟩
      rcases List.mem_append.1 hx with hx | hx
      · exact ⟨h0, x, hx, e⟩
      · rw [List.mem_singleton.1 hx] at e
        exact absurd e (hne s h0)
  · rw [cntV_snoc, if_neg (hne s ((h.2 s).1 hs).1)]
    rfl
/-- a set whose value is there -/
theorem vals_old {nm : ByteArray} {D : List (List Pr)} {L : List ByteArray} (h : ValsOK nm D L) {d : List Pr} (hd : getL d nm ∈ L) : ValsOK nm (D ++ [d]) L := by
  refine ⟨h.1, fun s => ?_⟩
  rw [h.2 s]
  constructor
  · rintro ⟨h0, x, hx, e⟩; exact ⟨h0, x, by simp [hx], e⟩
  · rintro ⟨h0, x, hx, e⟩
    rcases List.mem_append.1 hx with hx | hx
    · exact ⟨h0, x, hx, e⟩
    · rw [List.mem_singleton.1 hx] at e
      rw [e] at hd
      exact (h.2 s).1 hd
/-- the place of a value among rising ones -/
def PlaceOf (L : List ByteArray) (v : ByteArray) (at_ : Nat) : Prop := at_ ≤ L.length ∧ (∀ (k : Nat) s, k < at_ → L[k]? = some s → Less s v) ∧ (∀ s, L[at_]? = some s → ¬ Less s v)
/-- a set whose value is new -/
theorem vals_new {nm : ByteArray} {D : List (List Pr)} {L : List ByteArray} (h : ValsOK nm D L) {d : List Pr} {at_ : Nat} (h0 : 0 < (getL d nm).size) (hp : PlaceOf L (getL d nm) at_) (hne : ∀ s, L[at_]? = some s → s ≠ getL d nm) :
    ValsOK nm (D ++ [d]) (L.take at_ ++ getL d nm :: L.drop at_) ∧ getL d nm ∉ L := by
  obtain ⟨hle, hlow, hhigh⟩ := hp
  have h1 : ∀ s ∈ L.take at_, Less s (getL d nm) := fun s hs => by
    obtain ⟨k, hk⟩ := List.mem_iff_getElem?.1 hs
    rw [List.getElem?_take] at hk
    split at hk
    · rename_i hlt; exact hlow k s hlt hk
    · cases hk
  have h2 : ∀ s ∈ L.drop at_, Less (getL d nm) s := fun s hs => by
    obtain ⟨k, hk⟩ := List.mem_iff_getElem?.1 hs
    rw [List.getElem?_drop] at hk
    have hlt := (List.getElem?_eq_some_iff.1 hk).1
    have hat : L[at_]? = some (L[at_]'(by omega)) := List.getElem?_eq_getElem _
    have hl : Less (getL d nm) (L[at_]'(by omega)) := by
      rcases less_tri (getL d nm) (L[at_]'(by omega)) with h3 | h3 | h3
      · exact h3
      · exact absurd h3.symm (hne _ hat)
      · exact absurd h3 (hhigh _ hat)
    by_cases hk0 : k = 0
    · subst hk0
      rw [Nat.add_zero, hat] at hk
      rw [← Option.some.inj hk]
      exact hl
    · have := List.pairwise_iff_getElem.1 h.1 at_ (at_ + k) (by omega) hlt (by omega)
      rw [List.getElem?_eq_getElem hlt] at hk
      rw [← Option.some.inj hk]
      exact less_trans hl this
  have hnot : getL d nm ∉ L := fun hm => by
    rw [← List.take_append_drop at_ L] at hm
    rcases List.mem_append.1 hm with hm | hm
    · exact less_irrefl _ (h1 _ hm)
    · exact less_irrefl _ (h2 _ hm)
  refine ⟨⟨?_, fun s => ?_⟩, hnot⟩
  · refine List.pairwise_append.2 ⟨List.Pairwise.sublist (List.take_sublist _ _) h.1, List.pairwise_cons.2 ⟨h2, List.Pairwise.sublist (List.drop_sublist _ _) h.1⟩, fun a ha b hb => ?_⟩
    rcases List.mem_cons.1 hb with rfl | hb
    · exact h1 a ha
    · exact less_trans (h1 a ha) (h2 b hb)
  · have hm : s ∈ L.take at_ ++ getL d nm :: L.drop at_ ↔ s = getL d nm ∨ s ∈ L := by
      have e : s ∈ L ↔ s ∈ L.take at_ ∨ s ∈ L.drop at_ := by
        rw [← List.mem_append, List.take_append_drop]
      rw [e, List.mem_append, List.mem_cons]
      constructor
      · rintro (h | h | h)
        · exact .inr (.inl h)
        · exact .inl h
        · exact .inr (.inr h)
      · rintro (h | h | h)
        · exact .inr (.inl h)
        · exact .inl h
        · exact .inr (.inr h)
    rw [hm, h.2 s]
    constructor
    · rintro (rfl | ⟨g0, x, hx, e⟩)
      · exact ⟨h0, d, by simp, rfl⟩
      · exact ⟨g0, x, by simp [hx], e⟩
    · rintro ⟨g0, x, hx, e⟩
      rcases List.mem_append.1 hx with hx | hx
      · exact .inr ⟨g0, x, hx, e⟩
      · rw [List.mem_singleton.1 hx] at e
        exact .inl e.symm
/-- the numbers of rising values -/
def cnts (nm : ByteArray) (D : List (List Pr)) (L : List ByteArray) : List Nat := L.map (cntV nm D)
theorem cnts_len (nm : ByteArray) (D : List (List Pr)) (L : List ByteArray) : (cnts nm D L).length = L.length := by simp [cnts]
theorem cnts_skip {nm : ByteArray} {D : List (List Pr)} {L : List ByteArray} (h : ValsOK nm D L) {d : List Pr} (hd : (getL d nm).size = 0) : cnts nm (D ++ [d]) L = cnts nm D L := List.map_congr_left (vals_skip h hd).2
theorem cnts_old {nm : ByteArray} {D : List (List Pr)} {L : List ByteArray} (h : ValsOK nm D L) {d : List Pr} {at_ : Nat} (hd : L[at_]? = some (getL d nm)) : cnts nm (D ++ [d]) L = (cnts nm D L).set at_ (cntV nm D (getL d nm) + 1) := by
  apply List.ext_getElem?
  intro i
  unfold cnts
  by_cases e : at_ = i
  · subst e
    rw [List.getElem?_set_self (by rw [List.length_map]; exact (List.getElem?_eq_some_iff.1 hd).1), List.getElem?_map, hd]
    simp [cntV_snoc]
  · rw [List.getElem?_set_ne e, List.getElem?_map, List.getElem?_map]
    cases hx : L[i]? with
    | none => rfl
    | some s =>
      have hne : getL d nm ≠ s := fun e2 => by
        obtain ⟨h1, e1⟩ := List.getElem?_eq_some_iff.1 hd
        obtain ⟨h2, e3⟩ := List.getElem?_eq_some_iff.1 hx
        have := (List.pairwise_iff_getElem.1 (asc_nodup h.1))
        rcases Nat.lt_or_ge at_ i with hlt | hge
        · exact this at_ i h1 h2 hlt (by rw [e1, e3, e2])
        · exact this i at_ h2 h1 (by omega) (by rw [e1, e3, e2])
      simp [cntV_snoc, hne]
theorem cnts_new {nm : ByteArray} {D : List (List Pr)} {L : List ByteArray} (h : ValsOK nm D L) {d : List Pr} {at_ : Nat} (h0 : 0 < (getL d nm).size) (hnot : getL d nm ∉ L) : cnts nm (D ++ [d]) (L.take at_ ++ getL d nm :: L.drop at_) = (cnts nm D L).take at_ ++ 1 :: (cnts nm D L).drop at_ := by
  have key : ∀ s ∈ L, cntV nm (D ++ [d]) s = cntV nm D s := fun s hs => by
    have hne : ¬ getL d nm = s := fun e => hnot (by rw [e]; exact hs)
    rw [cntV_snoc, if_neg hne]
    rfl
  have hz := cntV_zero h h0 hnot
  unfold cnts
  rw [List.map_append, List.map_cons, ← List.map_take, ← List.map_drop, cntV_snoc, hz, if_pos rfl]
  rw [List.map_congr_left (fun s hs => key s (List.mem_of_mem_take hs)), List.map_congr_left (fun s hs => key s (List.mem_of_mem_drop hs))]

/-! ### the numbers in the index -/
theorem yOf_append (E E' : List Ent) (k v : Lit) : yOf (E ++ E') k v = yOf E k v ++ yOf E' k v := by
  unfold yOf
  rw [List.filter_append, List.map_append]
theorem yOf_entP {d : List Pr} (hn : d.Pairwise fun p q => p.n ≠ q.n) (n : Nat) (nm s : ByteArray) (h0 : 0 < s.size) : (yOf (entP d n) (kl nm) (kl s)).length = if getL d nm = s then 1 else 0 := by
  induction d with
  | nil =>
    have : ¬ getL [] nm = s := fun e => by rw [← e] at h0; simp [getL] at h0
    rw [if_neg this]
    rfl
  | cons p t ih =>
    have h2 := List.pairwise_cons.1 hn
    have e : entP (p :: t) n = [(kl p.n, kl p.v, n)] ++ entP t n := rfl
    rw [e, yOf_append, List.length_append, ih h2.2]
    by_cases hp : p.n = nm
    · have ht : getL t nm = ⟨#[]⟩ := by
        cases hs : (getL t nm).size with
        | zero =>
          apply bl_inj
          apply List.eq_nil_of_length_eq_zero
          rw [bl_len]; exact hs
        | succ m =>
          obtain ⟨q, hq, hqn, _⟩ := getL_some (l := t) (nm := nm) (by omega)
          exact absurd (hp.trans hqn.symm) (h2.1 q hq)
      have hne : ¬ getL t nm = s := fun e => by rw [ht] at e; rw [← e] at h0; simp [ByteArray.size] at h0
      rw [if_neg hne, getL, if_pos hp]
      by_cases hv : p.v = s
      · rw [if_pos hv]
        subst hp; subst hv
        rw [show [(kl p.n, kl p.v, n)] = [] ++ [(kl p.n, kl p.v, n)] from rfl, yOf_yes, yOf_nil]
        rfl
      · rw [if_neg hv, show [(kl p.n, kl p.v, n)] = [] ++ [(kl p.n, kl p.v, n)] from rfl, yOf_no [] n (fun h => hv (kl_inj h.2)), yOf_nil]
        rfl
    · rw [getL, if_neg hp, show [(kl p.n, kl p.v, n)] = [] ++ [(kl p.n, kl p.v, n)] from rfl, yOf_no [] n (fun h => hp (kl_inj h.1)), yOf_nil]
      simp
theorem right_names {d : List Pr} (h : RightP d) : d.Pairwise fun p q => p.n ≠ q.n := by
  rw [List.pairwise_iff_getElem]
  intro i j hi hj hij e
  have := right_lt h j hj i hij
  rw [e] at this
  exact less_irrefl _ this
theorem yOf_count {D : List (List Pr)} (hok : ∀ d ∈ D, RightP d) (nm s : ByteArray) (h0 : 0 < s.size) : (yOf (entD D) (kl nm) (kl s)).length = cntV nm D s := by
  have key : ∀ n, n ≤ D.length → (yOf (entD (D.take n)) (kl nm) (kl s)).length = cntV nm (D.take n) s := by
    intro n
    induction n with
    | zero => intro _; simp [entD_nil, yOf_nil, cntV]
    | succ n ih =>
      intro hn
      rw [List.take_succ_eq_append_getElem (by omega), entD_snoc, yOf_append, List.length_append, ih (by omega), cntV_snoc, yOf_entP (right_names (hok _ (List.getElem_mem _))) _ nm s h0]
  have := key D.length (Nat.le_refl _)
  rwa [List.take_length] at this
end Go.Proofs.Ytmmilgcbjpbelaa
