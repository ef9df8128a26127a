/- Gates: the plain law of GateBounds, and the record of what was let in. -/
import Derived.Test.YtjeecffhclhbaaaW9
namespace Go.Proofs.Ytjeecffhclhbaaa
open Go.RowKit Go.Kt

def tot : List (Int × Int) → Int
  | [] => 0
  | x :: l => x.1 + tot l
theorem tot_drop (L : List (Int × Int)) (k : Nat) (x : Int × Int) (h : L[k]? = some x) : tot (L.drop k) = x.1 + tot (L.drop (k + 1)) := by
  obtain ⟨hk, rfl⟩ := List.getElem?_eq_some_iff.1 h
  rw [List.drop_eq_getElem_cons hk]; rfl
theorem tot_append (L M : List (Int × Int)) : tot (L ++ M) = tot L + tot M := by
  induction L with
  | nil => simp [tot]
  | cons x l ih => simp only [List.cons_append, tot, ih]; omega
/-- what was let in of one client, held against what it has left -/
structure CInv (G : Gt) (L : List (Int × Int)) (T : Int) (ob : Option (Int × Int)) : Prop where
  none_ : ob = none → L = []
  some_ : ∀ b, ob = some b → b.2 ≤ T ∧ ∀ k x, L[k]? = some x → x.2 ≤ b.2 ∧ tot (L.drop k) ≤ G.burst - b.1 + G.each * (b.2 - x.2)
  each_ : ∀ x ∈ L, 1 ≤ x.1 ∧ x.1 ≤ G.burst ∧ 0 ≤ x.2 ∧ x.2 ≤ T
theorem CInv.later {G : Gt} {L : List (Int × Int)} {T T' : Int} {ob : Option (Int × Int)} (h : CInv G L T ob) (hT : T ≤ T') : CInv G L T' ob :=
  ⟨h.none_, fun b hb => ⟨Int.le_trans (h.some_ b hb).1 hT, (h.some_ b hb).2⟩, fun x hx => by have := h.each_ x hx; omega⟩
theorem fill_le (G : Gt) (hG : G.ok) (b : Int × Int) (T : Int) (h : b.2 ≤ T) : (fillF G b T).2 = T ∧ (fillF G b T).1 ≤ b.1 + G.each * (T - b.2) := by
  have he := hG.e1
  unfold fillF
  by_cases h1 : T ≤ b.2
  · have : b.2 = T := by omega
    rw [if_pos h1, this]
    exact ⟨rfl, by simp⟩
  · rw [if_neg h1]
    by_cases h2 : 0 < G.each ∧ (G.burst - b.1 + G.each - 1) / G.each ≤ T - b.2
    · rw [if_pos h2]
      refine ⟨rfl, ?_⟩
      obtain ⟨h3, h4⟩ := h2
      have h5 : G.burst - b.1 ≤ G.each * (T - b.2) := by
        have h6 : G.burst - b.1 + G.each - 1 < G.each * ((G.burst - b.1 + G.each - 1) / G.each + 1) := by
          have := Int.lt_mul_ediv_self_add (x := G.burst - b.1 + G.each - 1) h3
          rw [Int.mul_add, Int.mul_one]
          omega
        have h7 : G.each * ((G.burst - b.1 + G.each - 1) / G.each) ≤ G.each * (T - b.2) := Int.mul_le_mul_of_nonneg_left h4 (by omega)
        rw [Int.mul_add, Int.mul_one] at h6
        omega
      simp only
      omega
    · rw [if_neg h2]
      exact ⟨rfl, by simp only; rw [Int.mul_comm]; exact Int.le_refl _⟩
theorem CInv.step {G : Gt} (hG : G.ok) {L : List (Int × Int)} {T T' : Int} {s : ByteArray} {c : Int} (h : CInv G L T (G.f (kl s))) (hT : T ≤ T') (hT0 : 0 ≤ T') (hT1 : T' ≤ 4611686018427387904) (hc1 : 1 ≤ c) (hc2 : c ≤ G.burst) (hc3 : c ≤ (findF G s T').1) :
    CInv G (L ++ [(c, T')]) T' (some ((findF G s T').1 - c, (findF G s T').2)) := by
  have key : ∃ l0 t0 : Int, (findF G s T').2 = T' ∧ (findF G s T').1 ≤ l0 + G.each * (T' - t0) ∧ (findF G s T').1 ≤ G.burst ∧ t0 ≤ T' ∧ ∀ k x, L[k]? = some x → x.2 ≤ t0 ∧ tot (L.drop k) ≤ G.burst - l0 + G.each * (t0 - x.2) := by
    unfold findF
    cases hf : G.f (kl s) with
    | none =>
      have hL := h.none_ hf
      refine ⟨G.burst, T', rfl, by simp, Int.le_refl _, Int.le_refl _, fun k x hx => ?_⟩
      rw [hL] at hx
      simp at hx
    | some b =>
      obtain ⟨h1, h2⟩ := h.some_ b hf
      obtain ⟨q1, q2, q3, q4⟩ := hG.has _ b hf
      obtain ⟨h3, h4⟩ := fill_le G hG b T' (by omega)
      exact ⟨b.1, b.2, h3, h4, (fillF_ok G hG b T' q1 q2 q3 q4 hT0 hT1).2.1, by omega, h2⟩
  obtain ⟨l0, t0, k1, k2, k5, k3, k4⟩ := key
  have he := hG.e1
  refine ⟨fun h => by (cases h), fun b hb => ?_, fun x hx => ?_⟩
  · cases hb
    refine ⟨Int.le_of_eq k1, fun k x hx => ?_⟩
    rw [k1]
    by_cases hk : k < L.length
    · rw [List.getElem?_append_left hk] at hx
      obtain ⟨g1, g2⟩ := k4 k x hx
      refine ⟨by omega, ?_⟩
      rw [List.drop_append_of_le_length (by omega), tot_append]
      have e : tot [(c, T')] = c := by simp [tot]
      rw [e]
      have e2 : G.each * (T' - x.2) = G.each * (T' - t0) + G.each * (t0 - x.2) := by rw [← Int.mul_add]; congr 1; omega
      simp only
      omega
    · have hk2 : k = L.length := by
        have := (List.getElem?_eq_some_iff.1 hx).1
        simp at this
        omega
      subst hk2
      simp at hx
      subst hx
      refine ⟨Int.le_refl _, ?_⟩
      rw [List.drop_left]
      have e : tot [(c, T')] = c := by simp [tot]
      rw [e]
      simp only [Int.sub_self, Int.mul_zero]
      omega
  · rcases List.mem_append.1 hx with hx | hx
    · have := h.each_ x hx
      omega
    · simp at hx
      subst hx
      exact ⟨hc1, hc2, hT0, Int.le_refl _⟩
/-- what the law asks -/
theorem CInv.bound {G : Gt} (hG : G.ok) {L : List (Int × Int)} {T : Int} {b : Int × Int} (h : CInv G L T (some b)) (hb0 : 0 ≤ b.1) (k : Nat) (x : Int × Int) (hx : L[k]? = some x) : tot (L.drop k) ≤ G.burst + G.each * (T - x.2) := by
  obtain ⟨h1, h2⟩ := h.some_ b rfl
  obtain ⟨h3, h4⟩ := h2 k x hx
  have he := hG.e1
  have : G.each * (b.2 - x.2) ≤ G.each * (T - x.2) := Int.mul_le_mul_of_nonneg_left (by omega) he
  omega
theorem tot_bound (L : List (Int × Int)) (B : Int) (h : ∀ x ∈ L, 1 ≤ x.1 ∧ x.1 ≤ B) : 0 ≤ tot L ∧ tot L ≤ (L.length : Int) * B := by
  induction L with
  | nil => simp [tot]
  | cons x l ih =>
    obtain ⟨h1, h2⟩ := ih (fun y hy => h y (by simp [hy]))
    obtain ⟨h3, h4⟩ := h x (by simp)
    simp only [tot, List.length_cons]
    rw [Int.natCast_add, Int.add_mul]
    omega
end Go.Proofs.Ytjeecffhclhbaaa
