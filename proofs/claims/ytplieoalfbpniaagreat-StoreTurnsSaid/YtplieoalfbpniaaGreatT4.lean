/- StoreTurns: the plain law; steps in memory of our own. -/
import Derived.Test.YtplieoalfbpniaaGreatT3
set_option linter.unusedVariables false
set_option linter.unusedSimpArgs false
namespace Go.Proofs.YtplieoalfbpniaaGreat
open Go.RowKit Go.Kt Go.Ix Go.Sx
set_option maxRecDepth 100000
variable {M : List It} {K V : List Op}

/-- what a step writes -/
def keyO (o : Op) : List Pr × Int × Ver := (o.m.st, o.m.t, verOf o.m o.at_)
/-- a store, and the steps that it took -/
structure Took (M : List It) (K : List Op) : Prop where
  ok : StoreOk ltS M
  mem : ∀ z, z ∈ keptL M ↔ z ∈ K.map keyO
  un : (K.map keyO).Pairwise (fun a b => ¬ SameKey a b)
  rt : ∀ o ∈ K, o.kind = 0 ∧ RightW o.m ∧ verR (verOf o.m o.at_)
  len : lenL M = K.length
theorem Took.nil : Took [] [] := ⟨empty_ok, fun z => by simp [keptL], List.Pairwise.nil, fun o ho => (by cases ho), rfl⟩
theorem putL_ver {L : List It} {s : List Pr} {t : Int} {v : Ver} (h : (putL ltS L s t v).1 = 0) : verR v := by
  unfold putL putC at h
  by_cases e : verR v
  · exact e
  · simp [e] at h
theorem putL_no {L : List It} {s : List Pr} {t : Int} {v : Ver} (h : (putL ltS L s t v).1 ≠ 0) : (putL ltS L s t v).2 = L := by
  unfold putL at h ⊢
  by_cases e : (putC (atL L s t) v).1 = 0
  · simp [e] at h
  · simp [e]
theorem putS_no {L : List It} {m : Wr} {t : Tm} (h : (putS L m t).1 ≠ 0) : (putS L m t).2 = L := by
  unfold putS at h ⊢
  by_cases e : pb (RightW m) = false
  · rw [if_pos e]
  · rw [if_neg e] at h ⊢
    by_cases e2 : 65536 ≤ lenL L
    · rw [if_pos e2]
    · rw [if_neg e2] at h ⊢
      exact putL_no h
theorem putS_yes {L : List It} {m : Wr} {t : Tm} (h : (putS L m t).1 = 0) : RightW m ∧ lenL L < 65536 ∧ putS L m t = putL ltS L m.st m.t (verOf m t) := by
  unfold putS at h ⊢
  by_cases e : RightW m
  · rw [if_neg (by rw [pb_yes e]; simp)] at h ⊢
    by_cases e2 : 65536 ≤ lenL L
    · rw [if_pos e2] at h; cases h
    · exact ⟨e, by omega, by rw [if_neg e2]⟩
  · rw [if_pos (pb_no e)] at h; cases h
theorem Took.more (h : Took M K) {o : Op} (hk : o.kind = 0) (h0 : (putS M o.m o.at_).1 = 0) : Took (putS M o.m o.at_).2 (K ++ [o]) := by
  obtain ⟨hr, -, e⟩ := putS_yes h0
  rw [e] at h0 ⊢
  have hv := putL_ver h0
  obtain ⟨h1, h2⟩ := puts_unlike line_sets h.ok h.mem h.un (w := keyO o) hv h0
  refine ⟨putL_ok line_sets h.ok _ _ _, fun z => ?_, ?_, fun x hx => ?_, ?_⟩
  · rw [List.map_append]; exact h2 z
  · rw [List.map_append]; exact h1
  · rcases List.mem_append.1 hx with hx | hx
    · exact h.rt x hx
    · rw [List.mem_singleton.1 hx]
      exact ⟨hk, hr, hv⟩
  · rw [putL_len line_sets h.ok h0, h.len, List.length_append]; rfl
theorem made_puts : ∀ (V : List Op) (L : List It), StoreOk ltS L → (∀ o ∈ V, o.kind = 0 ∧ RightW o.m) → lenL L + V.length ≤ 65536 → madeS V L = putsL ltS L (V.map keyO)
  | [], L, _, _, _ => rfl
  | o :: t, L, hL, hv, hl => by
    obtain ⟨hk, hr⟩ := hv o (by simp)
    rw [List.length_cons] at hl
    have e : putS L o.m o.at_ = putL ltS L o.m.st o.m.t (verOf o.m o.at_) := by
      unfold putS
      rw [if_neg (by rw [pb_yes hr]; simp), if_neg (by omega)]
    rw [madeS, if_pos hk, List.map_cons, putsL, e]
    refine made_puts t _ (putL_ok line_sets hL _ _ _) (fun x hx => hv x (by simp [hx])) ?_
    by_cases h0 : (putL ltS L o.m.st o.m.t (verOf o.m o.at_)).1 = 0
    · rw [putL_len line_sets hL h0]; omega
    · rw [putL_no h0]; omega
theorem took_made (h : Took M K) (hp : V.Perm K) (hl : K.length ≤ 80) : keptL (madeS (V.take 80) []) = keptL M := by
  have hl2 := hp.length_eq
  rw [List.take_of_length_le (by omega)]
  have hrt : ∀ o ∈ V, o.kind = 0 ∧ RightW o.m ∧ verR (verOf o.m o.at_) := fun o ho => h.rt o (hp.mem_iff.1 ho)
  rw [made_puts V [] empty_ok (fun o ho => ⟨(hrt o ho).1, (hrt o ho).2.1⟩) (by rw [show lenL ([] : List It) = 0 from rfl]; omega)]
  have hp2 : (K.map keyO).Perm (V.map keyO) := (hp.map keyO).symm
  have hd : (V.map keyO).Pairwise (fun a b => ¬ SameKey a b) := (hp2.pairwise_iff (fun {a b} hab e => hab ⟨e.1.symm, e.2.1.symm, e.2.2.symm⟩)).1 h.un
  obtain ⟨a1, a2, -⟩ := puts_ok line_sets (V.map keyO) empty_ok (fun w hw => by
    obtain ⟨o, ho, rfl⟩ := List.mem_map.1 hw
    exact (hrt o ho).2.2) hd (fun w _ z hz => by cases hz)
  exact kept_ext line_sets a1 h.ok (fun z => by
    rw [a2, h.mem, hp2.mem_iff]
    simp [keptL])
/-- two that change places -/
theorem perm_swap {α : Type} (V : List α) {i j : Nat} {x y : α} (hi : V[i]? = some x) (hj : V[j]? = some y) : ((V.set i y).set j x).Perm V := by
  obtain ⟨hi', rfl⟩ := List.getElem?_eq_some_iff.1 hi
  obtain ⟨hj', rfl⟩ := List.getElem?_eq_some_iff.1 hj
  exact List.set_set_perm hi' hj'
end Go.Proofs.YtplieoalfbpniaaGreat
