/- What a disk's calls leave whole (plain). -/
import Derived.Test.YtokmiphgalpahaaPX
import Derived.Test.YtokmiphgalpahaaWU
namespace Go.Proofs.Ytokmiphgalpahaa
open Go.RowKit Go.Kt
set_option maxRecDepth 100000
variable {P : Pd}

theorem powF_ok {z : Int} (h1 : -1 ≤ z) (h2 : z ≤ 9223372036854775807) (h0 : z ≠ 0) : -1 ≤ powF z ∧ powF z ≤ 9223372036854775807 := by
  unfold powF
  split <;> constructor <;> omega
theorem addP_n (n : Int) (pl : List UInt8) (p : Pg) : (addP n pl p).n = p.n := by unfold addP; split <;> rfl
theorem syncP_n (n : Int) (p : Pg) : (syncP n p).n = p.n := by unfold syncP; split <;> rfl
theorem syncP_b (n : Int) (p : Pg) : (syncP n p).b = p.b := by unfold syncP; split <;> rfl
theorem usedP_cons (p : Pg) (L : List Pg) : usedP (p :: L) = p.b.length + usedP L := by simp [usedP]
theorem usedP_sync (n : Int) : ∀ L : List Pg, usedP (L.map (syncP n)) = usedP L
  | [] => rfl
  | p :: t => by rw [List.map_cons, usedP_cons, usedP_cons, syncP_b, usedP_sync n t]
theorem usedP_drop (n : Int) : ∀ L : List Pg, usedP (dropP n L) ≤ usedP L
  | [] => Nat.le_refl _
  | p :: t => by
    have ih := usedP_drop n t
    unfold dropP at ih ⊢
    rw [List.filter_cons, usedP_cons]
    split
    · rw [usedP_cons]; omega
    · omega
theorem addP_off (n : Int) (pl : List UInt8) : ∀ L : List Pg, (∀ p ∈ L, p.n ≠ n) → L.map (addP n pl) = L
  | [], _ => rfl
  | p :: t, h => by
    rw [List.map_cons, addP_off n pl t (fun q hq => h q (by simp [hq]))]
    unfold addP
    rw [if_neg (h p (by simp))]
theorem usedP_add (n : Int) (pl : List UInt8) : ∀ L : List Pg, L.Pairwise (fun a b => a.n < b.n) → usedP (L.map (addP n pl)) ≤ usedP L + pl.length
  | [], _ => Nat.zero_le _
  | p :: t, h => by
    obtain ⟨h1, h2⟩ := List.pairwise_cons.1 h
    have ih := usedP_add n pl t h2
    rw [List.map_cons, usedP_cons, usedP_cons]
    by_cases hp : p.n = n
    · rw [addP_off n pl t (fun q hq => by have := h1 q hq; omega)]
      unfold addP
      rw [if_pos hp]
      simp only [List.length_append]
      omega
    · unfold addP at ih ⊢
      rw [if_neg hp]
      omega
theorem usedP_ins (q : Pg) : ∀ L : List Pg, usedP (insP q L) = usedP L + q.b.length
  | [] => by simp [insP, usedP]
  | t :: ks => by
    rw [insP]
    split
    · rw [usedP_cons, usedP_cons, usedP_ins q ks]; omega
    · rw [usedP_cons, usedP_cons]; omega
theorem insP_mem (q x : Pg) : ∀ L : List Pg, x ∈ insP q L ↔ x = q ∨ x ∈ L
  | [] => by simp [insP]
  | t :: ks => by
    rw [insP]
    split
    · simp only [List.mem_cons, insP_mem q x ks]
      constructor
      · rintro (h | h | h)
        · exact .inr (.inl h)
        · exact .inl h
        · exact .inr (.inr h)
      · rintro (h | h | h)
        · exact .inr (.inl h)
        · exact .inl h
        · exact .inr (.inr h)
    · simp only [List.mem_cons]
theorem insP_inc (q : Pg) : ∀ L : List Pg, L.Pairwise (fun a b => a.n < b.n) → (∀ p ∈ L, p.n ≠ q.n) → (insP q L).Pairwise (fun a b => a.n < b.n)
  | [], _, _ => by simp [insP]
  | t :: ks, h, hn => by
    obtain ⟨h1, h2⟩ := List.pairwise_cons.1 h
    rw [insP]
    split
    · rename_i hlt
      refine List.pairwise_cons.2 ⟨fun x hx => ?_, insP_inc q ks h2 (fun p hp => hn p (by simp [hp]))⟩
      rcases (insP_mem q x ks).1 hx with rfl | hx
      · exact hlt
      · exact h1 x hx
    · rename_i hlt
      have hne := hn t (by simp)
      refine List.pairwise_cons.2 ⟨fun x hx => ?_, h⟩
      rcases List.mem_cons.1 hx with rfl | hx
      · omega
      · have := h1 x hx; omega
theorem insP_length (q : Pg) : ∀ L : List Pg, (insP q L).length = L.length + 1
  | [] => rfl
  | t :: ks => by
    rw [insP]
    split
    · rw [List.length_cons, insP_length q ks, List.length_cons]
    · rfl
/-- the disk is whole, and its segments' numbers are at most B -/
def PdN (B : Int) (P : Pd) : Prop := PdOk P ∧ ∀ p ∈ P.L, p.n ≤ B
theorem PdN.dead {B : Int} (h : PdN B P) : PdN B { P with down := true } := ⟨⟨h.1.room0, h.1.room1, h.1.len, h.1.tot, h.1.fuse0, h.1.fuse1, h.1.inc, h.1.seg⟩, h.2⟩
theorem PdN.sync {B : Int} (h : PdN B P) (n : Int) : PdN B (P.sync n).2 := by
  unfold Pd.sync
  split
  · exact h
  split
  · exact h
  split
  · exact h.dead
  rename_i h0
  obtain ⟨f1, f2⟩ := powF_ok h.1.fuse0 h.1.fuse1 h0
  refine ⟨⟨h.1.room0, h.1.room1, by simpa using h.1.len, by rw [usedP_sync]; exact h.1.tot, f1, f2, ?_, ?_⟩, ?_⟩
  · simp only
    rw [List.pairwise_map]
    exact h.1.inc.imp (fun hab => by rw [syncP_n, syncP_n]; exact hab)
  · intro p hp
    obtain ⟨q, hq, rfl⟩ := List.mem_map.1 hp
    obtain ⟨s1, s2, s3⟩ := h.1.seg q hq
    refine ⟨?_, by rw [syncP_n]; exact s2, by rw [syncP_n]; exact s3⟩
    rw [syncP_b]
    unfold syncP
    split
    · exact Nat.le_refl _
    · exact s1
  · intro p hp
    obtain ⟨q, hq, rfl⟩ := List.mem_map.1 hp
    rw [syncP_n]
    exact h.2 q hq
theorem PdN.drop {B : Int} (h : PdN B P) (n : Int) : PdN B (P.drop n).2 := by
  unfold Pd.drop
  split
  · exact h
  split
  · exact h
  split
  · exact h.dead
  rename_i h0
  obtain ⟨f1, f2⟩ := powF_ok h.1.fuse0 h.1.fuse1 h0
  have hu := usedP_drop n P.L
  have ht := h.1.tot
  have hl : (dropP n P.L).length ≤ P.L.length := List.length_filter_le _ _
  have hlen := h.1.len
  refine ⟨⟨h.1.room0, h.1.room1, by simp only; omega, by simp only; omega, f1, f2, h.1.inc.filter _, fun p hp => h.1.seg p (List.mem_filter.1 hp).1⟩, fun p hp => h.2 p (List.mem_filter.1 hp).1⟩
theorem PdN.app {B : Int} (h : PdN B P) {n : Int} (hn : n ≤ B) (hB : B ≤ 9223372036854775807) (pl : List UInt8) : PdN B (P.app n pl).2 := by
  unfold Pd.app
  split
  · exact h
  split
  · exact h
  rename_i h1
  split
  · exact h
  rename_i hfull
  split
  · exact h.dead
  rename_i h0
  obtain ⟨f1, f2⟩ := powF_ok h.1.fuse0 h.1.fuse1 h0
  have hroom : ¬ (P.room - usedP P.L < pl.length) := fun hh => hfull (.inl hh)
  unfold appP
  by_cases hh : HasP n P.L
  · rw [if_pos hh]
    have hu := usedP_add n pl P.L h.1.inc
    refine ⟨⟨h.1.room0, h.1.room1, by simpa using h.1.len, by simp only; omega, f1, f2, ?_, ?_⟩, ?_⟩
    · simp only
      rw [List.pairwise_map]
      exact h.1.inc.imp (fun hab => by rw [addP_n, addP_n]; exact hab)
    · intro p hp
      obtain ⟨q, hq, rfl⟩ := List.mem_map.1 hp
      obtain ⟨s1, s2, s3⟩ := h.1.seg q hq
      refine ⟨?_, by rw [addP_n]; exact s2, by rw [addP_n]; exact s3⟩
      unfold addP
      split
      · simp only [List.length_append]; omega
      · exact s1
    · intro p hp
      obtain ⟨q, hq, rfl⟩ := List.mem_map.1 hp
      rw [addP_n]
      exact h.2 q hq
  · rw [if_neg hh]
    have hlt : P.L.length < 1024 := by
      apply Nat.lt_of_not_le
      intro hge
      exact hfull (.inr ⟨hh, hge⟩)
    refine ⟨⟨h.1.room0, h.1.room1, by simp only [insP_length]; omega, by simp only [usedP_ins]; omega, f1, f2, insP_inc _ _ h.1.inc (fun p hp e => hh ⟨p, hp, e⟩), fun p hp => ?_⟩, fun p hp => ?_⟩
    · rcases (insP_mem _ _ _).1 hp with rfl | hp
      · exact ⟨Nat.zero_le _, by simp only; omega, by simp only; omega⟩
      · exact h.1.seg p hp
    · rcases (insP_mem _ _ _).1 hp with rfl | hp
      · exact hn
      · exact h.2 p hp
end Go.Proofs.Ytokmiphgalpahaa
