/- How long what stands in a segment is (plain). -/
import Derived.Test.YtokmiphgalpahaaPW
namespace Go.Proofs.Ytokmiphgalpahaa
open Go.RowKit Go.Kt

def weigh (l : List (UInt8 × List UInt8)) : Nat := (l.map fun p => 9 + p.2.length).sum
theorem weigh_cons (p : UInt8 × List UInt8) (t : List (UInt8 × List UInt8)) : weigh (p :: t) = 9 + p.2.length + weigh t := by simp [weigh]
theorem opened_body (b : List UInt8) (h : (Fm.Fr.opened b).err = 0) : (Fm.Fr.opened b).used = 9 + (Fm.Fr.opened b).body.length := by
  unfold Fm.Fr.opened at h ⊢
  split at h
  · rename_i x0 x1 x2 x3 x4 x5 x6 x7 x8 t
    by_cases h0 : x0 ≠ 167
    · rw [if_pos h0] at h; cases h
    rw [if_neg h0] at h ⊢
    by_cases h1 : 1048576 < Fm.Fr.num x2 x3 x4
    · rw [if_pos h1] at h; cases h
    rw [if_neg h1] at h ⊢
    by_cases h2 : t.length < Fm.Fr.num x2 x3 x4
    · rw [if_pos h2] at h; cases h
    rw [if_neg h2] at h ⊢
    unfold Fm.Fr.fin at h ⊢
    by_cases h3 : Fm.Fr.sum x1 (t.take (Fm.Fr.num x2 x3 x4)) = Fm.Fr.num4 x5 x6 x7 x8
    · rw [if_pos h3]
      simp only [List.length_take]
      omega
    · rw [if_neg h3] at h; cases h
  · rename_i x0 _ _
    by_cases h0 : x0 ≠ 167
    · rw [if_pos h0] at h; cases h
    · rw [if_neg h0] at h; cases h
  · cases h
theorem scan_weigh : ∀ (n : Nat) (b : List UInt8), b.length ≤ n → weigh (Fm.Fr.scan b).1 ≤ b.length ∧ ∀ p ∈ (Fm.Fr.scan b).1, p.2.length ≤ 1048576
  | n, b, hn => by
    by_cases h : (Fm.Fr.opened b).err = 0
    · obtain ⟨h9, hu, hb⟩ := Fm.Fr.opened_used b h
      have hob := opened_body b h
      rw [Fm.Fr.scan_ok b h]
      match n, hn with
      | 0, hn => omega
      | n + 1, hn =>
        have ih := scan_weigh n (b.drop (Fm.Fr.opened b).used) (by simp; omega)
        rw [List.length_drop] at ih
        refine ⟨?_, fun p hp => ?_⟩
        · rw [weigh_cons]
          have := ih.1
          simp only
          omega
        · rcases List.mem_cons.1 hp with rfl | hp
          · exact hb
          · exact ih.2 p hp
    · rw [Fm.Fr.scan_bad b h]
      exact ⟨by simp [weigh], by simp⟩
theorem tailF_le : ∀ (ok : Bool) (t : List (UInt8 × List UInt8)), (tailF ok t).2.1 ≤ weigh t ∧ (tailF ok t).1.length ≤ t.length ∧ (recsB (tailF ok t).1).length ≤ (tailF ok t).2.1 ∧ ∀ r ∈ (tailF ok t).1, ∃ p ∈ t, p.2 = r
  | ok, [] => by simp [tailF, recsB, weigh]
  | ok, p :: t => by
    have ih1 := tailF_le ok t
    have ih2 := tailF_le true t
    rw [weigh_cons, tailF]
    by_cases h1 : p.1 = 1
    · rw [if_pos h1]
      refine ⟨by simp only; omega, by simp only [List.length_cons]; omega, ?_, fun r hr => ?_⟩
      · have := ih1.2.2.1
        have hs := Fm.Fr.sealed_len 1 p.2
        simp only [recsB, List.map_cons, List.flatten_cons, List.length_append] at this ⊢
        omega
      · rcases List.mem_cons.1 hr with rfl | hr
        · exact ⟨p, by simp, rfl⟩
        · obtain ⟨q, hq, e⟩ := ih1.2.2.2 r hr
          exact ⟨q, by simp [hq], e⟩
    · rw [if_neg h1]
      by_cases h2 : p.1 = 3 ∧ ok = false
      · rw [if_pos h2]
        refine ⟨by simp only; omega, by simp only [List.length_cons]; omega, ?_, fun r hr => ?_⟩
        · have := ih2.2.2.1
          simp only
          omega
        · obtain ⟨q, hq, e⟩ := ih2.2.2.2 r hr
          exact ⟨q, by simp [hq], e⟩
      · rw [if_neg h2]
        simp [recsB]
theorem scan_len (l : List (UInt8 × List UInt8)) : l.length * 9 ≤ weigh l := by
  induction l with
  | nil => simp [weigh]
  | cons p t ih => rw [weigh_cons, List.length_cons]; omega
structure StdOk (b : List UInt8) (s : Std) : Prop where
  used : s.used ≤ b.length
  base : s.base.length ≤ 1048576
  recs : ∀ r ∈ s.recs, r.length ≤ 1048576
  len : s.recs.length ≤ b.length
  whole : (wholeW s.base s.recs).length ≤ b.length + 9
theorem stands_ok {b : List UInt8} {s : Std} (h : standsW b = some s) : StdOk b s := by
  obtain ⟨h1, h2⟩ := scan_weigh b.length b (Nat.le_refl _)
  unfold standsW at h
  generalize (Fm.Fr.scan b).1 = l at *
  cases l with
  | nil => cases h
  | cons p t =>
    rw [standsL] at h
    by_cases h3 : p.1 = 2
    · rw [if_pos h3] at h
      by_cases h4 : (tailF false t).2.2 = true
      · rw [if_pos h4] at h
        cases h
        obtain ⟨k1, k2, k3, k4⟩ := tailF_le false t
        rw [weigh_cons] at h1
        have h5 := scan_len t
        refine ⟨by simp only; omega, h2 p (by simp), fun r hr => ?_, by simp only; omega, ?_⟩
        · obtain ⟨q, hq, rfl⟩ := k4 r hr
          exact h2 q (by simp [hq])
        · have e1 := Fm.Fr.sealed_len 2 p.2
          have e2 := Fm.Fr.sealed_len 3 []
          simp only [wholeW, List.length_append, e1, e2, List.length_nil]
          omega
      · rw [if_neg h4] at h; cases h
    · rw [if_neg h3] at h; cases h
end Go.Proofs.Ytokmiphgalpahaa
