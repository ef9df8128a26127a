/- Seats: which are picked, as plain functions; the plain law of RouteMay. -/
import Derived.Test.YtgfegadklkecdaaW3
namespace Go.Proofs.Ytgfegadklkecdaa
open Go.RowKit Go.Kt

theorem blw_cmp (x m : St) : blw x m = true ↔ cmp x m < 0 := by
  unfold blw cmp
  by_cases h1 : x.wall = m.wall
  · by_cases h2 : x.tick = m.tick
    · by_cases h3 : x.mark = m.mark
      · simp [h1, h2, h3]
      · by_cases h4 : x.mark < m.mark <;> simp [h1, h2, h3, h4]
    · by_cases h4 : x.tick < m.tick <;> simp [h1, h2, h4]
  · by_cases h4 : x.wall < m.wall <;> simp [h1, h4]
def maxLoad (l : List Seat) (node : Int) : Int := l.foldl (fun m s => if s.node = node ∧ m < s.load then s.load else m) 0
def bump (node m p : Int) : Int := if p = node ∧ m < 4611686018427387904 then m + 1 else m
def loadN (l : List Seat) (out : List Int) (node : Int) : Int := out.foldl (bump node) (maxLoad l node)
def ahead (ld : Int → Int) (a b : Seat) : Bool := if a.prim ≠ b.prim then b.prim else if ld a.node ≠ ld b.node then decide (ld a.node < ld b.node) else decide (a.node < b.node)
def mayB (s : Seat) (shard : Int) (t : St) : Bool := decide (s.shard = shard) && s.up && !blw t s.safe && !blw s.closed t && !s.held
structure Pk where
  best : Option Seat
  up : Bool
  young : Bool
  e : Int
def stepP (ld : Int → Int) (shard : Int) (t : St) (p : Pk) (s : Seat) : Pk :=
  if s.shard ≠ shard ∨ s.up = false then p
  else if blw t s.safe = true then { p with up := true, e := if p.e = 6 then 100 else p.e }
  else if blw s.closed t = true ∨ s.held = true then { p with up := true, young := true, e := 101 }
  else { p with up := true, young := true, best := some (match p.best with | none => s | some b => if ahead ld s b then s else b) }
def pk0 : Pk := ⟨none, false, false, 6⟩
def shardPick (ld : Int → Int) (shard : Int) (t : St) (l : List Seat) : Pk := l.foldl (stepP ld shard t) pk0
/-- what the program notes of why there is none, and what the document does -/
structure PkOk (p : Pk) : Prop where
  no : p.up = false → p.e = 6 ∧ p.young = false ∧ p.best = none
  old : p.up = true → p.young = false → p.e = 100 ∧ p.best = none
  young : p.young = true → p.up = true ∧ (p.best = none → p.e = 101)
theorem step_ok {ld : Int → Int} {shard : Int} {t : St} {p : Pk} (h : PkOk p) (s : Seat) : PkOk (stepP ld shard t p s) := by
  obtain ⟨b, u, y, e⟩ := p
  obtain ⟨h1, h2, h3⟩ := h
  simp only at h1 h2 h3
  unfold stepP
  split
  · exact ⟨h1, h2, h3⟩
  · split
    · refine ⟨fun h => (by cases h), fun _ hy => ?_, fun hy => ⟨rfl, fun hb => ?_⟩⟩
      · simp only at hy ⊢
        cases u with
        | false => obtain ⟨g1, _, g3⟩ := h1 rfl; rw [g1]; exact ⟨rfl, g3⟩
        | true => obtain ⟨g1, g3⟩ := h2 rfl hy; rw [g1]; exact ⟨rfl, g3⟩
      · simp only at hy hb ⊢
        rw [(h3 hy).2 hb]; rfl
    · split
      · exact ⟨fun h => (by cases h), fun _ h => (by cases h), fun _ => ⟨rfl, fun _ => rfl⟩⟩
      · exact ⟨fun h => (by cases h), fun _ h => (by cases h), fun _ => ⟨rfl, fun h => (by cases h)⟩⟩
theorem fold_ok {ld : Int → Int} {shard : Int} {t : St} (l : List Seat) : ∀ p, PkOk p → PkOk (l.foldl (stepP ld shard t) p) := by
  induction l with
  | nil => exact fun p h => h
  | cons x r ih => exact fun p h => ih _ (step_ok h x)
theorem pick_ok (ld : Int → Int) (shard : Int) (t : St) (l : List Seat) : PkOk (shardPick ld shard t l) :=
  fold_ok l _ ⟨fun _ => ⟨rfl, rfl, rfl⟩, fun h => (by cases h), fun h => (by cases h)⟩
theorem fold_snoc {α β : Type} (f : β → α → β) (b : β) (l : List α) (k : Nat) (x : α) (h : l[k]? = some x) : (l.take (k + 1)).foldl f b = f ((l.take k).foldl f b) x := by
  obtain ⟨hk, rfl⟩ := List.getElem?_eq_some_iff.1 h
  rw [List.take_succ_eq_append_getElem hk, List.foldl_append]
  rfl
/-- a pick is one of the seats that may be asked, and no primary where another may be -/
structure PkMay (l : List Seat) (shard : Int) (t : St) (p : Pk) : Prop where
  mem : ∀ b, p.best = some b → b ∈ l ∧ mayB b shard t = true
  back : ∀ s ∈ l, mayB s shard t = true → ∃ b, p.best = some b ∧ (s.prim = false → b.prim = false)
theorem step_may {ld : Int → Int} {shard : Int} {t : St} {l : List Seat} {p : Pk} (h : PkMay l shard t p) (s : Seat) : PkMay (l ++ [s]) shard t (stepP ld shard t p s) := by
  unfold stepP
  by_cases h1 : s.shard ≠ shard ∨ s.up = false
  · rw [if_pos h1]
    have hno : mayB s shard t = false := by
      rcases h1 with h1 | h1
      · simp [mayB, h1]
      · simp [mayB, h1]
    refine ⟨fun b hb => ⟨List.mem_append_left _ (h.mem b hb).1, (h.mem b hb).2⟩, fun x hx hm => ?_⟩
    rcases List.mem_append.1 hx with hx | hx
    · exact h.back x hx hm
    · simp at hx; subst hx; rw [hno] at hm; cases hm
  rw [if_neg h1]
  by_cases h2 : blw t s.safe = true
  · rw [if_pos h2]
    have hno : mayB s shard t = false := by simp [mayB, h2]
    refine ⟨fun b hb => ⟨List.mem_append_left _ (h.mem b hb).1, (h.mem b hb).2⟩, fun x hx hm => ?_⟩
    rcases List.mem_append.1 hx with hx | hx
    · exact h.back x hx hm
    · simp at hx; subst hx; rw [hno] at hm; cases hm
  rw [if_neg h2]
  by_cases h3 : blw s.closed t = true ∨ s.held = true
  · rw [if_pos h3]
    have hno : mayB s shard t = false := by
      rcases h3 with h3 | h3
      · simp [mayB, h3]
      · simp [mayB, h3]
    refine ⟨fun b hb => ⟨List.mem_append_left _ (h.mem b hb).1, (h.mem b hb).2⟩, fun x hx hm => ?_⟩
    rcases List.mem_append.1 hx with hx | hx
    · exact h.back x hx hm
    · simp at hx; subst hx; rw [hno] at hm; cases hm
  rw [if_neg h3]
  have hs : mayB s shard t = true := by
    have a1 : s.shard = shard := Classical.not_not.1 (fun h => h1 (.inl h))
    have a2 : s.up = true := by cases hu : s.up with | true => rfl | false => exact (h1 (.inr hu)).elim
    have a3 : blw t s.safe = false := by simpa using h2
    have a4 : blw s.closed t = false := by cases hu : blw s.closed t with | false => rfl | true => exact (h3 (.inl hu)).elim
    have a5 : s.held = false := by cases hu : s.held with | false => rfl | true => exact (h3 (.inr hu)).elim
    simp [mayB, a1, a2, a3, a4, a5]
  cases hb : p.best with
  | none =>
    refine ⟨fun b hb' => ?_, fun x hx hm => ⟨s, rfl, fun hp => ?_⟩⟩
    · cases hb'; exact ⟨List.mem_append_right _ (by simp), hs⟩
    · rcases List.mem_append.1 hx with hx | hx
      · obtain ⟨b, hb', _⟩ := h.back x hx hm
        rw [hb] at hb'; cases hb'
      · simp at hx; subst hx; exact hp
  | some c =>
    have hprim : ∀ x, (if ahead ld s c = true then s else c) = x → (s.prim = false ∨ c.prim = false) → x.prim = false := by
      intro x hx hp
      subst hx
      have key : s.prim ≠ c.prim → ahead ld s c = c.prim := fun h => by unfold ahead; rw [if_pos h]
      by_cases hA : ahead ld s c = true
      · rw [if_pos hA]
        by_cases h4 : s.prim = c.prim
        · rcases hp with hp | hp
          · exact hp
          · rw [h4]; exact hp
        · rw [key h4] at hA
          rcases hp with hp | hp
          · exact hp
          · rw [hA] at hp; cases hp
      · rw [if_neg hA]
        by_cases h4 : s.prim = c.prim
        · rcases hp with hp | hp
          · rw [← h4]; exact hp
          · exact hp
        · rw [key h4] at hA
          simpa using hA
    refine ⟨fun b hb' => ?_, fun x hx hm => ⟨_, rfl, fun hp => hprim _ rfl ?_⟩⟩
    · simp only [Option.some.injEq] at hb'
      subst hb'
      split
      · exact ⟨List.mem_append_right _ (by simp), hs⟩
      · exact ⟨List.mem_append_left _ (h.mem c hb).1, (h.mem c hb).2⟩
    · rcases List.mem_append.1 hx with hx | hx
      · obtain ⟨b, hb', hq⟩ := h.back x hx hm
        rw [hb] at hb'
        cases hb'
        exact .inr (hq hp)
      · simp at hx; subst hx; exact .inl hp
theorem pick_may (ld : Int → Int) (shard : Int) (t : St) (l : List Seat) : PkMay l shard t (shardPick ld shard t l) := by
  suffices h : ∀ k, k ≤ l.length → PkMay (l.take k) shard t ((l.take k).foldl (stepP ld shard t) pk0) by
    have := h l.length (Nat.le_refl _)
    rw [List.take_length] at this
    exact this
  intro k
  induction k with
  | zero => exact fun _ => ⟨fun b hb => (by cases hb), fun s hs => (by simp at hs)⟩
  | succ k ih =>
    intro hk
    obtain ⟨x, hx⟩ : ∃ x, l[k]? = some x := ⟨l[k], List.getElem?_eq_getElem (by omega)⟩
    rw [fold_snoc _ _ l k x hx]
    obtain ⟨hk', rfl⟩ := List.getElem?_eq_some_iff.1 hx
    rw [List.take_succ_eq_append_getElem hk']
    exact step_may (ih (by omega)) _
/-- the picks of the shards from 0 on -/
def picks (l : List Seat) (t : St) : Nat → Int ⊕ List Int
  | 0 => .inr []
  | n + 1 => match picks l t n with
    | .inl e => .inl e
    | .inr out => match (shardPick (loadN l out) n t l).best with
      | none => .inl (shardPick (loadN l out) n t l).e
      | some s => .inr (out ++ [s.node])
def pickF (l : List Seat) (shards : Int) (t : St) : Int ⊕ List Int :=
  if shards < 1 ∨ 4 < shards ∨ stR t = false ∨ 32 < (l.length : Int) then .inl 1 else picks l t shards.toNat
end Go.Proofs.Ytgfegadklkecdaa
