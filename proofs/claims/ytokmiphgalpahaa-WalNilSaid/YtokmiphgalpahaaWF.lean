/- A segment taken out of the disk. -/
import Derived.Test.YtokmiphgalpahaaWE
namespace Go.Proofs.Ytokmiphgalpahaa
open Go.RowKit Go.Kt
set_option maxRecDepth 100000
variable {F : Nat → Prop} {w w' : World} {d mb : Nat} {room fuse : Int} {down : Bool} {l : List Sg}
/-- all segments but n -/
def del (n : Int) (l : List Sg) : List Sg := l.filter (fun t => decide (t.n ≠ n))
theorem del_all (n : Int) : ∀ l : List Sg, Lacks l n → del n l = l
  | [], _ => rfl
  | t :: ks, h => by
    have h1 := h t (by simp)
    have ih := del_all n ks (fun x hx => h x (by simp [hx]))
    unfold del at ih ⊢
    rw [List.filter_cons, ih]
    simp [h1]
theorem len_del {s : Sg} : ∀ l : List Sg, l.Pairwise (fun a b => a.n < b.n) → s ∈ l → (del s.n l).length + 1 = l.length
  | [], _, h => by cases h
  | t :: ks, hp, h => by
    obtain ⟨h1, h2⟩ := List.pairwise_cons.1 hp
    by_cases e : t.n = s.n
    · have e1 : del s.n (t :: ks) = del s.n ks := by simp [del, List.filter_cons, e]
      rw [e1, del_all s.n ks (fun x hx => by have := h1 x hx; omega)]
      rfl
    · have e1 : del s.n (t :: ks) = t :: del s.n ks := by simp [del, List.filter_cons, e]
      have hs : s ∈ ks := by
        rcases List.mem_cons.1 h with rfl | h3
        · exact (e rfl).elim
        · exact h3
      rw [e1, List.length_cons, len_del ks h2 hs, List.length_cons]
theorem used_del (n : Int) : ∀ l : List Sg, used (del n l) ≤ used l
  | [] => Nat.le_refl _
  | t :: ks => by
    have ih := used_del n ks
    have e2 : ∀ (t : Sg) (ks : List Sg), used (t :: ks) = t.b.length + used ks := fun t ks => by simp [used]
    by_cases e : t.n = n
    · have e1 : del n (t :: ks) = del n ks := by simp [del, List.filter_cons, e]
      rw [e1, e2]; omega
    · have e1 : del n (t :: ks) = t :: del n ks := by simp [del, List.filter_cons, e]
      rw [e1, e2, e2]; omega
theorem mem_del {n : Int} {l : List Sg} {x : Sg} : x ∈ del n l ↔ x ∈ l ∧ x.n ≠ n := by simp [del, List.mem_filter]
theorem DiskIs.drop (h : DiskIs F w d mb room fuse down l) {s : Sg} (hs : s ∈ l) (ty : TypeId) :
    ∃ w', (Builtin.delete_ #[67, 3] ty #[.map (some mb), .int .i64 s.n]).run Try.prog w = .ok (.tuple #[]) w' ∧ DiskIs F w' d mb room fuse down (del s.n l) ∧ w.grownBy w' (some mb) := by
  obtain ⟨f, hm, hf⟩ := h.map
  have h1 := (h.seg s hs).2.2.2
  obtain ⟨w', hr, hm', hmt⟩ := mapIs_del hm key3 Try.underlying67 (keyOf3 (n := s.n) ⟨by omega, h1.2⟩) ty
  have hgr := hmt.grown
  have hfs := (hf _ _).2 ⟨s, hs, rfl, rfl⟩
  rw [hfs] at hm'
  have hln := len_del l h.inc hs
  have nm : ∀ {x : Nat} {cs : Array Value} {t : TypeId}, Blk w x cs t → some mb ≠ some x := fun hk e => by
    injection e with e
    subst e
    obtain ⟨D, ⟨es, ck, hb1, _⟩, _⟩ := hm
    unfold Blk at hk
    rw [hb1] at hk
    cases hk
  refine ⟨w', hr, ⟨h.blk.grown hgr (nm h.blk), ⟨cut f (.int .i64 s.n), ?_, fun k v => ?_⟩, h.inc.filter _, ?_, h.gs.filter _, h.vs.filter _, h.Fd, h.Fm, ?_, h.room0, h.room1, ?_, ?_, h.fuse0, h.fuse1⟩, hgr⟩
  · have e : (if (some s.ptr).isSome then l.length - 1 else l.length) = (del s.n l).length := by simp; omega
    rw [e] at hm'
    exact hm'
  · unfold cut
    by_cases hk : k = .int .i64 s.n
    · rw [if_pos hk]
      refine ⟨fun e => (by cases e), ?_⟩
      rintro ⟨t, ht, e1, e2⟩
      rw [hk] at e1
      injection e1 with _ e1
      exact ((mem_del.1 ht).2 e1.symm).elim
    · rw [if_neg hk, hf]
      constructor
      · rintro ⟨t, ht, e1, e2⟩
        exact ⟨t, mem_del.2 ⟨ht, fun e => hk (by rw [e1, e])⟩, e1, e2⟩
      · rintro ⟨t, ht, e1, e2⟩
        exact ⟨t, (mem_del.1 ht).1, e1, e2⟩
  · intro t ht
    obtain ⟨c1, c2, c3⟩ := h.seg t (mem_del.1 ht).1
    exact ⟨c1.grown hgr (nm c1), Own.grown c2 hgr (fun b hb e => by
        injection e with e
        subst e
        exact own_no_map c2 hm hb), c3⟩
  · exact fun t ht => h.Fs t (mem_del.1 ht).1
  · have := h.len; omega
  · have := used_del s.n l; have := h.tot; omega
end Go.Proofs.Ytokmiphgalpahaa
