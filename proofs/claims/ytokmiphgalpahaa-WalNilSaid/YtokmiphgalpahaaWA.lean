/- A new segment in the disk's map. -/
import Derived.Test.YtokmiphgalpahaaW9
namespace Go.Proofs.Ytokmiphgalpahaa
open Go.RowKit Go.Kt
set_option maxRecDepth 100000
variable {F : Nat → Prop} {w w' : World} {d mb : Nat} {room fuse : Int} {down : Bool} {l : List Sg}

/-- a segment put into its place -/
def ins (s : Sg) : List Sg → List Sg
  | [] => [s]
  | t :: ks => if t.n < s.n then t :: ins s ks else s :: t :: ks
theorem mem_ins (s x : Sg) : ∀ l, x ∈ ins s l ↔ x = s ∨ x ∈ l
  | [] => by simp [ins]
  | t :: ks => by
    unfold ins
    split
    · rw [List.mem_cons, mem_ins s x ks, List.mem_cons]
      constructor
      · rintro (h | h | h)
        · exact .inr (.inl h)
        · exact .inl h
        · exact .inr (.inr h)
      · rintro (h | h | h)
        · exact .inr (.inl h)
        · exact .inl h
        · exact .inr (.inr h)
    · rw [List.mem_cons]
theorem len_ins (s : Sg) : ∀ l, (ins s l).length = l.length + 1
  | [] => rfl
  | t :: ks => by
    unfold ins
    split
    · rw [List.length_cons, len_ins s ks, List.length_cons]
    · rfl
theorem used_ins (s : Sg) : ∀ l, used (ins s l) = s.b.length + used l
  | [] => rfl
  | t :: ks => by
    have e2 : ∀ (t : Sg) (ks : List Sg), used (t :: ks) = t.b.length + used ks := fun t ks => by simp [used]
    unfold ins
    split
    · rw [e2, used_ins s ks, e2]; omega
    · rw [e2]
/-- a relation that holds between the new one and each of the others, both ways -/
theorem pw_ins {R : Sg → Sg → Prop} (s : Sg) : ∀ l : List Sg, l.Pairwise R → (∀ t ∈ l, R t s ∧ R s t) → (ins s l).Pairwise R
  | [], _, _ => by simp [ins]
  | t :: ks, hp, h => by
    obtain ⟨h1, h2⟩ := List.pairwise_cons.1 hp
    unfold ins
    split
    · refine List.pairwise_cons.2 ⟨fun x hx => ?_, pw_ins s ks h2 (fun x hx => h x (by simp [hx]))⟩
      rcases (mem_ins s x ks).1 hx with rfl | hx
      · exact (h t (by simp)).1
      · exact h1 x hx
    · exact List.pairwise_cons.2 ⟨fun x hx => (h x hx).2, hp⟩
theorem inc_ins (s : Sg) : ∀ l : List Sg, l.Pairwise (fun a b => a.n < b.n) → Lacks l s.n → (ins s l).Pairwise (fun a b => a.n < b.n)
  | [], _, _ => by simp [ins]
  | t :: ks, hp, h => by
    obtain ⟨h1, h2⟩ := List.pairwise_cons.1 hp
    unfold ins
    split
    · rename_i hlt
      refine List.pairwise_cons.2 ⟨fun x hx => ?_, inc_ins s ks h2 (fun x hx => h x (by simp [hx]))⟩
      rcases (mem_ins s x ks).1 hx with rfl | hx
      · exact hlt
      · exact h1 x hx
    · rename_i hlt
      have hne := h t (by simp)
      have hlt' : s.n < t.n := by omega
      refine List.pairwise_cons.2 ⟨fun x hx => ?_, hp⟩
      rcases List.mem_cons.1 hx with rfl | hx
      · exact hlt'
      · have := h1 x hx
        omega
def fresh (n : Int) (g : Nat) : Sg := ⟨n, g, .slice none 0 0, [], 0, false⟩
/-- 'd.segs[n] = s' with a new segment -/
theorem DiskIs.put (h : DiskIs F w d mb room fuse down l) {n : Int} (hl : Lacks l n) (h1 : 1 ≤ n) (h2 : n ≤ 9223372036854775807) (hlen : l.length < 1024) {g : Nat} (hb : Blk w g (fresh n g).cells 95) (hg : ∀ s ∈ l, s.g ≠ g) {G : Nat → Prop} (hG : ∀ x, F x → G x) (hG' : G g) :
    ∃ w', (Instr.mapUpdate 67 (.map (some mb)) (.int .i64 n) (.pointer (some ⟨g, 0, none⟩))).run Try.prog w = .ok () w' ∧ DiskIs G w' d mb room fuse down (ins (fresh n g) l) ∧ w.grownBy w' (some mb) := by
  obtain ⟨f, hm, hf⟩ := h.map
  have hno : f (.int .i64 n) = none := by
    cases he : f (.int .i64 n) with
    | none => rfl
    | some v =>
      obtain ⟨s, hs, e1, _⟩ := (hf _ _).1 he
      injection e1 with _ e1
      exact (hl s hs e1.symm).elim
  obtain ⟨w', hr, hm', hgr⟩ := hm.put key3 Try.underlying67 (by unfold maxLen; omega) (.pointer (some ⟨g, 0, none⟩)) (keyOf3 ⟨by omega, h2⟩) (show Go.WideAt.IsKeyLit (.int .i64 n) from trivial)
  rw [hno] at hm'
  have nm : ∀ {x : Nat} {cs : Array Value} {t : TypeId}, Blk w x cs t → some mb ≠ some x := fun hk e => by
    injection e with e
    subst e
    obtain ⟨D, ⟨es, ck, hb1, _⟩, _⟩ := hm
    unfold Blk at hk
    rw [hb1] at hk
    cases hk
  have old := hg
  refine ⟨w', hr, ⟨h.blk.grown hgr (nm h.blk), ⟨upd f (.int .i64 n) (.pointer (some ⟨g, 0, none⟩)), ?_, fun k v => ?_⟩, inc_ins _ _ h.inc hl, ?_, ?_, ?_, hG _ h.Fd, hG _ h.Fm, ?_, h.room0, h.room1, by rw [len_ins]; omega, ?_, h.fuse0, h.fuse1⟩, hgr⟩
  · rw [len_ins]
    exact hm'
  · unfold upd
    by_cases hk : k = .int .i64 n
    · rw [if_pos hk]
      constructor
      · intro e
        injection e with e
        exact ⟨fresh n g, (mem_ins _ _ _).2 (.inl rfl), hk, e.symm⟩
      · rintro ⟨s, hs, e1, e2⟩
        rcases (mem_ins _ _ _).1 hs with rfl | hs
        · rw [e2]; rfl
        · rw [hk] at e1
          injection e1 with _ e1
          exact (hl s hs e1.symm).elim
    · rw [if_neg hk, hf]
      constructor
      · rintro ⟨s, hs, e1, e2⟩
        exact ⟨s, (mem_ins _ _ _).2 (.inr hs), e1, e2⟩
      · rintro ⟨s, hs, e1, e2⟩
        rcases (mem_ins _ _ _).1 hs with rfl | hs
        · exact (hk e1).elim
        · exact ⟨s, hs, e1, e2⟩
  · intro s hs
    rcases (mem_ins _ _ _).1 hs with rfl | hs
    · exact ⟨hb.grown hgr (nm hb), own_nil _ _ _, Nat.le_refl _, h1, h2⟩
    · obtain ⟨c1, c2, c3⟩ := h.seg s hs
      exact ⟨c1.grown hgr (nm c1), Own.grown c2 hgr (fun b hb e => by
        injection e with e
        subst e
        exact own_no_map c2 hm hb), c3⟩
  · exact pw_ins _ _ h.gs fun t ht => ⟨old t ht, fun e => old t ht e.symm⟩
  · exact pw_ins _ _ h.vs fun t ht => ⟨fun x _ e => (by cases e), fun x e => (by cases e)⟩
  · intro s hs
    rcases (mem_ins _ _ _).1 hs with rfl | hs
    · exact ⟨hG', fun x e => (by cases e)⟩
    · exact ⟨hG _ (h.Fs s hs).1, fun x e => hG _ ((h.Fs s hs).2 x e)⟩
  · rw [used_ins]
    have := h.tot
    show ((([] : List UInt8).length + used l : Nat) : Int) ≤ room
    rw [List.length_nil, Nat.zero_add]
    exact this
end Go.Proofs.Ytokmiphgalpahaa
