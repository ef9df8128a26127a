/- One segment of the disk changed; Sync (11). -/
import Derived.Test.YtokmiphgalpahaaW7
namespace Go.Proofs.Ytokmiphgalpahaa
open Go.RowKit Go.Kt
set_option maxRecDepth 100000
variable {F : Nat → Prop} {w w' : World} {d mb : Nat} {room fuse : Int} {down : Bool} {l : List Sg}

theorem pw_mem {α : Type} {R : α → α → Prop} {a b : α} : ∀ {l : List α}, l.Pairwise R → a ∈ l → b ∈ l → a = b ∨ R a b ∨ R b a
  | [], _, h, _ => by cases h
  | t :: ks, hp, ha, hb => by
    obtain ⟨h1, h2⟩ := List.pairwise_cons.1 hp
    rcases List.mem_cons.1 ha with rfl | ha1
    · rcases List.mem_cons.1 hb with rfl | hb1
      · exact .inl rfl
      · exact .inr (.inl (h1 b hb1))
    · rcases List.mem_cons.1 hb with rfl | hb1
      · exact .inr (.inr (h1 a ha1))
      · exact pw_mem h2 ha1 hb1
theorem DiskIs.same_n (h : DiskIs F w d mb room fuse down l) {a b : Sg} (ha : a ∈ l) (hb : b ∈ l) (e : a.n = b.n) : a = b := by
  rcases pw_mem h.inc ha hb with h1 | h1 | h1
  · exact h1
  · omega
  · omega
theorem DiskIs.g_ne (h : DiskIs F w d mb room fuse down l) {a b : Sg} (ha : a ∈ l) (hb : b ∈ l) (e : a.n ≠ b.n) : a.g ≠ b.g := by
  rcases pw_mem h.gs ha hb with h1 | h1 | h1
  · exact (e (by rw [h1])).elim
  · exact h1
  · exact fun h2 => h1 h2.symm
theorem DiskIs.v_ne (h : DiskIs F w d mb room fuse down l) {a b : Sg} (ha : a ∈ l) (hb : b ∈ l) (e : a.n ≠ b.n) {x : Nat} (hx : a.v.ownBlock = some x) : b.v.ownBlock ≠ some x := by
  rcases pw_mem h.vs ha hb with h1 | h1 | h1
  · exact (e (by rw [h1])).elim
  · exact h1 x hx
  · exact fun h2 => h1 x h2 hx
theorem blk_ty {w : World} {g : Nat} {cs cs' : Array Value} {t t' : TypeId} (h : Blk w g cs t) (h' : Blk w g cs' t') : t = t' := by
  unfold Blk at h h'
  rw [h] at h'
  injection h' with h'
  injection h'
def swap (s' : Sg) (t : Sg) : Sg := if t.n = s'.n then s' else t
theorem swap_n (s' t : Sg) : (swap s' t).n = t.n := by
  unfold swap
  split
  · rename_i h; exact h.symm
  · rfl
/-- a change of one segment: its block and its bytes -/
theorem DiskIs.turn (h : DiskIs F w d mb room fuse down l) {s s' : Sg} (hs : s ∈ l) (hn : s'.n = s.n) (hg : s'.g = s.g) (ht : Turn (fun x => x = s.g ∨ s.v.ownBlock = some x) w w')
    (hb : Blk w' s.g s'.cells 95) (ho : Own8 5 w' s'.v s'.b) (hsu : s'.sure ≤ s'.b.length) (hx : ∀ x, s'.v.ownBlock = some x → s.v.ownBlock = some x ∨ w.heap.size ≤ x)
    (hu : (used (l.map (swap s')) : Int) ≤ room) {G : Nat → Prop} (hG : ∀ x, F x → G x) (hG' : ∀ x, s'.v.ownBlock = some x → G x) : DiskIs G w' d mb room fuse down (l.map (swap s')) := by
  obtain ⟨b1, b2, b3, b4, b5⟩ := h.seg s hs
  have nb : ∀ {x : Nat} {cs : Array Value} {t : TypeId}, Blk w x cs t → t ≠ 95 → t ≠ 5 → Blk w' x cs t := fun hk h1 h2 => (ht.block _ hk.lt (by
    rintro (rfl | h3)
    · exact h1 (blk_ty hk b1)
    · exact own_no_blk b2 hk (fun e => h2 e.symm) h3)).trans hk
  have key : ∀ t ∈ l, (t.n = s'.n ∧ swap s' t = s' ∧ t = s) ∨ (t.n ≠ s'.n ∧ swap s' t = t ∧ t.n ≠ s.n) := fun t htl => by
    by_cases e : t.n = s'.n
    · exact .inl ⟨e, if_pos e, h.same_n htl hs (e.trans hn)⟩
    · exact .inr ⟨e, if_neg e, fun e' => e (e'.trans hn.symm)⟩
  have kg : ∀ t ∈ l, (swap s' t).g = t.g := fun t htl => by
    rcases key t htl with ⟨_, e, rfl⟩ | ⟨_, e, _⟩
    · rw [e, hg]
    · rw [e]
  refine ⟨nb h.blk (by decide) (by decide), ?_, ?_, ?_, ?_, ?_, hG _ h.Fd, hG _ h.Fm, ?_, h.room0, h.room1, by rw [List.length_map]; exact h.len, hu, h.fuse0, h.fuse1⟩
  · obtain ⟨f, hm, hf⟩ := h.map
    refine ⟨f, ?_, fun k v => ⟨fun hk => ?_, ?_⟩⟩
    · rw [List.length_map]
      have hm' := hm
      obtain ⟨D, ⟨es, ck, hb1, F1, hs1, hD⟩, h2, h3⟩ := hm
      refine ⟨D, ⟨es, ck, (ht.block mb (Array.getElem?_eq_some_iff.1 hb1).1 ?_).trans hb1, F1, hs1, hD⟩, h2, h3⟩
      rintro (rfl | h3)
      · unfold Blk at b1
        rw [b1] at hb1
        cases hb1
      · exact own_no_map b2 hm' h3
    · obtain ⟨t, htl, e1, e2⟩ := (hf k v).1 hk
      refine ⟨swap s' t, List.mem_map.2 ⟨t, htl, rfl⟩, by rw [swap_n]; exact e1, ?_⟩
      rw [e2]
      unfold Sg.ptr
      rw [kg t htl]
    · rintro ⟨t', ht', e1, e2⟩
      obtain ⟨t, htl, rfl⟩ := List.mem_map.1 ht'
      refine (hf k v).2 ⟨t, htl, by rw [e1, swap_n], ?_⟩
      rw [e2]
      unfold Sg.ptr
      rw [kg t htl]
  · rw [List.pairwise_map]
    exact h.inc.imp fun hab => by rw [swap_n, swap_n]; exact hab
  · intro t' ht'
    obtain ⟨t, htl, rfl⟩ := List.mem_map.1 ht'
    rcases key t htl with ⟨_, e, rfl⟩ | ⟨_, e, hne⟩
    · rw [e, hg, hn]
      exact ⟨hb, ho, hsu, b4, b5⟩
    · rw [e]
      obtain ⟨c1, c2, c3⟩ := h.seg t htl
      refine ⟨(ht.block _ c1.lt ?_).trans c1, Own.keep c2 fun x hx1 => ht.block x (c2.lt x hx1) ?_, c3⟩
      · rintro (h3 | h3)
        · exact h.g_ne htl hs hne h3
        · exact own_no_blk b2 c1 (by decide) h3
      · rintro (rfl | h3)
        · exact own_no_blk c2 b1 (by decide) hx1
        · exact h.v_ne htl hs hne hx1 h3
  · rw [List.pairwise_map]
    refine h.inc.imp_of_mem fun {a b} ha hb hab => ?_
    rw [kg a ha, kg b hb]
    exact h.g_ne ha hb (by omega)
  · rw [List.pairwise_map]
    refine h.inc.imp_of_mem fun {a b} ha hb hab x hx1 hx2 => ?_
    rcases key a ha with ⟨q1, q2, q3⟩ | ⟨q1, q2, q3⟩ <;> rcases key b hb with ⟨r1, r2, r3⟩ | ⟨r1, r2, r3⟩ <;> rw [q2] at hx1 <;> rw [r2] at hx2
    · omega
    · rcases hx x hx1 with h5 | h5
      · exact h.v_ne hs hb (fun e => r3 e.symm) h5 hx2
      · have := (h.seg b hb).2.1.lt x hx2
        omega
    · rcases hx x hx2 with h5 | h5
      · exact h.v_ne ha hs q3 hx1 h5
      · have := (h.seg a ha).2.1.lt x hx1
        omega
    · exact h.v_ne ha hb (by omega) hx1 hx2
  · intro t' ht'
    obtain ⟨t, htl, rfl⟩ := List.mem_map.1 ht'
    rcases key t htl with ⟨_, e, rfl⟩ | ⟨_, e, hne⟩
    · rw [e, hg]
      exact ⟨hG _ (h.Fs t htl).1, hG'⟩
    · rw [e]
      exact ⟨hG _ (h.Fs t htl).1, fun x hx1 => hG _ ((h.Fs t htl).2 x hx1)⟩
end Go.Proofs.Ytokmiphgalpahaa
