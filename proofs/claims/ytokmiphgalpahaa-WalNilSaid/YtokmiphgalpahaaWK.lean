/- What a crash leaves (plain), a row cut, the disk's footprint made tight. -/
import Derived.Test.YtokmiphgalpahaaWJ
namespace Go.Proofs.Ytokmiphgalpahaa
open Go.RowKit Go.Kt
set_option maxRecDepth 100000
variable {F : Nat → Prop} {w w' : World} {d mb : Nat} {room fuse : Int} {down : Bool} {l : List Sg}

def cutV (v : Value) (k : Nat) : Value := match v with
  | .slice a _ cap => .slice a k cap
  | v => v
theorem cutV_block (v : Value) (k : Nat) : (cutV v k).ownBlock = v.ownBlock := by
  cases v <;> try rfl
  rename_i a n cap
  cases a <;> rfl
theorem own8_cut {w : World} {v : Value} {b : List UInt8} (h : Own8 5 w v b) (k : Nat) (hk : k ≤ b.length) : Own8 5 w (cutV v k) (b.take k) := by
  have hlen : (b.take k).length = k := by simp; omega
  unfold Own8
  rw [hlen]
  refine ⟨by simp [hlen]; omega, ?_⟩
  rcases h.2 with ⟨rfl, h0⟩ | ⟨g, cap, cur, rfl, hb, hg, hn, hm, hcs, ht⟩
  · left
    have : k = 0 := by omega
    subst this
    exact ⟨rfl, rfl⟩
  · refine .inr ⟨g, cap, cur, rfl, hb, hg, by omega, hm, hcs, ?_⟩
    have h2 := congrArg (List.take k) ht
    rw [List.take_take] at h2
    rw [List.map_take, ← h2, show min k (b.length * 1) = k * 1 by omega]
def moreOf (keep : List Int) (i m : Nat) : Nat := match keep[i]? with
  | some k => min k.toNat m
  | none => 0
theorem moreOf_le (keep : List Int) (i m : Nat) : moreOf keep i m ≤ m := by
  unfold moreOf
  split
  · exact Nat.min_le_right _ _
  · omega
def keepN (keep : List Int) (i : Nat) (s : Sg) : Nat := s.sure + moreOf keep i (s.b.length - s.sure)
def Sg.cutTo (s : Sg) (k : Nat) (kept : Bool) : Sg := { s with v := cutV s.v k, b := s.b.take k, sure := k, kept := kept }
def crashL (keep : List Int) : Nat → List Sg → List Sg
  | _, [] => []
  | i, s :: t => if keepN keep i s = 0 ∧ s.kept = false then crashL keep (i + 1) t else s.cutTo (keepN keep i s) true :: crashL keep (i + 1) t
theorem crashL_append (keep : List Int) : ∀ (i : Nat) (a b : List Sg), crashL keep i (a ++ b) = crashL keep i a ++ crashL keep (i + a.length) b
  | i, [], b => by simp [crashL]
  | i, s :: t, b => by
    have ih := crashL_append keep (i + 1) t b
    have e : ∀ t', crashL keep i (s :: t') = if keepN keep i s = 0 ∧ s.kept = false then crashL keep (i + 1) t' else s.cutTo (keepN keep i s) true :: crashL keep (i + 1) t' := fun _ => rfl
    rw [List.cons_append, e, e, ih, List.length_cons, show i + 1 + t.length = i + (t.length + 1) by omega]
    split
    · rfl
    · rfl
theorem swap_mid {s s' : Sg} (hn : s'.n = s.n) (a b : List Sg) (h : (a ++ s :: b).Pairwise (fun x y => x.n < y.n)) : (a ++ s :: b).map (swap s') = a ++ s' :: b := by
  obtain ⟨h1, h2, h3⟩ := List.pairwise_append.1 h
  obtain ⟨h4, h5⟩ := List.pairwise_cons.1 h2
  have ne : ∀ (k : List Sg), (∀ t ∈ k, t.n ≠ s.n) → k.map (swap s') = k := fun k hk => by
    conv => rhs; rw [← List.map_id k]
    refine List.map_congr_left fun t ht => ?_
    unfold swap
    rw [if_neg (by rw [hn]; exact hk t ht)]
    rfl
  rw [List.map_append, List.map_cons, ne a (fun t ht => by have := h3 t ht s (by simp); omega), ne b (fun t ht => by have := h4 t ht; omega)]
  have : swap s' s = s' := if_pos hn.symm
  rw [this]
theorem del_mid {s : Sg} (a b : List Sg) (h : (a ++ s :: b).Pairwise (fun x y => x.n < y.n)) : del s.n (a ++ s :: b) = a ++ b := by
  obtain ⟨h1, h2, h3⟩ := List.pairwise_append.1 h
  obtain ⟨h4, h5⟩ := List.pairwise_cons.1 h2
  have ne : ∀ (k : List Sg), (∀ t ∈ k, t.n ≠ s.n) → del s.n k = k := fun k hk => by
    unfold del
    rw [List.filter_eq_self]
    intro t ht
    simpa using hk t ht
  have e : del s.n (a ++ s :: b) = del s.n a ++ del s.n (s :: b) := by simp [del, List.filter_append]
  have e2 : del s.n (s :: b) = del s.n b := by simp [del, List.filter_cons]
  rw [e, e2, ne a (fun t ht => by have := h3 t ht s (by simp); omega), ne b (fun t ht => by have := h4 t ht; omega)]
theorem used_mid (a b : List Sg) (s : Sg) : used (a ++ s :: b) = used a + s.b.length + used b := by simp [used]; omega
theorem DiskIs.tight (h : DiskIs F w d mb room fuse down l) : DiskIs (fun x => F x ∧ x < w.heap.size) w d mb room fuse down l := by
  refine ⟨h.blk, h.map, h.inc, h.seg, h.gs, h.vs, ⟨h.Fd, h.blk.lt⟩, ⟨h.Fm, ?_⟩, fun s hs => ⟨⟨(h.Fs s hs).1, (h.seg s hs).1.lt⟩, fun x hx => ⟨(h.Fs s hs).2 x hx, (h.seg s hs).2.1.lt x hx⟩⟩, h.room0, h.room1, h.len, h.tot, h.fuse0, h.fuse1⟩
  obtain ⟨f, hm, _⟩ := h.map
  exact hm.lt
theorem DiskIs.look1 (h : DiskIs F w d mb room fuse down l) {s : Sg} (hs : s ∈ l) : (Instr.lookup 67 (.map (some mb)) (.int .i64 s.n) false).run Try.prog w = .ok s.ptr w := by
  obtain ⟨f, hm, hf⟩ := h.map
  have h1 := (h.seg s hs).2.2.2
  rw [hm.look1 key3 Try.underlying67 (zero52 w) (keyOf3 ⟨by omega, by omega⟩), (hf _ _).2 ⟨s, hs, rfl, rfl⟩]
  rfl
end Go.Proofs.Ytokmiphgalpahaa
