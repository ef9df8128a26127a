/- A disk in memory: its block, its map, its segments' blocks and their bytes; what a call turns. -/
import Derived.Test.YtokmiphgalpahaaW1
import Derived.Test.YtokmiphgalpahaaKtB
namespace Go.Proofs.Ytokmiphgalpahaa
open Go.RowKit Go.Kt
set_option maxRecDepth 100000

/-- nothing that lay before has turned but what F names -/
structure Turn (F : Nat → Prop) (w w' : World) : Prop where
  os : w'.os = w.os
  tape : w'.tape = w.tape
  output : w'.output = w.output
  size : w.heap.size ≤ w'.heap.size
  block : ∀ k, k < w.heap.size → ¬ F k → w'.heap[k]? = w.heap[k]?
theorem Turn.refl (F : Nat → Prop) (w : World) : Turn F w w := ⟨rfl, rfl, rfl, Nat.le_refl _, fun _ _ _ => rfl⟩
theorem Turn.trans {F G : Nat → Prop} {a b c : World} (h : Turn F a b) (k : Turn G b c) (hG : ∀ x, G x → F x ∨ a.heap.size ≤ x) : Turn F a c :=
  ⟨k.os.trans h.os, k.tape.trans h.tape, k.output.trans h.output, Nat.le_trans h.size k.size, fun i hi hn => (k.block i (Nat.lt_of_lt_of_le hi h.size) (fun hx => by
    rcases hG i hx with h1 | h1
    · exact hn h1
    · omega)).trans (h.block i hi hn)⟩
theorem Turn.of {F : Nat → Prop} {w w' : World} (h : Below w.heap.size w w') : Turn F w w' := ⟨h.os, h.tape, h.output, h.size, fun k hk _ => h.block k hk⟩
theorem Turn.bel {F : Nat → Prop} {w w' : World} (h : Turn F w w') {B : Nat} (hB : B ≤ w.heap.size) (hF : ∀ x, F x → B ≤ x) : Below B w w' :=
  ⟨h.os, h.tape, h.output, h.size, fun k hk => h.block k (by omega) (fun hx => by have := hF k hx; omega)⟩
theorem Turn.mono {F G : Nat → Prop} {w w' : World} (h : Turn F w w') (hG : ∀ x, F x → G x) : Turn G w w' := ⟨h.os, h.tape, h.output, h.size, fun k hk hn => h.block k hk (fun hx => hn (hG k hx))⟩
theorem Turn.alloc {F : Nat → Prop} {w w' : World} (h : Turn F w w') (o : Obj) : Turn F w (w'.alloc o) := h.trans (Turn.of (F := fun _ => False) (below_alloc w' o)) (fun _ hx => hx.elim)
theorem Turn.set {F : Nat → Prop} {w w' : World} (h : Turn F w w') {a : Addr} (ha : F a.block) (u : Value) : Turn F w (w'.setCell a u) :=
  ⟨h.os, h.tape, h.output, by simpa using h.size, fun k hk hn => (heap_setCell_other w' a k u (fun e => hn (e ▸ ha))).trans (h.block k hk hn)⟩

/-- a segment in memory: its number, its block, its bytes' slice; its bytes, how many are sure, whether it is kept -/
structure Sg where
  n : Int
  g : Nat
  v : Value
  b : List UInt8
  sure : Nat
  kept : Bool
def Sg.cells (s : Sg) : Array Value := #[s.v, .int .i64 s.sure, .bool s.kept]
def Sg.ptr (s : Sg) : Value := .pointer (some ⟨s.g, 0, none⟩)
def SegMap (f : Lit → Option Value) (l : List Sg) : Prop := ∀ k v, f k = some v ↔ ∃ s ∈ l, k = .int .i64 s.n ∧ v = s.ptr
def used (l : List Sg) : Nat := (l.map fun s => s.b.length).sum

structure DiskIs (F : Nat → Prop) (w : World) (d mb : Nat) (room fuse : Int) (down : Bool) (l : List Sg) : Prop where
  blk : Blk w d #[.int .i64 room, .map (some mb), .int .i64 fuse, .bool down] 69
  map : ∃ f, MapIs Try.prog 3 w mb f l.length ∧ SegMap f l
  inc : l.Pairwise (fun a b => a.n < b.n)
  seg : ∀ s ∈ l, Blk w s.g s.cells 95 ∧ Own8 5 w s.v s.b ∧ s.sure ≤ s.b.length ∧ 1 ≤ s.n ∧ s.n ≤ 9223372036854775807
  gs : l.Pairwise (fun a b => a.g ≠ b.g)
  vs : l.Pairwise (fun a b => ∀ x, a.v.ownBlock = some x → b.v.ownBlock ≠ some x)
  Fd : F d
  Fm : F mb
  Fs : ∀ s ∈ l, F s.g ∧ ∀ x, s.v.ownBlock = some x → F x
  room0 : 0 ≤ room
  room1 : room ≤ 67108864
  len : l.length ≤ 1024
  tot : (used l : Int) ≤ room
  fuse0 : -1 ≤ fuse
  fuse1 : fuse ≤ 9223372036854775807

variable {F : Nat → Prop} {w w' : World} {d mb : Nat} {room fuse : Int} {down : Bool} {l : List Sg}
theorem DiskIs.more (h : DiskIs F w d mb room fuse down l) {G : Nat → Prop} (hG : ∀ x, F x → G x) : DiskIs G w d mb room fuse down l :=
  ⟨h.blk, h.map, h.inc, h.seg, h.gs, h.vs, hG _ h.Fd, hG _ h.Fm, fun s hs => ⟨hG _ (h.Fs s hs).1, fun x hx => hG _ ((h.Fs s hs).2 x hx)⟩, h.room0, h.room1, h.len, h.tot, h.fuse0, h.fuse1⟩
/-- a step that turns nothing of the disk's -/
theorem DiskIs.keep (h : DiskIs F w d mb room fuse down l) {G : Nat → Prop} (ht : Turn G w w') (hG : ∀ x, F x → ¬ G x) : DiskIs F w' d mb room fuse down l := by
  have kb : ∀ {g : Nat} {cs : Array Value} {t : TypeId}, F g → Blk w g cs t → Blk w' g cs t := fun hg hb => (ht.block _ hb.lt (hG _ hg)).trans hb
  refine ⟨kb h.Fd h.blk, ?_, h.inc, fun s hs => ⟨kb (h.Fs s hs).1 (h.seg s hs).1, ?_, (h.seg s hs).2.2⟩, h.gs, h.vs, h.Fd, h.Fm, h.Fs, h.room0, h.room1, h.len, h.tot, h.fuse0, h.fuse1⟩
  · obtain ⟨f, hm, hf⟩ := h.map
    refine ⟨f, ?_, hf⟩
    obtain ⟨D, ⟨es, ck, hb, F1, hs, hD⟩, h2, h3⟩ := hm
    exact ⟨D, ⟨es, ck, (ht.block mb (Array.getElem?_eq_some_iff.1 hb).1 (hG _ h.Fm)).trans hb, F1, hs, hD⟩, h2, h3⟩
  · have ho := (h.seg s hs).2.1
    exact Own.keep ho fun x hx => ht.block x (ho.lt x hx) (hG _ ((h.Fs s hs).2 x hx))
theorem DiskIs.next (h : DiskIs F w d mb room fuse down l) (hb : Below w.heap.size w w') : DiskIs F w' d mb room fuse down l :=
  h.keep (Turn.of (F := fun _ => False) hb) (fun _ _ hx => hx)
/-- the cells of the disk's own block -/
theorem DiskIs.cell (h : DiskIs F w d mb room fuse down l) : w.cell? ⟨d, 0, none⟩ = some (.int .i64 room) ∧ w.cell? ⟨d, 1, none⟩ = some (.map (some mb)) ∧ w.cell? ⟨d, 2, none⟩ = some (.int .i64 fuse) ∧ w.cell? ⟨d, 3, none⟩ = some (.bool down) :=
  ⟨h.blk.cell 0, h.blk.cell 1, h.blk.cell 2, h.blk.cell 3⟩

/-- up (22): why a call is refused -/
theorem up_any (h : DiskIs F w d mb room fuse down l) : Calls Try.prog 44 #[.pointer (some ⟨d, 0, none⟩)] w fun e w' => e = .returned (.int .i64 (if down then 5 else 0)) ∧ w = w' := by
  obtain ⟨c0, c1, c2, c3⟩ := h.cell
  clear h
  cases down with
  | true =>
    go_enter Try.func44, Try.ntmps44
    go_wp2_with fail
    go_ret
    exact ⟨rfl, rfl⟩
  | false =>
    go_enter Try.func44, Try.ntmps44
    go_wp2_with fail
    go_ret
    exact ⟨rfl, rfl⟩
theorem up_nil (w : World) : Calls Try.prog 44 #[.pointer none] w fun e w' => e = .returned (.int .i64 2) ∧ w = w' := by
  go_enter Try.func44, Try.ntmps44
  go_wp2_with fail
  go_ret
  exact ⟨rfl, rfl⟩
theorem down_any (h : DiskIs F w d mb room fuse down l) : Calls Try.prog 37 #[.pointer (some ⟨d, 0, none⟩)] w fun e w' => e = .returned (.bool down) ∧ w = w' := by
  obtain ⟨c0, c1, c2, c3⟩ := h.cell
  clear h
  go_enter Try.func37, Try.ntmps37
  go_wp2_with fail
  go_ret
  exact ⟨rfl, rfl⟩
theorem down_nil (w : World) : Calls Try.prog 37 #[.pointer none] w fun e w' => e = .returned (.bool false) ∧ w = w' := by
  go_enter Try.func37, Try.ntmps37
  go_wp2_with fail
  go_ret
  exact ⟨rfl, rfl⟩
end Go.Proofs.Ytokmiphgalpahaa
