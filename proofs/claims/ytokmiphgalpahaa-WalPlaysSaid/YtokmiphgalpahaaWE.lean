/- The sorted keys of a map of the disk: maps.Keys (26) and slices.Sorted (25), as the calls return. A disk in memory: its block, its map, its segments' blocks and their bytes; what a call turns. The disk's New (8), power (23), find (24). The disk's find (24). slices.Clone (27). The disk's Used (21). The disk's Read (14), Fuse (12), Sync (11). One segment of the disk changed; Sync (11). Sync (11). A new segment in the disk's map. Append (10). Append (10) to a segment that is there. Append (10) at the end of the power. A key taken out of a map. -/
import Derived.Test.YtokmiphgalpahaaKtS
import Derived.Test.YtokmiphgalpahaaKtM
import Derived.Test.YtokmiphgalpahaaKtB
import Derived.Deep.DeepCutAuto
import Derived.Lib.SliceRun
import Derived.Maps.RangeWalk
import Derived.Test.YtokmiphgalpahaaKtL
import Derived.BigQuiet
import Derived.Deep.QuietTactic
import Derived.Deep.RegionHeld3
import Derived.Deep.DeepFit
import Derived.Deep.CutBlock
import Derived.Deep.RegionLaw
namespace Go.Proofs.Ytokmiphgalpahaa
open Go.RowKit Go.Maps Go.Sort Go.Shelf Go.Proofs Go.Kt
set_option maxRecDepth 100000

theorem sortsA (m : Nat) : AnyZI.SortsIn Try.prog sortedA_ren Fence.wide m :=
  ⟨fun blk off cap ss W hH hblk hsz => callsIn_wide.2 (AnyM.slices_Sort_int sortA blk off cap ss W hH hblk hsz),
   fun p cap W => callsIn_wide.2 (AnyM.slices_Sort_int_none sortA p cap W)⟩

theorem keys_any (mb : Option Nat) (W : World) : Calls Try.prog 46 #[.map mb] W fun e w' => e = .returned (.func (.func 56) #[] #[.pointer (some ⟨W.heap.size, 0, none⟩)]) ∧ w' = W.alloc (.cells #[.map mb] 67) := by
  refine (callsIn_wide (n := 5)).1 ?_
  have := AnyZI.keys_in keysA Fence.wide 5 trivial rfl mb W
  exact this

/-- slices.Sorted of the iterator that maps.Keys has handed back for the map b: a new row of the map's keys, sorted. -/
theorem sorted_any {H : Type} (b nn : Nat) (D0 : DataW H) (R : Value → Option (DataW H × List MemPlace)) (w : World) (hown : w.ownsMap Try.prog 3 R b nn D0) (hmax : Maps.size D0 ≤ maxLen) (hbytes : Maps.size D0 * 8 ≤ 140737488355328) :
    Calls Try.prog 45 #[.func (.func 56) #[] #[.pointer (some ⟨w.heap.size, 0, none⟩)]] (w.alloc (.cells #[.map (some b)] 67)) fun e w' => ∃ (v : Value) (ss : List Int), e = .returned v ∧ ss.Perm (intKeys D0) ∧
      w'.ownsRow (w.heap.size + 1) 3 1 v ss.length ((ss.mergeSort (fun x y => decide (x ≤ y))).map encZ) ∧ (v = .slice none 0 0 ↔ ss = []) ∧ Below (w.heap.size + 1) (w.alloc (.cells #[.map (some b)] 67)) w' := by
  refine (callsIn_wide (n := 5)).1 ?_
  have hbl := hown.lt
  have hseq : SeqGives Fence.wide 2 Try.prog 56 #[.pointer (some ⟨w.heap.size, 0, none⟩)] encZ (fun ss => ss.Perm (intKeys D0)) (Maps.size D0) (w.alloc (.cells #[.map (some b)] 67)) :=
    AnyZI.keys_gives (ρ := keysA_ren) { keysA with } Fence.wide _ trivial rfl (by omega) w.heap.size b nn D0 _ (by simp) (by simp) (by
      obtain ⟨es, clock, hb, Ft, hs, hD⟩ := hown
      exact ⟨es, clock, (Below.heap_alloc _ _ b hbl).trans hb, Ft, hs, hD⟩)
  have cS := AnyZI.sorted_in sortedA Fence.wide 5 trivial trivial trivial trivial rfl (by omega) (sortsA _) (enters_of Try.func55 (by kernel_rfl) rfl) 56 #[.pointer (some ⟨w.heap.size, 0, none⟩)] trivial (enters_of Try.func56 (by kernel_rfl) rfl) _ _ hmax hbytes _ hseq
  change CallsIn _ _ Try.prog 45 _ _ _ at cS
  refine cS.mono ?_
  rintro e w' ⟨v, ss, rfl, hS, hrow, hnil, hb⟩
  refine ⟨v, ss, rfl, hS, ?_, hnil, ?_⟩
  · have h26 : sortedA_ren.t 26 = 3 := rfl
    rw [h26] at hrow
    simpa using hrow
  · simpa using hb
end Go.Proofs.Ytokmiphgalpahaa
namespace Go.Proofs.Ytokmiphgalpahaa
open Go.RowKit Go.Kt
set_option maxRecDepth 100000

/-- nothing that lay before has turned but what F names -/
structure Turn (F : Nat → Prop) (w w' : World) : Prop where
  os : w'.os = w.os
  tape : w'.tape = w.tape
  output : w'.output = w.output
  size : w.heap.size ≤ w'.heap.size
  block : ∀ k, k < w.heap.size → ¬ F k → w'.heap[k]? = w.heap[k]?
theorem Turn.refl (F : Nat → Prop) (w : World) : Turn F w w := ⟨rfl, rfl, rfl, Nat.le_refl _, fun _ _ _ => rfl⟩
theorem Turn.trans {F G : Nat → Prop} {a b c : World} (h : Turn F a b) (k : Turn G b c) (hG : ∀ x, G x → F x ∨ a.heap.size ≤ x) : Turn F a c :=
  ⟨k.os.trans h.os, k.tape.trans h.tape, k.output.trans h.output, Nat.le_trans h.size k.size, fun i hi hn => (k.block i (Nat.lt_of_lt_of_le hi h.size) (fun hx => by
    rcases hG i hx with h1 | h1
    · exact hn h1
    · omega)).trans (h.block i hi hn)⟩
theorem Turn.of {F : Nat → Prop} {w w' : World} (h : Below w.heap.size w w') : Turn F w w' := ⟨h.os, h.tape, h.output, h.size, fun k hk _ => h.block k hk⟩
theorem Turn.bel {F : Nat → Prop} {w w' : World} (h : Turn F w w') {B : Nat} (hB : B ≤ w.heap.size) (hF : ∀ x, F x → B ≤ x) : Below B w w' :=
  ⟨h.os, h.tape, h.output, h.size, fun k hk => h.block k (by omega) (fun hx => by have := hF k hx; omega)⟩
theorem Turn.mono {F G : Nat → Prop} {w w' : World} (h : Turn F w w') (hG : ∀ x, F x → G x) : Turn G w w' := ⟨h.os, h.tape, h.output, h.size, fun k hk hn => h.block k hk (fun hx => hn (hG k hx))⟩
theorem Turn.alloc {F : Nat → Prop} {w w' : World} (h : Turn F w w') (o : Obj) : Turn F w (w'.alloc o) := h.trans (Turn.of (F := fun _ => False) (below_alloc w' o)) (fun _ hx => hx.elim)
theorem Turn.set {F : Nat → Prop} {w w' : World} (h : Turn F w w') {a : Addr} (ha : F a.block) (u : Value) : Turn F w (w'.setCell a u) :=
  ⟨h.os, h.tape, h.output, by simpa using h.size, fun k hk hn => (heap_setCell_other w' a k u (fun e => hn (e ▸ ha))).trans (h.block k hk hn)⟩

/-- a segment in memory: its number, its block, its bytes' slice; its bytes, how many are sure, whether it is kept -/
structure Sg where
  n : Int
  g : Nat
  v : Value
  b : List UInt8
  sure : Nat
  kept : Bool
def Sg.cells (s : Sg) : Array Value := #[s.v, .int .i64 s.sure, .bool s.kept]
def Sg.ptr (s : Sg) : Value := .pointer (some ⟨s.g, 0, none⟩)
def SegMap (f : Lit → Option Value) (l : List Sg) : Prop := ∀ k v, f k = some v ↔ ∃ s ∈ l, k = .int .i64 s.n ∧ v = s.ptr
def used (l : List Sg) : Nat := (l.map fun s => s.b.length).sum

structure DiskIs (F : Nat → Prop) (w : World) (d mb : Nat) (room fuse : Int) (down : Bool) (l : List Sg) : Prop where
  blk : Blk w d #[.int .i64 room, .map (some mb), .int .i64 fuse, .bool down] 69
  map : ∃ f, MapIs Try.prog 3 w mb f l.length ∧ SegMap f l
  inc : l.Pairwise (fun a b => a.n < b.n)
  seg : ∀ s ∈ l, Blk w s.g s.cells 95 ∧ Own8 5 w s.v s.b ∧ s.sure ≤ s.b.length ∧ 1 ≤ s.n ∧ s.n ≤ 9223372036854775807
  gs : l.Pairwise (fun a b => a.g ≠ b.g)
  vs : l.Pairwise (fun a b => ∀ x, a.v.ownBlock = some x → b.v.ownBlock ≠ some x)
  Fd : F d
  Fm : F mb
  Fs : ∀ s ∈ l, F s.g ∧ ∀ x, s.v.ownBlock = some x → F x
  room0 : 0 ≤ room
  room1 : room ≤ 67108864
  len : l.length ≤ 1024
  tot : (used l : Int) ≤ room
  fuse0 : -1 ≤ fuse
  fuse1 : fuse ≤ 9223372036854775807

variable {F : Nat → Prop} {w w' : World} {d mb : Nat} {room fuse : Int} {down : Bool} {l : List Sg}
theorem DiskIs.more (h : DiskIs F w d mb room fuse down l) {G : Nat → Prop} (hG : ∀ x, F x → G x) : DiskIs G w d mb room fuse down l :=
  ⟨h.blk, h.map, h.inc, h.seg, h.gs, h.vs, hG _ h.Fd, hG _ h.Fm, fun s hs => ⟨hG _ (h.Fs s hs).1, fun x hx => hG _ ((h.Fs s hs).2 x hx)⟩, h.room0, h.room1, h.len, h.tot, h.fuse0, h.fuse1⟩
/-- a step that turns nothing of the disk's -/
theorem DiskIs.keep (h : DiskIs F w d mb room fuse down l) {G : Nat → Prop} (ht : Turn G w w') (hG : ∀ x, F x → ¬ G x) : DiskIs F w' d mb room fuse down l := by
  have kb : ∀ {g : Nat} {cs : Array Value} {t : TypeId}, F g → Blk w g cs t → Blk w' g cs t := fun hg hb => (ht.block _ hb.lt (hG _ hg)).trans hb
  refine ⟨kb h.Fd h.blk, ?_, h.inc, fun s hs => ⟨kb (h.Fs s hs).1 (h.seg s hs).1, ?_, (h.seg s hs).2.2⟩, h.gs, h.vs, h.Fd, h.Fm, h.Fs, h.room0, h.room1, h.len, h.tot, h.fuse0, h.fuse1⟩
  · obtain ⟨f, hm, hf⟩ := h.map
    refine ⟨f, ?_, hf⟩
    obtain ⟨D, ⟨es, ck, hb, F1, hs, hD⟩, h2, h3⟩ := hm
    exact ⟨D, ⟨es, ck, (ht.block mb (Array.getElem?_eq_some_iff.1 hb).1 (hG _ h.Fm)).trans hb, F1, hs, hD⟩, h2, h3⟩
  · have ho := (h.seg s hs).2.1
    exact Own.keep ho fun x hx => ht.block x (ho.lt x hx) (hG _ ((h.Fs s hs).2 x hx))
theorem DiskIs.next (h : DiskIs F w d mb room fuse down l) (hb : Below w.heap.size w w') : DiskIs F w' d mb room fuse down l :=
  h.keep (Turn.of (F := fun _ => False) hb) (fun _ _ hx => hx)
/-- the cells of the disk's own block -/
theorem DiskIs.cell (h : DiskIs F w d mb room fuse down l) : w.cell? ⟨d, 0, none⟩ = some (.int .i64 room) ∧ w.cell? ⟨d, 1, none⟩ = some (.map (some mb)) ∧ w.cell? ⟨d, 2, none⟩ = some (.int .i64 fuse) ∧ w.cell? ⟨d, 3, none⟩ = some (.bool down) :=
  ⟨h.blk.cell 0, h.blk.cell 1, h.blk.cell 2, h.blk.cell 3⟩

/-- up (22): why a call is refused -/
theorem up_any (h : DiskIs F w d mb room fuse down l) : Calls Try.prog 44 #[.pointer (some ⟨d, 0, none⟩)] w fun e w' => e = .returned (.int .i64 (if down then 5 else 0)) ∧ w = w' := by
  obtain ⟨c0, c1, c2, c3⟩ := h.cell
  clear h
  cases down with
  | true =>
    go_enter Try.func44, Try.ntmps44
    go_wp2_with fail
    go_ret
    exact ⟨rfl, rfl⟩
  | false =>
    go_enter Try.func44, Try.ntmps44
    go_wp2_with fail
    go_ret
    exact ⟨rfl, rfl⟩
theorem up_nil (w : World) : Calls Try.prog 44 #[.pointer none] w fun e w' => e = .returned (.int .i64 2) ∧ w = w' := by
  go_enter Try.func44, Try.ntmps44
  go_wp2_with fail
  go_ret
  exact ⟨rfl, rfl⟩
theorem down_any (h : DiskIs F w d mb room fuse down l) : Calls Try.prog 37 #[.pointer (some ⟨d, 0, none⟩)] w fun e w' => e = .returned (.bool down) ∧ w = w' := by
  obtain ⟨c0, c1, c2, c3⟩ := h.cell
  clear h
  go_enter Try.func37, Try.ntmps37
  go_wp2_with fail
  go_ret
  exact ⟨rfl, rfl⟩
theorem down_nil (w : World) : Calls Try.prog 37 #[.pointer none] w fun e w' => e = .returned (.bool false) ∧ w = w' := by
  go_enter Try.func37, Try.ntmps37
  go_wp2_with fail
  go_ret
  exact ⟨rfl, rfl⟩
end Go.Proofs.Ytokmiphgalpahaa
namespace Go.Proofs.Ytokmiphgalpahaa
open Go.RowKit Go.Kt
set_option maxRecDepth 100000
variable {F : Nat → Prop} {w w' : World} {d mb : Nat} {room fuse : Int} {down : Bool} {l : List Sg}

/-- a change of the disk's own block -/
theorem DiskIs.own (h : DiskIs F w d mb room fuse down l) {fuse' : Int} {down' : Bool} (hb : Blk w' d #[.int .i64 room, .map (some mb), .int .i64 fuse', .bool down'] 69) (ht : Turn (· = d) w w') (h0 : -1 ≤ fuse') (h1 : fuse' ≤ 9223372036854775807) : DiskIs F w' d mb room fuse' down' l := by
  have kb : ∀ {g : Nat} {cs : Array Value}, Blk w g cs 95 → Blk w' g cs 95 := fun hg => (ht.block _ hg.lt (by
    rintro rfl
    have := h.blk
    unfold Blk at hg this
    rw [hg] at this
    cases this)).trans hg
  refine ⟨hb, ?_, h.inc, fun s hs => ⟨kb (h.seg s hs).1, ?_, (h.seg s hs).2.2⟩, h.gs, h.vs, h.Fd, h.Fm, h.Fs, h.room0, h.room1, h.len, h.tot, h0, h1⟩
  · obtain ⟨f, hm, hf⟩ := h.map
    refine ⟨f, ?_, hf⟩
    obtain ⟨D, ⟨es, ck, hb1, F1, hs, hD⟩, h2, h3⟩ := hm
    refine ⟨D, ⟨es, ck, (ht.block mb (Array.getElem?_eq_some_iff.1 hb1).1 ?_).trans hb1, F1, hs, hD⟩, h2, h3⟩
    rintro rfl
    have := h.blk
    unfold Blk at this
    rw [hb1] at this
    cases this
  · have ho := (h.seg s hs).2.1
    exact Own.keep ho fun x hx => ht.block x (ho.lt x hx) (by
      rintro rfl
      exact own_no_blk ho h.blk (by decide) hx)

theorem bel_alloc {x y : World} {o : Obj} (h : Below x.heap.size x y) : Below x.heap.size x (y.alloc o) := h.alloc h.size o
def powF (fuse : Int) : Int := if 0 < fuse then fuse - 1 else fuse
theorem power_any (h : DiskIs F w d mb room fuse false l) : Calls Try.prog 50 #[.pointer (some ⟨d, 0, none⟩)] w fun e w' => e = .returned (.bool (decide (fuse ≠ 0))) ∧ DiskIs F w' d mb room (powF fuse) (decide (fuse = 0)) l ∧ Turn (· = d) w w' := by
  obtain ⟨c0, c1, c2, c3⟩ := h.cell
  have hb := h.blk
  have f0 := h.fuse0
  have f1 := h.fuse1
  have hdl := hb.lt
  have H := Lib.hid h
  have fz : ∀ j, w.frozen? ⟨d, j, none⟩ = false := fun j => hb.free j
  have fz2 := fz 2
  have fz3 := fz 3
  have HB := Lib.hid hb
  clear h hb fz
  by_cases h0 : fuse = 0
  · subst h0
    have hT : Turn (· = d) w (w.setCell ⟨d, 3, none⟩ (.bool true)) := (Turn.refl (· = d) w).set (a := ⟨d, 3, none⟩) rfl _
    have hD : Hid (DiskIs F (w.setCell ⟨d, 3, none⟩ (.bool true)) d mb room 0 true l) := Lib.hid (H.out.own (HB.out.set 3 _) hT (by omega) (by omega))
    have HT := Lib.hid hT
    clear hT
    go_enter Try.func50, Try.ntmps50
    go_wp2_with fail
    go_ret
    exact ⟨rfl, hD.out, HT.out⟩
  · by_cases h1 : 0 < fuse
    · have hT : Turn (· = d) w (w.setCell ⟨d, 2, none⟩ (.int .i64 (fuse - 1))) := (Turn.refl (· = d) w).set (a := ⟨d, 2, none⟩) rfl _
      have hD : Hid (DiskIs F (w.setCell ⟨d, 2, none⟩ (.int .i64 (fuse - 1))) d mb room (powF fuse) (decide (fuse = 0)) l) := Lib.hid (by
        have e1 : powF fuse = fuse - 1 := if_pos h1
        have e2 : decide (fuse = 0) = false := by simpa using h0
        rw [e1, e2]
        exact H.out.own (HB.out.set 2 _) hT (by omega) (by omega))
      have HT := Lib.hid hT
      clear hT
      have hs : IntKind.wrap .i64 (fuse - 1) = fuse - 1 := by
        simp [IntKind.wrap, IntKind.bits, IntKind.signed]
        omega
      go_enter Try.func50, Try.ntmps50
      go_wp2_with fail
      go_ret
      exact ⟨by simp [h0], by simpa [h0] using hD.out, HT.out⟩
    · have hD : Hid (DiskIs F w d mb room (powF fuse) (decide (fuse = 0)) l) := Lib.hid (by
        have e1 : powF fuse = fuse := if_neg h1
        have e2 : decide (fuse = 0) = false := by simpa using h0
        rw [e1, e2]
        exact H.out)
      go_enter Try.func50, Try.ntmps50
      go_wp2_with fail
      go_ret
      exact ⟨by simp [h0], by simpa [h0] using hD.out, Turn.refl _ _⟩

theorem new_yes (room : Nat) (w : World) (h : room ≤ 67108864) : Calls Try.prog 7 #[.int .i64 room] w fun e w' => ∃ d mb, e = .returned (.tuple #[.pointer (some ⟨d, 0, none⟩), .int .i64 0]) ∧ DiskIs (fun x => w.heap.size ≤ x ∧ x < w'.heap.size) w' d mb room (-1) false [] ∧ Below w.heap.size w w' := by
  have h' : (room : Int) ≤ 67108864 := by omega
  have d2 : decide (67108864 < (room : Int)) = false := by simp only [decide_eq_false_iff_not]; omega
  have hP : Hid (DiskIs (fun x => w.heap.size ≤ x ∧ x < w.heap.size + 2) ((w.alloc (.map #[] 0)).alloc (.cells #[.int .i64 room, .map (some w.heap.size), .int .i64 (-1), .bool false] 69)) (w.heap.size + 1) w.heap.size room (-1) false []) := Lib.hid (by
    refine ⟨?_, ⟨fun _ => none, ?_, fun k v => by simp⟩, .nil, (by simp), .nil, .nil, ⟨by omega, by omega⟩, ⟨by omega, by omega⟩, (by simp), by omega, by omega, by simp, by simp [used], by omega, by omega⟩
    · have hb := Blk.new (w.alloc (.map #[] 0)) #[.int .i64 room, .map (some w.heap.size), .int .i64 (-1), .bool false] 69
      simp only [World.size_alloc] at hb
      exact hb
    · exact (MapIs.made w _ _).alloc _)
  have hmm := @run_makeMap Try.prog
  go_enter Try.func7, Try.ntmps7
  go_wp2_with fail
  go_ret2
  refine ⟨w.heap.size + 1, w.heap.size, rfl, ?_, bel_alloc (below_alloc w _)⟩
  have := hP.out
  simpa using this
theorem new_no (room : Int) (w : World) (h : room < 0 ∨ 67108864 < room) : Calls Try.prog 7 #[.int .i64 room] w fun e w' => e = .returned (.tuple #[.pointer none, .int .i64 1]) ∧ w = w' := by
  by_cases h1 : room < 0
  · clear h
    go_enter Try.func7, Try.ntmps7
    go_wp2_with fail
    go_ret2
    exact ⟨rfl, rfl⟩
  · have h2 : 67108864 < room := by omega
    have d1 : decide (room < 0) = false := by simp only [decide_eq_false_iff_not]; omega
    clear h
    go_enter Try.func7, Try.ntmps7
    go_wp2_with fail
    go_ret2
    exact ⟨rfl, rfl⟩
end Go.Proofs.Ytokmiphgalpahaa
namespace Go.Proofs.Ytokmiphgalpahaa
open Go.RowKit Go.Kt
set_option maxRecDepth 100000
variable {F : Nat → Prop} {w w' : World} {d mb : Nat} {room fuse : Int} {down : Bool} {l : List Sg}

theorem key3 : Maps.Keyed Try.prog 3 := Maps.int_keyed Try.underlying3
theorem zero52 (w : World) : (zeroValue 90).run Try.prog w = .ok (.pointer none) w := by kernel_rfl
def Rng (n : Int) : Prop := -9223372036854775808 ≤ n ∧ n ≤ 9223372036854775807
theorem wf64 {n : Int} (h : Rng n) : (Lit.int .i64 n).wf = true := by
  obtain ⟨h1, h2⟩ := h
  have e1 : IntKind.i64.min = -9223372036854775808 := by decide
  have e2 : IntKind.i64.max = 9223372036854775807 := by decide
  simp only [Lit.wf, e1, e2]
  simp
  omega
theorem keyOf3 {n : Int} (h : Rng n) : keyOf Try.prog 3 (.int .i64 n) = some (.int .i64 n) := Maps.keyOf_int_mk Try.underlying3 (wf64 h)
def Lacks (l : List Sg) (n : Int) : Prop := ∀ s ∈ l, s.n ≠ n
theorem look_yes (h : DiskIs F w d mb room fuse down l) {s : Sg} (hs : s ∈ l) : (Instr.lookup 67 (.map (some mb)) (.int .i64 s.n) true).run Try.prog w = .ok (.tuple #[s.ptr, .bool true]) w := by
  obtain ⟨f, hm, hf⟩ := h.map
  have h1 := (h.seg s hs).2.2.2
  rw [hm.look key3 Try.underlying67 (zero52 w) (keyOf3 ⟨by omega, by omega⟩), (hf _ _).2 ⟨s, hs, rfl, rfl⟩]
  rfl
theorem look_no (h : DiskIs F w d mb room fuse down l) {n : Int} (hn : Rng n) (hl : Lacks l n) : (Instr.lookup 67 (.map (some mb)) (.int .i64 n) true).run Try.prog w = .ok (.tuple #[.pointer none, .bool false]) w := by
  obtain ⟨f, hm, hf⟩ := h.map
  rw [hm.look key3 Try.underlying67 (zero52 w) (keyOf3 hn)]
  cases he : f (.int .i64 n) with
  | none => rfl
  | some v =>
    obtain ⟨s, hs, e1, _⟩ := (hf _ _).1 he
    injection e1 with _ e1
    exact (hl s hs e1.symm).elim
theorem lacks_or (l : List Sg) (n : Int) : Lacks l n ∨ ∃ s ∈ l, s.n = n := by
  by_cases h : ∃ s ∈ l, s.n = n
  · exact .inr h
  · exact .inl fun s hs hn => h ⟨s, hs, hn⟩

theorem find_yes (h : DiskIs F w d mb room fuse false l) {s : Sg} (hs : s ∈ l) : Calls Try.prog 47 #[.pointer (some ⟨d, 0, none⟩), .int .i64 s.n] w fun e w' => e = .returned (.tuple #[.pointer (some ⟨s.g, 0, none⟩), .int .i64 0]) ∧ w = w' := by
  obtain ⟨c0, c1, c2, c3⟩ := h.cell
  have hl := look_yes h hs
  unfold Sg.ptr at hl
  have H := Lib.hid h
  clear h hs
  go_enter Try.func47, Try.ntmps47
  go_wp2_with (go_at_call 44; refine (up_any H.out).mono ?_; rintro e w1 ⟨rfl, rfl⟩)
  go_ret2
  exact ⟨rfl, rfl⟩
theorem find_no (h : DiskIs F w d mb room fuse false l) {n : Int} (hn : Rng n) (hl : Lacks l n) : Calls Try.prog 47 #[.pointer (some ⟨d, 0, none⟩), .int .i64 n] w fun e w' => e = .returned (.tuple #[.pointer none, .int .i64 6]) ∧ w = w' := by
  obtain ⟨c0, c1, c2, c3⟩ := h.cell
  have hl := look_no h hn hl
  have H := Lib.hid h
  clear h hn
  go_enter Try.func47, Try.ntmps47
  go_wp2_with (go_at_call 44; refine (up_any H.out).mono ?_; rintro e w1 ⟨rfl, rfl⟩)
  go_ret2
  exact ⟨rfl, rfl⟩
theorem find_down (h : DiskIs F w d mb room fuse true l) (n : Int) : Calls Try.prog 47 #[.pointer (some ⟨d, 0, none⟩), .int .i64 n] w fun e w' => e = .returned (.tuple #[.pointer none, .int .i64 5]) ∧ w = w' := by
  have H := Lib.hid h
  clear h
  go_enter Try.func47, Try.ntmps47
  go_wp2_with (go_at_call 44; refine (up_any H.out).mono ?_; rintro e w1 ⟨rfl, rfl⟩)
  go_ret2
  exact ⟨rfl, rfl⟩
theorem find_nil (w : World) (n : Int) : Calls Try.prog 47 #[.pointer none, .int .i64 n] w fun e w' => e = .returned (.tuple #[.pointer none, .int .i64 2]) ∧ w = w' := by
  go_enter Try.func47, Try.ntmps47
  go_wp2_with (go_at_call 44; refine (up_nil _).mono ?_; rintro e w1 ⟨rfl, rfl⟩)
  go_ret2
  exact ⟨rfl, rfl⟩
end Go.Proofs.Ytokmiphgalpahaa
namespace Go.Proofs.Ytokmiphgalpahaa
open Go.RowKit Go.Kt
set_option maxRecDepth 100000

theorem bel_refl (x : World) : Below x.heap.size x x := Below.refl _ _
theorem bel_drew {x y : World} (h : Below x.heap.size x y) : Below x.heap.size x y.drew := h.drew
theorem bel_drewN {x y : World} (h : Below x.heap.size x y) (n : Nat) : Below x.heap.size x (y.drewN n) := ⟨h.os, h.tape, h.output, h.size, h.block⟩
theorem bel_set {x y : World} {p : Addr} {u : Value} (h : Below x.heap.size x y) (hg : x.heap.size ≤ p.block) : Below x.heap.size x (y.setCell p u) := h.setCell hg u
theorem bel_trans {w w1 w2 : World} (h : Below w.heap.size w w1) (h2 : Below w1.heap.size w1 w2) : Below w.heap.size w w2 := h.trans (h2.mono h.size)
theorem ok28 : ElemOk Try.prog 22 5 (.int .u8 0) 1 1 := ⟨Try.underlying22, info_parts (by kernel_rfl), rfl, by decide⟩
theorem mine8_set {e : TypeId} {w0 w : World} {v : Value} {l : List UInt8} (h : Mine8 e w0 w v l) {p : Addr} (hp : p.block < w0.heap.size) (u : Value) : Mine8 e w0 (w.setCell p u) v l :=
  ⟨own_set h.1 (fun b hb e => by have := h.2 b hb; omega) u, h.2⟩
def Cloned (l : List UInt8) (w : World) (e : Ending) (w' : World) : Prop := ∃ v', e = .returned v' ∧ Mine8 5 w w' v' l ∧ Below w.heap.size w w'
set_option maxHeartbeats 1000000 in
theorem clone_any (v : Value) (l : List UInt8) (w : World) (hv : Rd8 w v l) (hl : l.length ≤ 140737488355328) : Calls Try.prog 48 #[v] w (Cloned l w) := by
  have Hv := Lib.hid hv
  obtain ⟨a, cap, rfl, h1, h2, h3, h4⟩ := hv.open
  have H4 := Lib.hid h4
  have he := fun (a : Option Addr) (n c : Nat) => Lib.run_eql_slice_nil (P := Try.prog) w 22 5 a n c 0 0 Try.underlying22
  clear h4 hv
  cases a with
  | none =>
    have hl0 : l = [] := List.eq_nil_of_length_eq_zero (by have := h3 rfl; omega)
    subst hl0
    obtain rfl : cap = 0 := h3 rfl
    clear h3
    go_enter Try.func48, Try.ntmps48
    go_wp2_with fail
    go_ret
    exact ⟨_, rfl, mine8_nil 5 w w, bel_refl w⟩
  | some ad =>
    clear h3
    have HM : Hid (Mine8 5 w (w.alloc (.cells #[] 5)) (.slice (some ⟨w.heap.size, 0, none⟩) 0 0) []) := Lib.hid (mine8_at [] (by simp [maxLen]) rfl rfl (Nat.le_refl _) rfl)
    go_enter Try.func48, Try.ntmps48
    go_wp2_with (at_builtin; apply Hold.mk)
    unfold Hold
    refine wpList_app8_mine rfl _ _ 22 rfl ok28 [] l (by rfl) (by rfl) w (below_alloc w _) HM.out (Hv.out.below (below_alloc w _)) (by simpa using hl) ?_
    intro v7 w7 hm hb hg hz
    go_wp2_with fail
    go_ret
    exact ⟨_, rfl, by simpa using hm, hb⟩
end Go.Proofs.Ytokmiphgalpahaa
namespace Go.Proofs.Ytokmiphgalpahaa
open Go.RowKit Go.Kt
set_option maxRecDepth 100000
variable {F : Nat → Prop} {w w' : World} {d mb : Nat} {room fuse : Int} {down : Bool} {l : List Sg}
theorem same_key (t x : Int) : (Lit.int .i64 t).sameKey (.int .i64 x) = (t == x) := by
  by_cases h : t = x
  · subst h
    rw [WideAt.sameKey_self (show WideAt.IsKeyLit (.int .i64 t) from trivial)]
    simp
  · cases hh : (Lit.int .i64 t).sameKey (.int .i64 x)
    · simp [h]
    · have := WideAt.sameKey_eq hh
      injection this with _ this
      exact absurd this h
/-- the bytes of those segments that p picks -/
def total (p : Int → Bool) : List Sg → Nat
  | [] => 0
  | s :: t => (if p s.n then s.b.length else 0) + total p t
theorem total_congr (p q : Int → Bool) : ∀ l, (∀ s ∈ l, p s.n = q s.n) → total p l = total q l
  | [], _ => rfl
  | t :: ks, h => by
    unfold total
    rw [h t (by simp), total_congr p q ks (fun s hs => h s (by simp [hs]))]
theorem total_none (p : Int → Bool) : ∀ l, (∀ s ∈ l, p s.n = false) → total p l = 0
  | [], _ => rfl
  | t :: ks, h => by
    unfold total
    rw [h t (by simp), total_none p ks (fun s hs => h s (by simp [hs]))]
    simp
theorem total_all (p : Int → Bool) : ∀ l, (∀ s ∈ l, p s.n = true) → total p l = used l
  | [], _ => rfl
  | t :: ks, h => by
    unfold total
    rw [h t (by simp), total_all p ks (fun s hs => h s (by simp [hs]))]
    simp [used]
theorem total_drop (p : Int → Bool) (x : Sg) (hp : p x.n = true) : ∀ l : List Sg, l.Pairwise (fun a b => a.n < b.n) → x ∈ l → total p l = x.b.length + total (fun z => p z && !(z == x.n)) l
  | [], _, h => by cases h
  | t :: ks, hn, h => by
    obtain ⟨h1, h2⟩ := List.pairwise_cons.1 hn
    unfold total
    rcases List.mem_cons.1 h with rfl | h
    · rw [total_congr (fun z => p z && !(z == x.n)) p ks (fun s hs => by
        have := h1 s hs
        have hne : s.n ≠ x.n := by omega
        simp [hne])]
      simp [hp]
    · have hlt := h1 x h
      have hne : t.n ≠ x.n := by omega
      rw [total_drop p x hp ks h2 h]
      have e : (t.n == x.n) = false := by simpa using hne
      rw [e]
      simp
      omega
theorem total_le (p : Int → Bool) : ∀ l, total p l ≤ used l
  | [] => Nat.le_refl _
  | t :: ks => by
    have := total_le p ks
    have e : used (t :: ks) = t.b.length + used ks := by simp [used]
    unfold total
    split <;> omega
theorem entry_of {f : Lit → Option Value} {D : DataW Value} (hf : SegMap f l) (hcf : ∀ kl, (f kl = none → Maps.has D kl = false) ∧ ∀ v, f kl = some v → Maps.has D kl = true ∧ ∀ z, D.atKey kl z = .held v)
    {x : Int} {kl : Lit} {c0 : Value} {y : DataW Value × List MemPlace} (hk : keyOf Try.prog 3 (.int .i64 x) = some kl) (hd : Maps.has D kl = true) (hR : anyElem c0 = some y) (hat : ∀ zd, D.atKey kl zd = y.1) : ∃ s ∈ l, x = s.n ∧ kl = .int .i64 s.n ∧ c0 = s.ptr := by
  obtain ⟨x', e, rfl, _⟩ := Maps.keyOf_int_inv Try.underlying3 hk
  cases e
  cases he : f (.int .i64 x) with
  | none =>
    have h1 := (hcf (.int .i64 x)).1 he
    rw [h1] at hd
    cases hd
  | some v =>
    have h1 := ((hcf (.int .i64 x)).2 v he).2 (.held v)
    rw [hat] at h1
    unfold anyElem at hR
    injection hR with hR
    rw [← hR] at h1
    simp only at h1
    injection h1 with h1
    obtain ⟨s, hs, e1, e2⟩ := (hf _ _).1 he
    injection e1 with _ e1
    exact ⟨s, hs, e1, by rw [e1], by rw [h1, e2]⟩
theorem used_nil (w : World) : Calls Try.prog 38 #[.pointer none] w fun e w' => e = .returned (.int .i64 0) ∧ w = w' := by
  go_enter Try.func38, Try.ntmps38
  go_wp2_with fail
  go_ret
  exact ⟨rfl, rfl⟩
set_option maxHeartbeats 2000000 in
theorem used_any (h : DiskIs F w d mb room fuse down l) : Calls Try.prog 38 #[.pointer (some ⟨d, 0, none⟩)] w fun e w' => e = .returned (.int .i64 (used l)) ∧ Below w.heap.size w w' := by
  obtain ⟨c0, c1, c2, c3⟩ := h.cell
  obtain ⟨f, ⟨D, hD, hsz, hcf⟩, hf⟩ := h.map
  have hmb := hD.lt
  have hul : (used l : Int) ≤ 67108864 := by have := h.tot; have := h.room1; omega
  have Hall : Hid (total (fun t => Maps.has D (.int .i64 t)) l = used l) := Lib.hid (total_all _ l fun s hs => ((hcf _).2 _ ((hf _ _).2 ⟨s, hs, rfl, rfl⟩)).1)
  have HD := Lib.hid hD
  have Hcf := Lib.hid hcf
  have Hf := Lib.hid hf
  have H := Lib.hid h
  have hHas : Hid (∀ kl, Maps.has D kl = true → Maps.has D kl = true) := Lib.hid (fun _ h => h)
  generalize hn2 : l.length = n2 at *
  generalize hu : used l = u at *
  clear hD hsz hcf hf h hn2
  go_enter Try.func38, Try.ntmps38
  go_wp2_with (first
    | (at_range; refine wpList_range_own _ rfl _ 67 rfl 3 90 key3 Try.underlying67 _ mb n2 D rfl HD.out ?_; intro w0 hrg0 hg0 hs0)
    | fail)
  have HB0 : Hid (Below w.heap.size w w0) := Lib.hid ((Below.refl _ _).grown hg0 (Nat.le_refl _) (fun b e => by cases e))
  have hrgi := hrg0
  clear hg0 hs0 hrg0
  go_frame
  go_loopw [3, 5] (fun nv _ wr => ∃ (left : Lit → Bool) (c : Nat) (s : Nat), wr.ranges Try.prog 3 anyElem mb w.heap.size n2 D left c ∧ nv = .int .i64 s ∧ Hid (s + total (fun t => left (.int .i64 t)) l = u) ∧ Hid (∀ kl, left kl = true → Maps.has D kl = true) ∧ Hid (Below w.heap.size w wr)) (fun _ _ wr => wr.rangeLeft mb w.heap.size)
  case atStart => exact ⟨_, _, 0, hrgi, rfl, Lib.hid (by rw [Nat.zero_add]; exact Hall.out), hHas, HB0⟩
  case round =>
    clear hrgi HB0 hHas
    obtain ⟨left, c, s, hrg, rfl, Hsum, Hhas, HB⟩ := hrel
    obtain ⟨wt, rfl⟩ : ∃ wt, wt = wr := ⟨_, rfl⟩
    go_wp2_with (first
      | (at_next; refine wpList_next_ranges _ rfl _ rfl 3 key3 anyElem (Value.int .i64) id (fun key kl h => by obtain ⟨x, e, _⟩ := Maps.keyOf_int_inv Try.underlying3 h; exact ⟨x, e⟩) (fun v y h => ⟨v, rfl⟩) mb w.heap.size n2 D left c rfl hrg ?_ ?_)
      | fail)
    · intro hc0 hl0
      have hs0 : s = u := by
        have := Hsum.out
        rw [total_none _ l (fun t _ => hl0 _)] at this
        omega
      subst hs0
      clear hl0 hrg
      go_wp2_with fail
      go_ret
      exact ⟨rfl, HB.out⟩
    · intro x p0 kl ya yb w1' cnt1 hkey hlx hR hat hrg1 hlt1 hg1 hs1 hen
      obtain ⟨sg, hsg, rfl, rfl, hp0⟩ := entry_of Hf.out Hcf.out hkey (Hhas.out kl hlx) hR hat
      have hp0' : p0 = .pointer (some ⟨sg.g, 0, none⟩) := hp0
      clear hp0
      subst hp0'
      have hB1 : Below w.heap.size w w1' := HB.out.grown hg1 HB.out.size (fun b e => by injection e with e; omega)
      have HB1 := Lib.hid hB1
      have hb1 := (H.out.next hB1).seg sg hsg
      have k0 : w1'.cell? ⟨sg.g, 0, none⟩ = some sg.v := hb1.1.cell 0
      obtain ⟨_, va, vcap, hv, _⟩ := hb1.2.1.rd
      rw [hv] at k0
      have hdr := total_drop (fun t => left (.int .i64 t)) sg hlx l H.out.inc hsg
      have HS1 : Hid ((s + sg.b.length) + total (fun t => left (.int .i64 t) && !(Lit.int .i64 t).sameKey (.int .i64 sg.n)) l = u) := Lib.hid (by
        have e : (fun t => left (.int .i64 t) && !(Lit.int .i64 t).sameKey (.int .i64 sg.n)) = fun z => left (.int .i64 z) && !(z == sg.n) := by
          funext t
          rw [same_key]
        rw [e]
        have := Hsum.out
        omega)
      have hsum2 : ((s + sg.b.length : Nat) : Int) ≤ 67108864 := by have := HS1.out; omega
      have HH1 : Hid (∀ kl, (left kl && !kl.sameKey (.int .i64 sg.n)) = true → Maps.has D kl = true) := Lib.hid (fun kl h => Hhas.out kl (by simp at h; exact h.1))
      have Hmeas : Hid (w1'.rangeLeft mb w.heap.size < wt.rangeLeft mb w.heap.size) := Lib.hid (by rw [hrg1.left_eq, hrg.left_eq]; exact hlt1)
      have Hrg1 := Lib.hid hrg1
      try simp only [id] at hen
      clear hR hat hkey hlx hrg hrg1 hg1 hs1 hB1 hdr hlt1 hb1 hv
      try simp only [id]
      generalize hbl : sg.b.length = bl at *
      go_wp2_with fail
      go_roundw
      case rel => exact ⟨_, cnt1, s + bl, Hrg1.out, by go_num, HS1, HH1, HB1⟩
      case measure => exact Hmeas.out
end Go.Proofs.Ytokmiphgalpahaa
namespace Go.Proofs.Ytokmiphgalpahaa
open Go.RowKit Go.Kt
set_option maxRecDepth 100000
variable {F : Nat → Prop} {w w' : World} {d mb : Nat} {room fuse : Int} {down : Bool} {l : List Sg}

theorem used_has {s : Sg} : ∀ {l : List Sg}, s ∈ l → s.b.length ≤ used l
  | [], h => by cases h
  | t :: ks, h => by
    have e : used (t :: ks) = t.b.length + used ks := by simp [used]
    rcases List.mem_cons.1 h with rfl | h
    · omega
    · have := used_has h
      omega
theorem DiskIs.small (h : DiskIs F w d mb room fuse down l) {s : Sg} (hs : s ∈ l) : s.b.length ≤ 67108864 := by
  have := used_has hs
  have := h.tot
  have := h.room1
  omega
/-- Read (14): a copy of the segment's bytes -/
theorem read_yes (h : DiskIs F w d mb room fuse false l) {s : Sg} (hs : s ∈ l) : Calls Try.prog 21 #[.pointer (some ⟨d, 0, none⟩), .int .i64 s.n] w fun e w' => ∃ v, e = .returned (.tuple #[v, .int .i64 0]) ∧ Mine8 5 w w' v s.b ∧ Below w.heap.size w w' := by
  have k0 : w.cell? ⟨s.g, 0, none⟩ = some s.v := (h.seg s hs).1.cell 0
  have hv := (h.seg s hs).2.1.rd
  have hsm := h.small hs
  have H := Lib.hid h
  have Hs := Lib.hid hs
  have Hv : Hid (Rd8 w s.v s.b) := Lib.hid hv
  clear h hs hv
  go_enter Try.func21, Try.ntmps21
  go_wp2_with (first
    | (go_at_call 47; refine (find_yes H.out Hs.out).mono ?_; rintro e w1 ⟨rfl, rfl⟩)
    | (go_at_call 48; refine (clone_any s.v s.b w Hv.out (by omega)).mono ?_; rintro e w2 ⟨v2, rfl, hm, hb⟩; have Hm := Lib.hid hm; have Hb := Lib.hid hb; clear hm hb))
  go_ret2
  exact ⟨_, rfl, Hm.out, Hb.out⟩
theorem read_no (h : DiskIs F w d mb room fuse false l) {n : Int} (hn : Rng n) (hl : Lacks l n) : Calls Try.prog 21 #[.pointer (some ⟨d, 0, none⟩), .int .i64 n] w fun e w' => e = .returned (.tuple #[.slice none 0 0, .int .i64 6]) ∧ w = w' := by
  have H := Lib.hid h
  have Hn := Lib.hid hn
  have Hl := Lib.hid hl
  clear h hn hl
  go_enter Try.func21, Try.ntmps21
  go_wp2_with (go_at_call 47; refine (find_no H.out Hn.out Hl.out).mono ?_; rintro e w1 ⟨rfl, rfl⟩)
  go_ret2
  exact ⟨rfl, rfl⟩
theorem read_down (h : DiskIs F w d mb room fuse true l) (n : Int) : Calls Try.prog 21 #[.pointer (some ⟨d, 0, none⟩), .int .i64 n] w fun e w' => e = .returned (.tuple #[.slice none 0 0, .int .i64 5]) ∧ w = w' := by
  have H := Lib.hid h
  clear h
  go_enter Try.func21, Try.ntmps21
  go_wp2_with (go_at_call 47; refine (find_down H.out n).mono ?_; rintro e w1 ⟨rfl, rfl⟩)
  go_ret2
  exact ⟨rfl, rfl⟩
theorem read_nil (w : World) (n : Int) : Calls Try.prog 21 #[.pointer none, .int .i64 n] w fun e w' => e = .returned (.tuple #[.slice none 0 0, .int .i64 2]) ∧ w = w' := by
  go_enter Try.func21, Try.ntmps21
  go_wp2_with (go_at_call 47; refine (find_nil w n).mono ?_; rintro e w1 ⟨rfl, rfl⟩)
  go_ret2
  exact ⟨rfl, rfl⟩

/-- Fuse (12) -/
theorem fuse_yes (h : DiskIs F w d mb room fuse false l) {n : Int} (hn : Rng n) : Calls Try.prog 32 #[.pointer (some ⟨d, 0, none⟩), .int .i64 n] w fun e w' => e = .returned (.int .i64 0) ∧ DiskIs F w' d mb room (max n (-1)) false l ∧ Turn (· = d) w w' := by
  have hb := h.blk
  have hdl := hb.lt
  have fz2 : w.frozen? ⟨d, 2, none⟩ = false := hb.free 2
  obtain ⟨c0, c1, c2, c3⟩ := h.cell
  obtain ⟨n1, n2⟩ := hn
  have H := Lib.hid h
  have HT : Hid (Turn (· = d) w (w.setCell ⟨d, 2, none⟩ (.int .i64 (max n (-1))))) := Lib.hid ((Turn.refl (· = d) w).set (a := ⟨d, 2, none⟩) rfl _)
  have HD : Hid (DiskIs F (w.setCell ⟨d, 2, none⟩ (.int .i64 (max n (-1)))) d mb room (max n (-1)) false l) := Lib.hid (H.out.own (hb.set 2 _) HT.out (by omega) (by omega))
  clear h hb
  go_enter Try.func32, Try.ntmps32
  go_wp2_with (go_at_call 44; refine (up_any H.out).mono ?_; rintro e w1 ⟨rfl, rfl⟩)
  go_ret
  exact ⟨rfl, HD.out, HT.out⟩
theorem fuse_down (h : DiskIs F w d mb room fuse true l) (n : Int) : Calls Try.prog 32 #[.pointer (some ⟨d, 0, none⟩), .int .i64 n] w fun e w' => e = .returned (.int .i64 5) ∧ w = w' := by
  have H := Lib.hid h
  clear h
  go_enter Try.func32, Try.ntmps32
  go_wp2_with (go_at_call 44; refine (up_any H.out).mono ?_; rintro e w1 ⟨rfl, rfl⟩)
  go_ret
  exact ⟨rfl, rfl⟩
theorem fuse_nil (w : World) (n : Int) : Calls Try.prog 32 #[.pointer none, .int .i64 n] w fun e w' => e = .returned (.int .i64 2) ∧ w = w' := by
  go_enter Try.func32, Try.ntmps32
  go_wp2_with (go_at_call 44; refine (up_nil _).mono ?_; rintro e w1 ⟨rfl, rfl⟩)
  go_ret
  exact ⟨rfl, rfl⟩
end Go.Proofs.Ytokmiphgalpahaa
namespace Go.Proofs.Ytokmiphgalpahaa
open Go.RowKit Go.Kt
set_option maxRecDepth 100000
variable {F : Nat → Prop} {w w' : World} {d mb : Nat} {room fuse : Int} {down : Bool} {l : List Sg}

theorem pw_mem {α : Type} {R : α → α → Prop} {a b : α} : ∀ {l : List α}, l.Pairwise R → a ∈ l → b ∈ l → a = b ∨ R a b ∨ R b a
  | [], _, h, _ => by cases h
  | t :: ks, hp, ha, hb => by
    obtain ⟨h1, h2⟩ := List.pairwise_cons.1 hp
    rcases List.mem_cons.1 ha with rfl | ha1
    · rcases List.mem_cons.1 hb with rfl | hb1
      · exact .inl rfl
      · exact .inr (.inl (h1 b hb1))
    · rcases List.mem_cons.1 hb with rfl | hb1
      · exact .inr (.inr (h1 a ha1))
      · exact pw_mem h2 ha1 hb1
theorem DiskIs.same_n (h : DiskIs F w d mb room fuse down l) {a b : Sg} (ha : a ∈ l) (hb : b ∈ l) (e : a.n = b.n) : a = b := by
  rcases pw_mem h.inc ha hb with h1 | h1 | h1
  · exact h1
  · omega
  · omega
theorem DiskIs.g_ne (h : DiskIs F w d mb room fuse down l) {a b : Sg} (ha : a ∈ l) (hb : b ∈ l) (e : a.n ≠ b.n) : a.g ≠ b.g := by
  rcases pw_mem h.gs ha hb with h1 | h1 | h1
  · exact (e (by rw [h1])).elim
  · exact h1
  · exact fun h2 => h1 h2.symm
theorem DiskIs.v_ne (h : DiskIs F w d mb room fuse down l) {a b : Sg} (ha : a ∈ l) (hb : b ∈ l) (e : a.n ≠ b.n) {x : Nat} (hx : a.v.ownBlock = some x) : b.v.ownBlock ≠ some x := by
  rcases pw_mem h.vs ha hb with h1 | h1 | h1
  · exact (e (by rw [h1])).elim
  · exact h1 x hx
  · exact fun h2 => h1 x h2 hx
theorem blk_ty {w : World} {g : Nat} {cs cs' : Array Value} {t t' : TypeId} (h : Blk w g cs t) (h' : Blk w g cs' t') : t = t' := by
  unfold Blk at h h'
  rw [h] at h'
  injection h' with h'
  injection h'
def swap (s' : Sg) (t : Sg) : Sg := if t.n = s'.n then s' else t
theorem swap_n (s' t : Sg) : (swap s' t).n = t.n := by
  unfold swap
  split
  · rename_i h; exact h.symm
  · rfl
/-- a change of one segment: its block and its bytes -/
theorem DiskIs.turn (h : DiskIs F w d mb room fuse down l) {s s' : Sg} (hs : s ∈ l) (hn : s'.n = s.n) (hg : s'.g = s.g) (ht : Turn (fun x => x = s.g ∨ s.v.ownBlock = some x) w w')
    (hb : Blk w' s.g s'.cells 95) (ho : Own8 5 w' s'.v s'.b) (hsu : s'.sure ≤ s'.b.length) (hx : ∀ x, s'.v.ownBlock = some x → s.v.ownBlock = some x ∨ w.heap.size ≤ x)
    (hu : (used (l.map (swap s')) : Int) ≤ room) {G : Nat → Prop} (hG : ∀ x, F x → G x) (hG' : ∀ x, s'.v.ownBlock = some x → G x) : DiskIs G w' d mb room fuse down (l.map (swap s')) := by
  obtain ⟨b1, b2, b3, b4, b5⟩ := h.seg s hs
  have nb : ∀ {x : Nat} {cs : Array Value} {t : TypeId}, Blk w x cs t → t ≠ 95 → t ≠ 5 → Blk w' x cs t := fun hk h1 h2 => (ht.block _ hk.lt (by
    rintro (rfl | h3)
    · exact h1 (blk_ty hk b1)
    · exact own_no_blk b2 hk (fun e => h2 e.symm) h3)).trans hk
  have key : ∀ t ∈ l, (t.n = s'.n ∧ swap s' t = s' ∧ t = s) ∨ (t.n ≠ s'.n ∧ swap s' t = t ∧ t.n ≠ s.n) := fun t htl => by
    by_cases e : t.n = s'.n
    · exact .inl ⟨e, if_pos e, h.same_n htl hs (e.trans hn)⟩
    · exact .inr ⟨e, if_neg e, fun e' => e (e'.trans hn.symm)⟩
  have kg : ∀ t ∈ l, (swap s' t).g = t.g := fun t htl => by
    rcases key t htl with ⟨_, e, rfl⟩ | ⟨_, e, _⟩
    · rw [e, hg]
    · rw [e]
  refine ⟨nb h.blk (by decide) (by decide), ?_, ?_, ?_, ?_, ?_, hG _ h.Fd, hG _ h.Fm, ?_, h.room0, h.room1, by rw [List.length_map]; exact h.len, hu, h.fuse0, h.fuse1⟩
  · obtain ⟨f, hm, hf⟩ := h.map
    refine ⟨f, ?_, fun k v => ⟨fun hk => ?_, ?_⟩⟩
    · rw [List.length_map]
      have hm' := hm
      obtain ⟨D, ⟨es, ck, hb1, F1, hs1, hD⟩, h2, h3⟩ := hm
      refine ⟨D, ⟨es, ck, (ht.block mb (Array.getElem?_eq_some_iff.1 hb1).1 ?_).trans hb1, F1, hs1, hD⟩, h2, h3⟩
      rintro (rfl | h3)
      · unfold Blk at b1
        rw [b1] at hb1
        cases hb1
      · exact own_no_map b2 hm' h3
    · obtain ⟨t, htl, e1, e2⟩ := (hf k v).1 hk
      refine ⟨swap s' t, List.mem_map.2 ⟨t, htl, rfl⟩, by rw [swap_n]; exact e1, ?_⟩
      rw [e2]
      unfold Sg.ptr
      rw [kg t htl]
    · rintro ⟨t', ht', e1, e2⟩
      obtain ⟨t, htl, rfl⟩ := List.mem_map.1 ht'
      refine (hf k v).2 ⟨t, htl, by rw [e1, swap_n], ?_⟩
      rw [e2]
      unfold Sg.ptr
      rw [kg t htl]
  · rw [List.pairwise_map]
    exact h.inc.imp fun hab => by rw [swap_n, swap_n]; exact hab
  · intro t' ht'
    obtain ⟨t, htl, rfl⟩ := List.mem_map.1 ht'
    rcases key t htl with ⟨_, e, rfl⟩ | ⟨_, e, hne⟩
    · rw [e, hg, hn]
      exact ⟨hb, ho, hsu, b4, b5⟩
    · rw [e]
      obtain ⟨c1, c2, c3⟩ := h.seg t htl
      refine ⟨(ht.block _ c1.lt ?_).trans c1, Own.keep c2 fun x hx1 => ht.block x (c2.lt x hx1) ?_, c3⟩
      · rintro (h3 | h3)
        · exact h.g_ne htl hs hne h3
        · exact own_no_blk b2 c1 (by decide) h3
      · rintro (rfl | h3)
        · exact own_no_blk c2 b1 (by decide) hx1
        · exact h.v_ne htl hs hne hx1 h3
  · rw [List.pairwise_map]
    refine h.inc.imp_of_mem fun {a b} ha hb hab => ?_
    rw [kg a ha, kg b hb]
    exact h.g_ne ha hb (by omega)
  · rw [List.pairwise_map]
    refine h.inc.imp_of_mem fun {a b} ha hb hab x hx1 hx2 => ?_
    rcases key a ha with ⟨q1, q2, q3⟩ | ⟨q1, q2, q3⟩ <;> rcases key b hb with ⟨r1, r2, r3⟩ | ⟨r1, r2, r3⟩ <;> rw [q2] at hx1 <;> rw [r2] at hx2
    · omega
    · rcases hx x hx1 with h5 | h5
      · exact h.v_ne hs hb (fun e => r3 e.symm) h5 hx2
      · have := (h.seg b hb).2.1.lt x hx2
        omega
    · rcases hx x hx2 with h5 | h5
      · exact h.v_ne ha hs q3 hx1 h5
      · have := (h.seg a ha).2.1.lt x hx1
        omega
    · exact h.v_ne ha hb (by omega) hx1 hx2
  · intro t' ht'
    obtain ⟨t, htl, rfl⟩ := List.mem_map.1 ht'
    rcases key t htl with ⟨_, e, rfl⟩ | ⟨_, e, hne⟩
    · rw [e, hg]
      exact ⟨hG _ (h.Fs t htl).1, hG'⟩
    · rw [e]
      exact ⟨hG _ (h.Fs t htl).1, fun x hx1 => hG _ ((h.Fs t htl).2 x hx1)⟩
end Go.Proofs.Ytokmiphgalpahaa
namespace Go.Proofs.Ytokmiphgalpahaa
open Go.RowKit Go.Kt
set_option maxRecDepth 100000
variable {F : Nat → Prop} {w w' : World} {d mb : Nat} {room fuse : Int} {down : Bool} {l : List Sg}

theorem used_swap (s' : Sg) : ∀ l : List Sg, (∀ t ∈ l, t.n = s'.n → t.b.length = s'.b.length) → used (l.map (swap s')) = used l
  | [], _ => rfl
  | t :: ks, h => by
    have ih := used_swap s' ks (fun t ht => h t (by simp [ht]))
    have e1 : used ((t :: ks).map (swap s')) = (swap s' t).b.length + used (ks.map (swap s')) := by simp [used]
    have e2 : used (t :: ks) = t.b.length + used ks := by simp [used]
    have e3 : (swap s' t).b.length = t.b.length := by
      unfold swap
      split
      · rename_i hh; exact (h t (by simp) hh).symm
      · rfl
    omega
def Sg.synced (s : Sg) : Sg := { s with sure := s.b.length, kept := true }
theorem sync_yes (h : DiskIs F w d mb room fuse false l) (hf : fuse ≠ 0) {s : Sg} (hs : s ∈ l) : Calls Try.prog 28 #[.pointer (some ⟨d, 0, none⟩), .int .i64 s.n] w fun e w' => e = .returned (.int .i64 0) ∧ DiskIs F w' d mb room (powF fuse) false (l.map (swap s.synced)) ∧ Turn F w w' := by
  have H := Lib.hid h
  have Hs := Lib.hid hs
  have Hf : Hid (fuse ≠ 0) := Lib.hid hf
  have e1 : decide (fuse ≠ 0) = true := by simpa using hf
  have e2 : decide (fuse = 0) = false := by simpa using hf
  clear h hs hf
  go_enter Try.func28, Try.ntmps28
  go_wp2_with (first
    | (go_at_call 47; refine (find_yes H.out Hs.out).mono ?_; rintro e w1 ⟨rfl, rfl⟩)
    | (go_at_call 50; refine (power_any H.out).mono ?_; rw [e1, e2]; rintro e w1 ⟨rfl, hD1, hT1⟩
       have q1 := hD1.seg s Hs.out
       have k0 : w1.cell? ⟨s.g, 0, none⟩ = some s.v := q1.1.cell 0
       have k1 : w1.cell? ⟨s.g, 1, none⟩ = some (.int .i64 s.sure) := q1.1.cell 1
       have k2 : w1.cell? ⟨s.g, 2, none⟩ = some (.bool s.kept) := q1.1.cell 2
       have f1 : w1.frozen? ⟨s.g, 1, none⟩ = false := q1.1.free 1
       have f2 : w1.frozen? ⟨s.g, 2, none⟩ = false := q1.1.free 2
       have hlt := q1.1.lt
       have hsm := hD1.small Hs.out
       obtain ⟨_, va, vcap, hv, _⟩ := q1.2.1.rd
       rw [hv] at k0
       have HD1 := Lib.hid hD1
       have HT1 := Lib.hid hT1
       clear hD1 hT1 q1 hv))
  go_ret
  refine ⟨rfl, ?_, ?_⟩
  · have q1 := HD1.out.seg s Hs.out
    have hT2 : Turn (fun x => x = s.g ∨ s.v.ownBlock = some x) w1 ((w1.setCell ⟨s.g, 1, none⟩ (.int .i64 s.b.length)).setCell ⟨s.g, 2, none⟩ (.bool true)) := ((Turn.refl _ _).set (a := ⟨s.g, 1, none⟩) (.inl rfl) _).set (a := ⟨s.g, 2, none⟩) (.inl rfl) _
    refine HD1.out.turn (s' := s.synced) Hs.out rfl rfl hT2 ((q1.1.set 1 _).set 2 _) ?_ (Nat.le_refl _) (fun x hx => .inl hx) ?_ (fun x hx => hx) ((HD1.out.Fs s Hs.out).2)
    · have hne : ∀ b, s.v.ownBlock = some b → b ≠ s.g := fun b hb e => by
        subst e
        exact own_no_blk q1.2.1 q1.1 (by decide) hb
      exact own_set (own_set q1.2.1 (p := ⟨s.g, 1, none⟩) hne _) (p := ⟨s.g, 2, none⟩) hne _
    · rw [used_swap]
      · exact HD1.out.tot
      · intro t ht htn
        rw [HD1.out.same_n ht Hs.out htn]
        rfl
  · exact ((HT1.out.mono (fun x hx => hx ▸ H.out.Fd)).set (a := ⟨s.g, 1, none⟩) (H.out.Fs s Hs.out).1 _).set (a := ⟨s.g, 2, none⟩) (H.out.Fs s Hs.out).1 _
theorem sync_dead (h : DiskIs F w d mb room 0 false l) {s : Sg} (hs : s ∈ l) : Calls Try.prog 28 #[.pointer (some ⟨d, 0, none⟩), .int .i64 s.n] w fun e w' => e = .returned (.int .i64 5) ∧ DiskIs F w' d mb room 0 true l ∧ Turn F w w' := by
  have H := Lib.hid h
  have Hs := Lib.hid hs
  clear h hs
  go_enter Try.func28, Try.ntmps28
  go_wp2_with (first
    | (go_at_call 47; refine (find_yes H.out Hs.out).mono ?_; rintro e w1 ⟨rfl, rfl⟩)
    | (go_at_call 50; refine (power_any H.out).mono ?_; rintro e w1 ⟨rfl, hD1, hT1⟩
       have HD1 := Lib.hid hD1
       have HT1 := Lib.hid hT1
       clear hD1 hT1))
  go_ret
  exact ⟨rfl, HD1.out, HT1.out.mono (fun x hx => hx ▸ H.out.Fd)⟩
theorem sync_no (h : DiskIs F w d mb room fuse false l) {n : Int} (hn : Rng n) (hl : Lacks l n) : Calls Try.prog 28 #[.pointer (some ⟨d, 0, none⟩), .int .i64 n] w fun e w' => e = .returned (.int .i64 6) ∧ w = w' := by
  have H := Lib.hid h
  have Hn := Lib.hid hn
  have Hl := Lib.hid hl
  clear h hn hl
  go_enter Try.func28, Try.ntmps28
  go_wp2_with (go_at_call 47; refine (find_no H.out Hn.out Hl.out).mono ?_; rintro e w1 ⟨rfl, rfl⟩)
  go_ret
  exact ⟨rfl, rfl⟩
theorem sync_down (h : DiskIs F w d mb room fuse true l) (n : Int) : Calls Try.prog 28 #[.pointer (some ⟨d, 0, none⟩), .int .i64 n] w fun e w' => e = .returned (.int .i64 5) ∧ w = w' := by
  have H := Lib.hid h
  clear h
  go_enter Try.func28, Try.ntmps28
  go_wp2_with (go_at_call 47; refine (find_down H.out n).mono ?_; rintro e w1 ⟨rfl, rfl⟩)
  go_ret
  exact ⟨rfl, rfl⟩
theorem sync_nil (w : World) (n : Int) : Calls Try.prog 28 #[.pointer none, .int .i64 n] w fun e w' => e = .returned (.int .i64 2) ∧ w = w' := by
  go_enter Try.func28, Try.ntmps28
  go_wp2_with (go_at_call 47; refine (find_nil w n).mono ?_; rintro e w1 ⟨rfl, rfl⟩)
  go_ret
  exact ⟨rfl, rfl⟩
end Go.Proofs.Ytokmiphgalpahaa
namespace Go.Proofs.Ytokmiphgalpahaa
open Go.RowKit Go.Kt
set_option maxRecDepth 100000
variable {F : Nat → Prop} {w w' : World} {d mb : Nat} {room fuse : Int} {down : Bool} {l : List Sg}

/-- a segment put into its place -/
def ins (s : Sg) : List Sg → List Sg
  | [] => [s]
  | t :: ks => if t.n < s.n then t :: ins s ks else s :: t :: ks
theorem mem_ins (s x : Sg) : ∀ l, x ∈ ins s l ↔ x = s ∨ x ∈ l
  | [] => by simp [ins]
  | t :: ks => by
    unfold ins
    split
    · rw [List.mem_cons, mem_ins s x ks, List.mem_cons]
      constructor
      · rintro (h | h | h)
        · exact .inr (.inl h)
        · exact .inl h
        · exact .inr (.inr h)
      · rintro (h | h | h)
        · exact .inr (.inl h)
        · exact .inl h
        · exact .inr (.inr h)
    · rw [List.mem_cons]
theorem len_ins (s : Sg) : ∀ l, (ins s l).length = l.length + 1
  | [] => rfl
  | t :: ks => by
    unfold ins
    split
    · rw [List.length_cons, len_ins s ks, List.length_cons]
    · rfl
theorem used_ins (s : Sg) : ∀ l, used (ins s l) = s.b.length + used l
  | [] => rfl
  | t :: ks => by
    have e2 : ∀ (t : Sg) (ks : List Sg), used (t :: ks) = t.b.length + used ks := fun t ks => by simp [used]
    unfold ins
    split
    · rw [e2, used_ins s ks, e2]; omega
    · rw [e2]
/-- a relation that holds between the new one and each of the others, both ways -/
theorem pw_ins {R : Sg → Sg → Prop} (s : Sg) : ∀ l : List Sg, l.Pairwise R → (∀ t ∈ l, R t s ∧ R s t) → (ins s l).Pairwise R
  | [], _, _ => by simp [ins]
  | t :: ks, hp, h => by
    obtain ⟨h1, h2⟩ := List.pairwise_cons.1 hp
    unfold ins
    split
    · refine List.pairwise_cons.2 ⟨fun x hx => ?_, pw_ins s ks h2 (fun x hx => h x (by simp [hx]))⟩
      rcases (mem_ins s x ks).1 hx with rfl | hx
      · exact (h t (by simp)).1
      · exact h1 x hx
    · exact List.pairwise_cons.2 ⟨fun x hx => (h x hx).2, hp⟩
theorem inc_ins (s : Sg) : ∀ l : List Sg, l.Pairwise (fun a b => a.n < b.n) → Lacks l s.n → (ins s l).Pairwise (fun a b => a.n < b.n)
  | [], _, _ => by simp [ins]
  | t :: ks, hp, h => by
    obtain ⟨h1, h2⟩ := List.pairwise_cons.1 hp
    unfold ins
    split
    · rename_i hlt
      refine List.pairwise_cons.2 ⟨fun x hx => ?_, inc_ins s ks h2 (fun x hx => h x (by simp [hx]))⟩
      rcases (mem_ins s x ks).1 hx with rfl | hx
      · exact hlt
      · exact h1 x hx
    · rename_i hlt
      have hne := h t (by simp)
      have hlt' : s.n < t.n := by omega
      refine List.pairwise_cons.2 ⟨fun x hx => ?_, hp⟩
      rcases List.mem_cons.1 hx with rfl | hx
      · exact hlt'
      · have := h1 x hx
        omega
def fresh (n : Int) (g : Nat) : Sg := ⟨n, g, .slice none 0 0, [], 0, false⟩
/-- 'd.segs[n] = s' with a new segment -/
theorem DiskIs.put (h : DiskIs F w d mb room fuse down l) {n : Int} (hl : Lacks l n) (h1 : 1 ≤ n) (h2 : n ≤ 9223372036854775807) (hlen : l.length < 1024) {g : Nat} (hb : Blk w g (fresh n g).cells 95) (hg : ∀ s ∈ l, s.g ≠ g) {G : Nat → Prop} (hG : ∀ x, F x → G x) (hG' : G g) :
    ∃ w', (Instr.mapUpdate 67 (.map (some mb)) (.int .i64 n) (.pointer (some ⟨g, 0, none⟩))).run Try.prog w = .ok () w' ∧ DiskIs G w' d mb room fuse down (ins (fresh n g) l) ∧ w.grownBy w' (some mb) := by
  obtain ⟨f, hm, hf⟩ := h.map
  have hno : f (.int .i64 n) = none := by
    cases he : f (.int .i64 n) with
    | none => rfl
    | some v =>
      obtain ⟨s, hs, e1, _⟩ := (hf _ _).1 he
      injection e1 with _ e1
      exact (hl s hs e1.symm).elim
  obtain ⟨w', hr, hm', hgr⟩ := hm.put key3 Try.underlying67 (by unfold maxLen; omega) (.pointer (some ⟨g, 0, none⟩)) (keyOf3 ⟨by omega, h2⟩) (show Go.WideAt.IsKeyLit (.int .i64 n) from trivial)
  rw [hno] at hm'
  have nm : ∀ {x : Nat} {cs : Array Value} {t : TypeId}, Blk w x cs t → some mb ≠ some x := fun hk e => by
    injection e with e
    subst e
    obtain ⟨D, ⟨es, ck, hb1, _⟩, _⟩ := hm
    unfold Blk at hk
    rw [hb1] at hk
    cases hk
  have old := hg
  refine ⟨w', hr, ⟨h.blk.grown hgr (nm h.blk), ⟨upd f (.int .i64 n) (.pointer (some ⟨g, 0, none⟩)), ?_, fun k v => ?_⟩, inc_ins _ _ h.inc hl, ?_, ?_, ?_, hG _ h.Fd, hG _ h.Fm, ?_, h.room0, h.room1, by rw [len_ins]; omega, ?_, h.fuse0, h.fuse1⟩, hgr⟩
  · rw [len_ins]
    exact hm'
  · unfold upd
    by_cases hk : k = .int .i64 n
    · rw [if_pos hk]
      constructor
      · intro e
        injection e with e
        exact ⟨fresh n g, (mem_ins _ _ _).2 (.inl rfl), hk, e.symm⟩
      · rintro ⟨s, hs, e1, e2⟩
        rcases (mem_ins _ _ _).1 hs with rfl | hs
        · rw [e2]; rfl
        · rw [hk] at e1
          injection e1 with _ e1
          exact (hl s hs e1.symm).elim
    · rw [if_neg hk, hf]
      constructor
      · rintro ⟨s, hs, e1, e2⟩
        exact ⟨s, (mem_ins _ _ _).2 (.inr hs), e1, e2⟩
      · rintro ⟨s, hs, e1, e2⟩
        rcases (mem_ins _ _ _).1 hs with rfl | hs
        · exact (hk e1).elim
        · exact ⟨s, hs, e1, e2⟩
  · intro s hs
    rcases (mem_ins _ _ _).1 hs with rfl | hs
    · exact ⟨hb.grown hgr (nm hb), own_nil _ _ _, Nat.le_refl _, h1, h2⟩
    · obtain ⟨c1, c2, c3⟩ := h.seg s hs
      exact ⟨c1.grown hgr (nm c1), Own.grown c2 hgr (fun b hb e => by
        injection e with e
        subst e
        exact own_no_map c2 hm hb), c3⟩
  · exact pw_ins _ _ h.gs fun t ht => ⟨old t ht, fun e => old t ht e.symm⟩
  · exact pw_ins _ _ h.vs fun t ht => ⟨fun x _ e => (by cases e), fun x e => (by cases e)⟩
  · intro s hs
    rcases (mem_ins _ _ _).1 hs with rfl | hs
    · exact ⟨hG', fun x e => (by cases e)⟩
    · exact ⟨hG _ (h.Fs s hs).1, fun x e => hG _ ((h.Fs s hs).2 x e)⟩
  · rw [used_ins]
    have := h.tot
    show ((([] : List UInt8).length + used l : Nat) : Int) ≤ room
    rw [List.length_nil, Nat.zero_add]
    exact this
end Go.Proofs.Ytokmiphgalpahaa
namespace Go.Proofs.Ytokmiphgalpahaa
open Go.RowKit Go.Kt
set_option maxRecDepth 100000
variable {F : Nat → Prop} {w w' : World} {d mb : Nat} {room fuse : Int} {down : Bool} {l : List Sg}

theorem rd8_turn {w w' : World} {v : Value} {pl : List UInt8} (h : Rd8 w v pl) {F : Nat → Prop} (hT : Turn F w w') (hlt : ∀ x, v.ownBlock = some x → pl ≠ [] → x < w.heap.size) (hF : ∀ x, v.ownBlock = some x → pl ≠ [] → ¬ F x) : Rd8 w' v pl :=
  by
    by_cases hp : pl = []
    · subst hp
      obtain ⟨hl, a, cap, rfl, h1, h2, h3, _⟩ := h
      exact ⟨hl, a, cap, rfl, h1, h2, h3, fun j u hj => by simp at hj⟩
    · exact RdRow.keep h fun b hb => hT.block b (hlt b hb hp) (hF b hb hp)
theorem append_down (h : DiskIs F w d mb room fuse true l) (n : Int) (v : Value) : Calls Try.prog 26 #[.pointer (some ⟨d, 0, none⟩), .int .i64 n, v] w fun e w' => e = .returned (.int .i64 5) ∧ w = w' := by
  have H := Lib.hid h
  clear h
  go_enter Try.func26, Try.ntmps26
  go_wp2_with (go_at_call 44; refine (up_any H.out).mono ?_; rintro e w1 ⟨rfl, rfl⟩)
  go_ret
  exact ⟨rfl, rfl⟩
theorem append_nil (w : World) (n : Int) (v : Value) : Calls Try.prog 26 #[.pointer none, .int .i64 n, v] w fun e w' => e = .returned (.int .i64 2) ∧ w = w' := by
  go_enter Try.func26, Try.ntmps26
  go_wp2_with (go_at_call 44; refine (up_nil _).mono ?_; rintro e w1 ⟨rfl, rfl⟩)
  go_ret
  exact ⟨rfl, rfl⟩
/-- a number that no segment may have -/
theorem append_arg (h : DiskIs F w d mb room fuse false l) {n : Int} (hn : Rng n) (h1 : n < 1) (v : Value) : Calls Try.prog 26 #[.pointer (some ⟨d, 0, none⟩), .int .i64 n, v] w fun e w' => e = .returned (.int .i64 1) ∧ w = w' := by
  have hl := look_no h hn (fun s hs e => by have := (h.seg s hs).2.2.2.1; omega)
  have d1 : decide (n < 1) = true := by simpa using h1
  obtain ⟨c0, c1, c2, c3⟩ := h.cell
  have H := Lib.hid h
  clear h hn
  go_enter Try.func26, Try.ntmps26
  go_wp2_with (go_at_call 44; refine (up_any H.out).mono ?_; rintro e w1 ⟨rfl, rfl⟩)
  go_ret
  exact ⟨rfl, rfl⟩
set_option maxRecDepth 100000 in
theorem append_full (h : DiskIs F w d mb room fuse false l) {s : Sg} (hs : s ∈ l) {v : Value} {pl : List UInt8} (hv : Rd8 w v pl) (hroom : room - used l < pl.length) : Calls Try.prog 26 #[.pointer (some ⟨d, 0, none⟩), .int .i64 s.n, v] w fun e w' => e = .returned (.int .i64 4) ∧ Below w.heap.size w w' := by
  have hl := look_yes h hs
  unfold Sg.ptr at hl
  have h1 := (h.seg s hs).2.2.2.1
  have d1 : decide (s.n < 1) = false := by simp only [decide_eq_false_iff_not]; omega
  obtain ⟨c0, c1, c2, c3⟩ := h.cell
  have hr0 := h.room0
  have hr1 := h.room1
  have ht := h.tot
  obtain ⟨a, cap, rfl, hcap, hbig, hz1⟩ := hv.open
  clear hz1
  have H := Lib.hid h
  have d2 : decide (room - (used l : Int) < (pl.length : Int)) = true := by simpa using hroom
  clear h hv hs
  generalize hu : used l = u at *
  generalize hp : pl.length = m at *
  go_enter Try.func26, Try.ntmps26
  have hw : IntKind.wrap .i64 (room - (u : Int)) = room - u := by
    simp [IntKind.wrap, IntKind.bits, IntKind.signed]
    omega
  have HU : Hid (∀ W, Below w.heap.size w W → Calls Try.prog 38 #[.pointer (some ⟨d, 0, none⟩)] W fun e w' => e = .returned (.int .i64 u) ∧ Below W.heap.size W w') := Lib.hid (fun W hW => by
    have := used_any (H.out.next hW)
    rwa [hu] at this)
  have HC : Hid (∀ W, Below w.heap.size w W → W.cell? ⟨d, 0, none⟩ = some (.int .i64 room) ∧ W.cell? ⟨d, 1, none⟩ = some (.map (some mb)) ∧ W.cell? ⟨d, 2, none⟩ = some (.int .i64 fuse) ∧ W.cell? ⟨d, 3, none⟩ = some (.bool false)) := Lib.hid (fun W hW => (H.out.next hW).cell)
  have hx1 := bel_refl w
  have hx0 : Hid (w.heap.size ≤ w.heap.size) := Lib.hid (Nat.le_refl _)
  go_wp2_with (go_at_call 44; refine (up_any H.out).mono ?_; rintro e w1 ⟨rfl, rfl⟩)
  go_region_law
    (go_simp; go_at_call 38; refine (HU.out _ (by repeat (first | assumption | apply bel_alloc | apply bel_drew))).mono ?_; intro e w3 h3; obtain ⟨rfl, hb3⟩ := h3; have hx3 : Below w.heap.size w w3 := bel_trans (by repeat (first | assumption | apply bel_alloc | apply bel_drew)) hb3; obtain ⟨k0, k1, k2, k3⟩ := HC.out _ hx3; clear hb3)
  all_goals (go_wp2_with fail)
  all_goals (first
    | (go_ret; refine ⟨rfl, ?_⟩; first | with_reducible assumption | exact hx3)
    | (exfalso; rw [hw] at *; omega))
end Go.Proofs.Ytokmiphgalpahaa
namespace Go.Proofs.Ytokmiphgalpahaa
open Go.RowKit Go.Kt
set_option maxRecDepth 100000
variable {F : Nat → Prop} {w w' : World} {d mb : Nat} {room fuse : Int} {down : Bool} {l : List Sg}
theorem Turn.grown {F : Nat → Prop} {w w' : World} {row : Option Nat} (hg : w.grownBy w' row) (h : ∀ x, row = some x → F x) : Turn F w w' :=
  ⟨hg.os, hg.tape, hg.output, hg.size, fun k hk hn => hg.block k hk (fun e => hn (h k e.symm))⟩
theorem used_swap_app {s' : Sg} {m : Nat} : ∀ l : List Sg, l.Pairwise (fun a b => a.n < b.n) → (∀ t ∈ l, t.n = s'.n → s'.b.length = t.b.length + m) → used (l.map (swap s')) ≤ used l + m
  | [], _, _ => Nat.zero_le _
  | t :: ks, hp, h => by
    obtain ⟨h1, h2⟩ := List.pairwise_cons.1 hp
    have e1 : used ((t :: ks).map (swap s')) = (swap s' t).b.length + used (ks.map (swap s')) := by simp [used]
    have e2 : used (t :: ks) = t.b.length + used ks := by simp [used]
    by_cases e : t.n = s'.n
    · have e3 : swap s' t = s' := if_pos e
      have e4 := h t (by simp) e
      have e5 : used (ks.map (swap s')) = used ks := used_swap s' ks (fun x hx hxn => by have := h1 x hx; omega)
      rw [e3] at e1
      omega
    · have e3 : swap s' t = t := if_neg e
      have := used_swap_app ks h2 (fun x hx => h x (by simp [hx]))
      rw [e3] at e1
      omega
def Plus (F : Nat → Prop) (w w' : World) : Nat → Prop := fun x => F x ∨ (w.heap.size ≤ x ∧ x < w'.heap.size)
set_option maxRecDepth 100000 in
set_option maxHeartbeats 1000000 in
theorem append_yes (h : DiskIs F w d mb room fuse false l) (hf : fuse ≠ 0) {s : Sg} (hs : s ∈ l) {v : Value} {pl : List UInt8} (hv : Rd8 w v pl) (hF : ∀ x, v.ownBlock = some x → pl ≠ [] → ¬ F x) (hlt : ∀ x, v.ownBlock = some x → pl ≠ [] → x < w.heap.size) (hroom : (pl.length : Int) ≤ room - used l) :
    Calls Try.prog 26 #[.pointer (some ⟨d, 0, none⟩), .int .i64 s.n, v] w fun e w' => ∃ v', e = .returned (.int .i64 0) ∧ DiskIs (Plus F w w') w' d mb room (powF fuse) false (l.map (swap { s with v := v', b := s.b ++ pl })) ∧ Turn F w w' := by
  have hl := look_yes h hs
  unfold Sg.ptr at hl
  have h1 := (h.seg s hs).2.2.2.1
  have d1 : decide (s.n < 1) = false := by simp only [decide_eq_false_iff_not]; omega
  obtain ⟨c0, c1, c2, c3⟩ := h.cell
  have hr0 := h.room0
  have hr1 := h.room1
  have ht := h.tot
  have Hv : Hid (Rd8 w v pl) := Lib.hid hv
  have HF := Lib.hid hF
  have Hlt := Lib.hid hlt
  obtain ⟨a, cap, rfl, hcap, hbig, hz1⟩ := hv.open
  clear hz1
  have H := Lib.hid h
  have Hs := Lib.hid hs
  have e1 : decide (fuse ≠ 0) = true := by simpa using hf
  have e2 : decide (fuse = 0) = false := by simpa using hf
  have d2 : decide (room - (used l : Int) < (pl.length : Int)) = false := by simp only [decide_eq_false_iff_not]; omega
  clear h hv hs hF hlt hf
  generalize hu : used l = u at *
  have hw : IntKind.wrap .i64 (room - (u : Int)) = room - u := by
    simp [IntKind.wrap, IntKind.bits, IntKind.signed]
    omega
  have HU : Hid (∀ W, Below w.heap.size w W → Calls Try.prog 38 #[.pointer (some ⟨d, 0, none⟩)] W fun e w' => e = .returned (.int .i64 u) ∧ Below W.heap.size W w') := Lib.hid (fun W hW => by
    have := used_any (H.out.next hW)
    rwa [hu] at this)
  have HC : Hid (∀ W, Below w.heap.size w W → W.cell? ⟨d, 0, none⟩ = some (.int .i64 room) ∧ W.cell? ⟨d, 1, none⟩ = some (.map (some mb)) ∧ W.cell? ⟨d, 2, none⟩ = some (.int .i64 fuse) ∧ W.cell? ⟨d, 3, none⟩ = some (.bool false)) := Lib.hid (fun W hW => (H.out.next hW).cell)
  have hx1 := bel_refl w
  go_enter Try.func26, Try.ntmps26
  go_wp2_with (go_at_call 44; refine (up_any H.out).mono ?_; rintro e w1 ⟨rfl, rfl⟩)
  go_region_law
    (go_simp; go_at_call 38; refine (HU.out _ (by repeat (first | assumption | apply bel_alloc | apply bel_drew))).mono ?_; intro e w3 h3; obtain ⟨rfl, hb3⟩ := h3; have hx3 : Below w.heap.size w w3 := bel_trans (by repeat (first | assumption | apply bel_alloc | apply bel_drew)) hb3; obtain ⟨k0, k1, k2, k3⟩ := HC.out _ hx3; clear hb3)
  all_goals (go_upto_region 15 with (go_at_call 50; refine (power_any (H.out.next hx3)).mono ?_; rw [e1, e2]; rintro e w4 ⟨rfl, hD4, hT4⟩; have HD4 := Lib.hid hD4; have HT4 : Hid (Turn F w w4) := Lib.hid ((Turn.of (F := F) hx3).trans hT4 (fun x hx => .inl (hx ▸ H.out.Fd))); have q0 : w4.cell? ⟨s.g, 0, none⟩ = some s.v := (hD4.seg s Hs.out).1.cell 0; have q1 : w4.frozen? ⟨s.g, 0, none⟩ = false := (hD4.seg s Hs.out).1.free 0; clear hD4 hT4))
  all_goals (obtain ⟨_, va, vcap, hsv, _⟩ := (HD4.out.seg s Hs.out).2.1.rd)
  all_goals (have hq := HD4.out.seg s Hs.out; have Hq := Lib.hid hq; clear hq)
  all_goals (have hsl := HD4.out.small Hs.out; have HR : Hid (Rd8 w4 (.slice a pl.length cap) pl) := Lib.hid (rd8_turn Hv.out HT4.out Hlt.out HF.out); have hx4 := bel_refl w4; have hgl := (Hq.out).1.lt; have Hsv := Lib.hid hsv; rw [hsv] at q0; clear hsv)
  all_goals (go_wp2_with (at_builtin; apply Hold.mk))
  all_goals (unfold Hold)
  all_goals (
    (refine wpList_app rfl _ _ 22 rfl ok28 (by rfl) (by rfl) (by have := Hq.out.2.1; rw [Hsv.out] at this; exact this) (HR.out) (by8_one _) (by simp only [maxLen]; omega) (by omega) ?_; intro v7 w7 ho7 hg7 hn7; obtain ⟨_, ta, tcap, rfl, _⟩ := ho7.rd; have b7 := Hq.out.1.grown hg7 (by rw [← Hsv.out]; exact own_no_blk Hq.out.2.1 Hq.out.1 (by decide)); have k7 : w7.cell? ⟨s.g, 0, none⟩ = some s.v := b7.cell 0; rw [Hsv.out] at k7; have f7 : w7.frozen? ⟨s.g, 0, none⟩ = false := b7.free 0; have hgl7 := b7.lt; have B7 := Lib.hid b7; have HO7 := Lib.hid ho7; have HG7 := Lib.hid hg7; have HN7 := Lib.hid hn7; clear b7 ho7 hg7 hn7))
  all_goals (go_wp2_with fail)
  all_goals go_ret
  all_goals (refine ⟨.slice ta (s.b.length + pl.length) tcap, rfl, ?_, ?_⟩)
  all_goals (have hs4 : w.heap.size ≤ w4.heap.size := HT4.out.size)
  all_goals (have hT5 : Turn (fun x => x = s.g ∨ s.v.ownBlock = some x) w4 w7 := Turn.grown HG7.out (fun x hx => .inr (by rw [Hsv.out]; exact hx)))
  all_goals (have hT6 := hT5.set (a := ⟨s.g, 0, none⟩) (.inl rfl) (.slice ta (s.b.length + pl.length) tcap))
  all_goals (first
    | exact HT4.out.trans hT6 (fun x hx => .inl (by rcases hx with rfl | hx; exact (H.out.Fs s Hs.out).1; exact (H.out.Fs s Hs.out).2 x hx))
    | skip)
  all_goals (refine HD4.out.turn (s' := { s with v := .slice ta (s.b.length + pl.length) tcap, b := s.b ++ pl }) Hs.out rfl rfl hT6 (B7.out.set 0 _) ?_ ?_ ?_ ?_ (fun x hx => .inl hx) ?_)
  all_goals (first
    | (have hne : ∀ b, (Value.slice ta (s.b.length + pl.length) tcap).ownBlock = some b → b ≠ s.g := fun b hb e => by
         subst e
         exact own_no_blk HO7.out B7.out (by decide) hb
       have hz := own_set HO7.out (p := ⟨s.g, 0, none⟩) hne (.slice ta (s.b.length + pl.length) tcap)
       show Own8 5 _ (.slice ta (s.b.length + pl.length) tcap) (s.b ++ pl)
       unfold Own8
       rw [List.length_append, List.map_append]
       exact hz)
    | (show s.sure ≤ (s.b ++ pl).length; rw [List.length_append]; have hz := Hq.out.2.2.1; omega)
    | (intro x hx
       rcases HN7.out x hx with hz | hz
       · exact .inl (by rw [Hsv.out]; exact hz)
       · exact .inr hz)
    | (have hz := used_swap_app (s' := { s with v := .slice ta (s.b.length + pl.length) tcap, b := s.b ++ pl }) (m := pl.length) l H.out.inc (fun t ht e => by rw [H.out.same_n ht Hs.out e]; exact List.length_append)
       rw [hu] at hz
       omega)
    | (intro x hx
       rcases HN7.out x hx with hz | hz
       · exact .inl ((H.out.Fs s Hs.out).2 x (by rw [Hsv.out]; exact hz))
       · refine .inr ⟨by omega, ?_⟩
         have hz2 := HO7.out.lt x hx
         simpa using hz2))
end Go.Proofs.Ytokmiphgalpahaa
namespace Go.Proofs.Ytokmiphgalpahaa
open Go.RowKit Go.Kt
set_option maxRecDepth 100000
variable {F : Nat → Prop} {w w' : World} {d mb : Nat} {room fuse : Int} {down : Bool} {l : List Sg}
set_option maxRecDepth 100000 in
set_option maxHeartbeats 1000000 in
theorem append_dead (h : DiskIs F w d mb room 0 false l) {s : Sg} (hs : s ∈ l) {v : Value} {pl : List UInt8} (hv : Rd8 w v pl) (hF : ∀ x, v.ownBlock = some x → pl ≠ [] → ¬ F x) (hlt : ∀ x, v.ownBlock = some x → pl ≠ [] → x < w.heap.size) (hroom : (pl.length : Int) ≤ room - used l) :
    Calls Try.prog 26 #[.pointer (some ⟨d, 0, none⟩), .int .i64 s.n, v] w fun e w' => e = .returned (.int .i64 5) ∧ DiskIs F w' d mb room 0 true l ∧ Turn F w w' := by
  have hl := look_yes h hs
  unfold Sg.ptr at hl
  have h1 := (h.seg s hs).2.2.2.1
  have d1 : decide (s.n < 1) = false := by simp only [decide_eq_false_iff_not]; omega
  obtain ⟨c0, c1, c2, c3⟩ := h.cell
  have hr0 := h.room0
  have hr1 := h.room1
  have ht := h.tot
  have Hv : Hid (Rd8 w v pl) := Lib.hid hv
  have HF := Lib.hid hF
  have Hlt := Lib.hid hlt
  obtain ⟨a, cap, rfl, hcap, hbig, hz1⟩ := hv.open
  clear hz1
  have H := Lib.hid h
  have Hs := Lib.hid hs
  have d2 : decide (room - (used l : Int) < (pl.length : Int)) = false := by simp only [decide_eq_false_iff_not]; omega
  clear h hv hs hF hlt
  generalize hu : used l = u at *
  have hw : IntKind.wrap .i64 (room - (u : Int)) = room - u := by
    simp [IntKind.wrap, IntKind.bits, IntKind.signed]
    omega
  have HU : Hid (∀ W, Below w.heap.size w W → Calls Try.prog 38 #[.pointer (some ⟨d, 0, none⟩)] W fun e w' => e = .returned (.int .i64 u) ∧ Below W.heap.size W w') := Lib.hid (fun W hW => by
    have := used_any (H.out.next hW)
    rwa [hu] at this)
  have HC : Hid (∀ W, Below w.heap.size w W → W.cell? ⟨d, 0, none⟩ = some (.int .i64 room) ∧ W.cell? ⟨d, 1, none⟩ = some (.map (some mb)) ∧ W.cell? ⟨d, 2, none⟩ = some (.int .i64 0) ∧ W.cell? ⟨d, 3, none⟩ = some (.bool false)) := Lib.hid (fun W hW => (H.out.next hW).cell)
  have hx1 := bel_refl w
  go_enter Try.func26, Try.ntmps26
  go_wp2_with (go_at_call 44; refine (up_any H.out).mono ?_; rintro e w1 ⟨rfl, rfl⟩)
  go_region_law
    (go_simp; go_at_call 38; refine (HU.out _ (by repeat (first | assumption | apply bel_alloc | apply bel_drew))).mono ?_; intro e w3 h3; obtain ⟨rfl, hb3⟩ := h3; have hx3 : Below w.heap.size w w3 := bel_trans (by repeat (first | assumption | apply bel_alloc | apply bel_drew)) hb3; obtain ⟨k0, k1, k2, k3⟩ := HC.out _ hx3; clear hb3)
  all_goals (go_wp2_with (go_at_call 50; refine (power_any (H.out.next hx3)).mono ?_; rintro e w4 ⟨rfl, hD4, hT4⟩; have HD4 := Lib.hid hD4; have HT4 : Hid (Turn F w w4) := Lib.hid ((Turn.of (F := F) hx3).trans hT4 (fun x hx => .inl (hx ▸ H.out.Fd))); clear hD4 hT4))
  all_goals (first
    | (go_ret; exact ⟨rfl, HD4.out, HT4.out⟩)
    | (exfalso; rw [hw] at *; omega))
end Go.Proofs.Ytokmiphgalpahaa
namespace Go.Proofs.Ytokmiphgalpahaa
open Go.RowKit Go.Kt
set_option maxRecDepth 100000
open Classical in
noncomputable def cut (f : Lit → Option Value) (kl : Lit) : Lit → Option Value := fun x => if x = kl then none else f x
theorem mapIs_del {P : Program} {k : TypeId} {w : World} {b n : Nat} {f : Lit → Option Value} (h : MapIs P k w b f n) {t e : TypeId} (K : Maps.Keyed P k) (ht : P.underlying t = some (.map k e)) {key : Value} {kl : Lit} (hkey : keyOf P k key = some kl) (ty : TypeId) :
    ∃ w', (Builtin.delete_ #[t, k] ty #[.map (some b), key]).run P w = .ok (.tuple #[]) w' ∧ MapIs P k w' b (cut f kl) (if (f kl).isSome then n - 1 else n) ∧ w.mapTurned w' b := by
  obtain ⟨D, h1, h2, h3⟩ := h
  obtain ⟨w', hr, h4, h5⟩ := h1.drop K ht hkey ty
  have hs := Maps.size_del (k := kl) (h1.tidy K)
  have hh : Maps.has D kl = (f kl).isSome := by
    cases hf : f kl with
    | none => rw [(h3 kl).1 hf]; rfl
    | some u => rw [((h3 kl).2 u hf).1]; rfl
  have hsz : Maps.size (D.del kl) = if (f kl).isSome then n - 1 else n := by
    rw [hh, h2] at hs
    split at hs <;> simp_all <;> omega
  refine ⟨w', hr, ⟨D.del kl, ?_, hsz, fun x => ?_⟩, h5⟩
  · have := ownsMap_tight h4
    rwa [hsz] at this
  · unfold cut
    by_cases hx : x = kl
    · subst hx
      rw [if_pos rfl]
      exact ⟨fun _ => Maps.has_del_same, fun v hv => (by cases hv)⟩
    · rw [if_neg hx]
      refine ⟨fun h => by rw [Maps.has_del_other hx]; exact (h3 x).1 h, fun v hv => ?_⟩
      obtain ⟨g1, g2⟩ := (h3 x).2 v hv
      exact ⟨by rw [Maps.has_del_other hx]; exact g1, fun z => by rw [Maps.atKey_del_other hx]; exact g2 z⟩
end Go.Proofs.Ytokmiphgalpahaa
