/- The contract of keep.Make (5). -/
import Derived.Test.YtabpcbjjchhbeaaW2
namespace Go.Proofs.Ytabpcbjjchhbeaa
open Go.RowKit Go.Kt

/-- a block, whole -/
def Blk (w : World) (g : Nat) (cs : Array Value) (t : TypeId) : Prop := w.heap[g]? = some (.cells cs t (0, 0))
theorem Blk.below {w w' : World} {g : Nat} {cs : Array Value} {t : TypeId} {B : Nat} (h : Blk w g cs t) (hb : Below B w w') (hg : g < B) : Blk w' g cs t := (hb.block g hg).trans h
theorem Blk.lt {w : World} {g : Nat} {cs : Array Value} {t : TypeId} (h : Blk w g cs t) : g < w.heap.size := (Array.getElem?_eq_some_iff.1 h).1
theorem Blk.next {w w' : World} {g : Nat} {cs : Array Value} {t : TypeId} (h : Blk w g cs t) (hb : Below w.heap.size w w') : Blk w' g cs t := h.below hb h.lt
theorem Blk.new (w : World) (cs : Array Value) (t : TypeId) : Blk (w.alloc (.cells cs t)) w.heap.size cs t := heap_alloc_new w _
theorem Blk.cell {w : World} {g : Nat} {cs : Array Value} {t : TypeId} (h : Blk w g cs t) (j : Nat) : w.cell? ⟨g, j, none⟩ = cs[j]? := cell_of_row w g j cs t (0, 0) h
theorem Blk.free {w : World} {g : Nat} {cs : Array Value} {t : TypeId} (h : Blk w g cs t) (j : Nat) : w.frozen? ⟨g, j, none⟩ = false := frozen_of_row w g j cs t h
theorem Blk.set {w : World} {g : Nat} {cs : Array Value} {t : TypeId} (h : Blk w g cs t) (j : Nat) (u : Value) : Blk (w.setCell ⟨g, j, none⟩ u) g (cs.setIfInBounds j u) t := heap_setCell_same w g j cs t u h
theorem Blk.other {w : World} {g g' : Nat} {cs : Array Value} {t : TypeId} (h : Blk w g cs t) (j : Nat) (u : Value) (hg : g ≠ g') : Blk (w.setCell ⟨g', j, none⟩ u) g cs t := (heap_setCell_other w ⟨g', j, none⟩ g u hg).trans h

def least (m : St) (l : List St) : St := l.foldl (fun m s => if cmp s m < 0 then s else m) m
theorem least_snoc (m : St) (l : List St) (k : Nat) (x : St) (h : l[k]? = some x) : least m (l.take (k + 1)) = if cmp x (least m (l.take k)) < 0 then x else least m (l.take k) := by
  obtain ⟨hk, rfl⟩ := List.getElem?_eq_some_iff.1 h
  unfold least
  rw [List.take_succ_eq_append_getElem hk, List.foldl_append]
  rfl
/-- the plan: nothing where there is none -/
structure Plan where
  cut : St
  horizon : Int
def okArgs (a s : Int) (closed pins : List St) (newest : Int) : Prop := polR a s = true ∧ closed ≠ [] ∧ 0 ≤ newest ∧ newest ≤ 4611686018427387904 ∧ (∀ x ∈ closed, stR x = true) ∧ (∀ x ∈ pins, stR x = true)
def cut0 (a : Int) (m : St) : St := if a ≤ m.wall then ⟨m.wall - a, 0, 0⟩ else ⟨0, 0, 0⟩
def planOf (a s : Int) (closed pins : List St) (newest : Int) : Plan := ⟨least (cut0 a (least (closed.headD ⟨0, 0, 0⟩) closed)) pins, max 0 (newest - s)⟩
def Plan.val (p : Plan) : Value := .agg #[.int .i64 p.cut.wall, .int .u32 p.cut.tick, .int .u32 p.cut.mark, .int .i64 p.horizon]
def noPlan : Plan := ⟨⟨0, 0, 0⟩, 0⟩
theorem least_mem (m : St) (l : List St) : least m l = m ∨ least m l ∈ l := by
  induction l generalizing m with
  | nil => exact .inl rfl
  | cons x t ih =>
    have e : least m (x :: t) = least (if cmp x m < 0 then x else m) t := rfl
    rw [e]
    split
    · rcases ih x with h | h
      · right; rw [h]; simp
      · right; simp [h]
    · rcases ih m with h | h
      · exact .inl h
      · right; simp [h]

/-- what a call of Make ends in -/
def Makes (a s : Int) (closed pins : List St) (newest : Int) (w : World) (e : Ending) (w' : World) : Prop :=
  Below w.heap.size w w' ∧ ((okArgs a s closed pins newest ∧ e = .returned (.tuple #[(planOf a s closed pins newest).val, .int .i64 0])) ∨ (¬ okArgs a s closed pins newest ∧ e = .returned (.tuple #[noPlan.val, .int .i64 1])))

set_option maxHeartbeats 400000 in
theorem make_pol (a s : Int) (vc vp : Value) (closed pins : List St) (newest : Int) (w : World) (hc : RdSt w vc closed) (hp : RdSt w vp pins) (hr' : polR a s = false) :
    Calls Try.prog 5 #[.agg #[.int .i64 a, .int .i64 s], vc, vp, .int .i64 newest] w (Makes a s closed pins newest w) := by
  have Hc := Lib.hid hc
  have Hp := Lib.hid hp
  obtain ⟨ca, cc, rfl, hc1, hc2, hc3⟩ := hc.open
  obtain ⟨pa, pc, rfl, hp1, hp2, hp3⟩ := hp.open
  have Hc3 := Lib.hid hc3
  have Hp3 := Lib.hid hp3
  clear hc hp hc3 hp3
  have Hno : Hid (¬ okArgs a s closed pins newest) := Lib.hid (fun h => by rw [h.1] at hr'; cases hr')
  go_enter Try.func5, Try.ntmps5
  go_wp2_with fail
  refine (right_any a s _).mono ?_
  rw [hr']
  rintro e w1 ⟨rfl, hb1⟩
  have Hb1 := Lib.hid (((below_alloc w (.cells #[.int .i64 a, .int .i64 s] 25)).alloc (by simp) (.cells #[.int .i64 0, .int .u32 0, .int .u32 0, .int .i64 0] 30)).trans (hb1.mono (by simp; omega)))
  have b8 : Blk w1 (w.heap.size + 1) #[.int .i64 0, .int .u32 0, .int .u32 0, .int .i64 0] 30 := by
    have := (Blk.new (w.alloc (.cells #[.int .i64 a, .int .i64 s] 25)) #[.int .i64 0, .int .u32 0, .int .u32 0, .int .i64 0] 30)
    simp only [World.size_alloc] at this
    exact this.next hb1
  have c0 : w1.cell? ⟨w.heap.size + 1, 0, none⟩ = some (.int .i64 0) := b8.cell 0
  have c1 : w1.cell? ⟨w.heap.size + 1, 1, none⟩ = some (.int .u32 0) := b8.cell 1
  have c2 : w1.cell? ⟨w.heap.size + 1, 2, none⟩ = some (.int .u32 0) := b8.cell 2
  have c3 : w1.cell? ⟨w.heap.size + 1, 3, none⟩ = some (.int .i64 0) := b8.cell 3
  have f0 := b8.free 0
  have f1 := b8.free 1
  have f2 := b8.free 2
  have f3 := b8.free 3
  clear b8 hb1
  go_wp2_with fail
  refine bodyPost_ret (v := .tuple #[noPlan.val, .int .i64 1]) (by simp [results, Try.results5, go_sem, c0, c1, c2, c3, noPlan, Plan.val]) rfl ⟨?_, .inr ⟨Hno.out, rfl⟩⟩
  exact ((((Hb1.out.setCell (by simp) _).setCell (by simp) _).setCell (by simp) _).setCell (by simp) _)

set_option maxHeartbeats 400000 in
theorem make_empty (a s : Int) (vc vp : Value) (closed pins : List St) (newest : Int) (w : World) (hc : RdSt w vc closed) (hp : RdSt w vp pins) (hr' : polR a s = true) (he : closed = []) :
    Calls Try.prog 5 #[.agg #[.int .i64 a, .int .i64 s], vc, vp, .int .i64 newest] w (Makes a s closed pins newest w) := by
  have Hc := Lib.hid hc
  have Hp := Lib.hid hp
  obtain ⟨ca, cc, rfl, hc1, hc2, hc3⟩ := hc.open
  obtain ⟨pa, pc, rfl, hp1, hp2, hp3⟩ := hp.open
  have Hc3 := Lib.hid hc3
  have Hp3 := Lib.hid hp3
  clear hc hp hc3 hp3
  have Hno : Hid (¬ okArgs a s closed pins newest) := Lib.hid (fun h => h.2.1 he)
  subst he
  simp only [List.length_nil] at hc1 ⊢
  go_enter Try.func5, Try.ntmps5
  go_wp2_with fail
  refine (right_any a s _).mono ?_
  rw [hr']
  rintro e w1 ⟨rfl, hb1⟩
  have Hb1 := Lib.hid (((below_alloc w (.cells #[.int .i64 a, .int .i64 s] 25)).alloc (by simp) (.cells #[.int .i64 0, .int .u32 0, .int .u32 0, .int .i64 0] 30)).trans (hb1.mono (by simp; omega)))
  have b8 : Blk w1 (w.heap.size + 1) #[.int .i64 0, .int .u32 0, .int .u32 0, .int .i64 0] 30 := by
    have := (Blk.new (w.alloc (.cells #[.int .i64 a, .int .i64 s] 25)) #[.int .i64 0, .int .u32 0, .int .u32 0, .int .i64 0] 30)
    simp only [World.size_alloc] at this
    exact this.next hb1
  have c0 : w1.cell? ⟨w.heap.size + 1, 0, none⟩ = some (.int .i64 0) := b8.cell 0
  have c1 : w1.cell? ⟨w.heap.size + 1, 1, none⟩ = some (.int .u32 0) := b8.cell 1
  have c2 : w1.cell? ⟨w.heap.size + 1, 2, none⟩ = some (.int .u32 0) := b8.cell 2
  have c3 : w1.cell? ⟨w.heap.size + 1, 3, none⟩ = some (.int .i64 0) := b8.cell 3
  have f0 := b8.free 0
  have f1 := b8.free 1
  have f2 := b8.free 2
  have f3 := b8.free 3
  clear b8 hb1
  go_wp2_with fail
  refine bodyPost_ret (v := .tuple #[noPlan.val, .int .i64 1]) (by simp [results, Try.results5, go_sem, c0, c1, c2, c3, noPlan, Plan.val]) rfl ⟨?_, .inr ⟨Hno.out, rfl⟩⟩
  exact ((((Hb1.out.setCell (by simp) _).setCell (by simp) _).setCell (by simp) _).setCell (by simp) _)

set_option maxHeartbeats 400000 in
theorem make_neg (a s : Int) (vc vp : Value) (closed pins : List St) (newest : Int) (w : World) (hc : RdSt w vc closed) (hp : RdSt w vp pins) (hr' : polR a s = true) (he : closed ≠ []) (hn : newest < 0) :
    Calls Try.prog 5 #[.agg #[.int .i64 a, .int .i64 s], vc, vp, .int .i64 newest] w (Makes a s closed pins newest w) := by
  have Hc := Lib.hid hc
  have Hp := Lib.hid hp
  obtain ⟨ca, cc, rfl, hc1, hc2, hc3⟩ := hc.open
  obtain ⟨pa, pc, rfl, hp1, hp2, hp3⟩ := hp.open
  have Hc3 := Lib.hid hc3
  have Hp3 := Lib.hid hp3
  clear hc hp hc3 hp3
  have Hno : Hid (¬ okArgs a s closed pins newest) := Lib.hid (fun h => by have := h.2.2.1; omega)
  have hl : ((closed.length : Int) == 0) = false := by rw [beq_eq_false_iff_ne]; have := List.length_pos_iff.2 he; omega
  clear he
  go_enter Try.func5, Try.ntmps5
  go_wp2_with fail
  refine (right_any a s _).mono ?_
  rw [hr']
  rintro e w1 ⟨rfl, hb1⟩
  have Hb1 := Lib.hid (((below_alloc w (.cells #[.int .i64 a, .int .i64 s] 25)).alloc (by simp) (.cells #[.int .i64 0, .int .u32 0, .int .u32 0, .int .i64 0] 30)).trans (hb1.mono (by simp; omega)))
  have b8 : Blk w1 (w.heap.size + 1) #[.int .i64 0, .int .u32 0, .int .u32 0, .int .i64 0] 30 := by
    have := (Blk.new (w.alloc (.cells #[.int .i64 a, .int .i64 s] 25)) #[.int .i64 0, .int .u32 0, .int .u32 0, .int .i64 0] 30)
    simp only [World.size_alloc] at this
    exact this.next hb1
  have c0 : w1.cell? ⟨w.heap.size + 1, 0, none⟩ = some (.int .i64 0) := b8.cell 0
  have c1 : w1.cell? ⟨w.heap.size + 1, 1, none⟩ = some (.int .u32 0) := b8.cell 1
  have c2 : w1.cell? ⟨w.heap.size + 1, 2, none⟩ = some (.int .u32 0) := b8.cell 2
  have c3 : w1.cell? ⟨w.heap.size + 1, 3, none⟩ = some (.int .i64 0) := b8.cell 3
  have f0 := b8.free 0
  have f1 := b8.free 1
  have f2 := b8.free 2
  have f3 := b8.free 3
  clear b8 hb1
  go_wp2_with fail
  refine bodyPost_ret (v := .tuple #[noPlan.val, .int .i64 1]) (by simp [results, Try.results5, go_sem, c0, c1, c2, c3, noPlan, Plan.val]) rfl ⟨?_, .inr ⟨Hno.out, rfl⟩⟩
  exact ((((Hb1.out.setCell (by simp) _).setCell (by simp) _).setCell (by simp) _).setCell (by simp) _)

set_option maxHeartbeats 400000 in
theorem make_far (a s : Int) (vc vp : Value) (closed pins : List St) (newest : Int) (w : World) (hc : RdSt w vc closed) (hp : RdSt w vp pins) (hr' : polR a s = true) (he : closed ≠ []) (hn0 : 0 ≤ newest) (hn : 4611686018427387904 < newest) :
    Calls Try.prog 5 #[.agg #[.int .i64 a, .int .i64 s], vc, vp, .int .i64 newest] w (Makes a s closed pins newest w) := by
  have Hc := Lib.hid hc
  have Hp := Lib.hid hp
  obtain ⟨ca, cc, rfl, hc1, hc2, hc3⟩ := hc.open
  obtain ⟨pa, pc, rfl, hp1, hp2, hp3⟩ := hp.open
  have Hc3 := Lib.hid hc3
  have Hp3 := Lib.hid hp3
  clear hc hp hc3 hp3
  have Hno : Hid (¬ okArgs a s closed pins newest) := Lib.hid (fun h => by have := h.2.2.2.1; omega)
  have hl : ((closed.length : Int) == 0) = false := by rw [beq_eq_false_iff_ne]; have := List.length_pos_iff.2 he; omega
  have hn0' : decide (newest < 0) = false := by simpa using hn0
  clear he
  go_enter Try.func5, Try.ntmps5
  go_wp2_with fail
  refine (right_any a s _).mono ?_
  rw [hr']
  rintro e w1 ⟨rfl, hb1⟩
  have Hb1 := Lib.hid (((below_alloc w (.cells #[.int .i64 a, .int .i64 s] 25)).alloc (by simp) (.cells #[.int .i64 0, .int .u32 0, .int .u32 0, .int .i64 0] 30)).trans (hb1.mono (by simp; omega)))
  have b8 : Blk w1 (w.heap.size + 1) #[.int .i64 0, .int .u32 0, .int .u32 0, .int .i64 0] 30 := by
    have := (Blk.new (w.alloc (.cells #[.int .i64 a, .int .i64 s] 25)) #[.int .i64 0, .int .u32 0, .int .u32 0, .int .i64 0] 30)
    simp only [World.size_alloc] at this
    exact this.next hb1
  have c0 : w1.cell? ⟨w.heap.size + 1, 0, none⟩ = some (.int .i64 0) := b8.cell 0
  have c1 : w1.cell? ⟨w.heap.size + 1, 1, none⟩ = some (.int .u32 0) := b8.cell 1
  have c2 : w1.cell? ⟨w.heap.size + 1, 2, none⟩ = some (.int .u32 0) := b8.cell 2
  have c3 : w1.cell? ⟨w.heap.size + 1, 3, none⟩ = some (.int .i64 0) := b8.cell 3
  have f0 := b8.free 0
  have f1 := b8.free 1
  have f2 := b8.free 2
  have f3 := b8.free 3
  clear b8 hb1
  go_wp2_with fail
  refine bodyPost_ret (v := .tuple #[noPlan.val, .int .i64 1]) (by simp [results, Try.results5, go_sem, c0, c1, c2, c3, noPlan, Plan.val]) rfl ⟨?_, .inr ⟨Hno.out, rfl⟩⟩
  exact ((((Hb1.out.setCell (by simp) _).setCell (by simp) _).setCell (by simp) _).setCell (by simp) _)

end Go.Proofs.Ytabpcbjjchhbeaa
