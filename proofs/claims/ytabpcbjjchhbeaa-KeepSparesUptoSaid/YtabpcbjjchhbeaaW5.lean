/- The contracts of keep.Make (5) and of the reference's Make (7), for every input. -/
import Derived.Test.YtabpcbjjchhbeaaW4
import Derived.Deep.RegionHeld3
namespace Go.Proofs.Ytabpcbjjchhbeaa
open Go.RowKit Go.Kt

theorem make_any (a s : Int) (vc vp : Value) (closed pins : List St) (newest : Int) (w : World) (hc : RdSt w vc closed) (hp : RdSt w vp pins) :
    Calls Try.prog 5 #[.agg #[.int .i64 a, .int .i64 s], vc, vp, .int .i64 newest] w (Makes a s closed pins newest w) := by
  by_cases h1 : polR a s = true
  case neg => exact make_pol a s vc vp closed pins newest w hc hp (by simpa using h1)
  by_cases h2 : closed = []
  case pos => exact make_empty a s vc vp closed pins newest w hc hp h1 h2
  by_cases h3 : newest < 0
  case pos => exact make_neg a s vc vp closed pins newest w hc hp h1 h2 h3
  by_cases h4 : 4611686018427387904 < newest
  case pos => exact make_far a s vc vp closed pins newest w hc hp h1 h2 (by omega) h4
  exact make_main a s vc vp closed pins newest w hc hp h1 h2 (by omega) (by omega)

theorem cmp_wall (x m : St) (h : x.wall ≠ m.wall) : cmp x m < 0 ↔ x.wall < m.wall := by
  unfold cmp
  by_cases h2 : x.wall < m.wall
  · simp [h, h2]
  · simp [h, h2]
theorem pick_wall (x m : St) : (if cmp x m < 0 then x else m).wall = if x.wall < m.wall then x.wall else m.wall := by
  by_cases h : x.wall = m.wall
  · rw [if_neg (by omega : ¬ x.wall < m.wall)]
    split
    · exact h
    · rfl
  · by_cases h2 : x.wall < m.wall
    · rw [if_pos h2, if_pos ((cmp_wall x m h).2 h2)]
    · rw [if_neg h2, if_neg (fun h3 => h2 ((cmp_wall x m h).1 h3))]
theorem blw_cmp (x m : St) : blw x m = true ↔ cmp x m < 0 := by
  unfold blw cmp
  by_cases h1 : x.wall = m.wall
  · by_cases h2 : x.tick = m.tick
    · by_cases h3 : x.mark = m.mark
      · simp [h1, h2, h3]
      · by_cases h4 : x.mark < m.mark <;> simp [h1, h2, h3, h4]
    · by_cases h4 : x.tick < m.tick <;> simp [h1, h2, h4]
  · by_cases h4 : x.wall < m.wall <;> simp [h1, h4]

set_option maxHeartbeats 400000 in
theorem refmake_pol (a s : Int) (vc vp : Value) (closed pins : List St) (newest : Int) (w : World) (hc : RdSt w vc closed) (hp : RdSt w vp pins) (hr' : polR a s = false) :
    Calls Try.prog 7 #[.agg #[.int .i64 a, .int .i64 s], vc, vp, .int .i64 newest] w (Makes a s closed pins newest w) := by
  have Hc := Lib.hid hc
  have Hp := Lib.hid hp
  obtain ⟨ca, cc, rfl, hc1, hc2, hc3⟩ := hc.open
  obtain ⟨pa, pc, rfl, hp1, hp2, hp3⟩ := hp.open
  have Hc3 := Lib.hid hc3
  have Hp3 := Lib.hid hp3
  clear hc hp hc3 hp3
  have Hno : Hid (¬ okArgs a s closed pins newest) := Lib.hid (fun h => by rw [h.1] at hr'; cases hr')
  go_enter Try.func7, Try.ntmps7
  go_wp2_with fail
  refine (refright_any a s _).mono ?_
  rw [hr']
  rintro e w1 ⟨rfl, hb1⟩
  have Hb1 := Lib.hid (((below_alloc w (.cells #[.int .i64 a, .int .i64 s] 23)).alloc (by simp) (.cells #[.int .i64 0, .int .u32 0, .int .u32 0, .int .i64 0] 38)).trans (hb1.mono (by simp; omega)))
  have b8 : Blk w1 (w.heap.size + 1) #[.int .i64 0, .int .u32 0, .int .u32 0, .int .i64 0] 38 := by
    have := (Blk.new (w.alloc (.cells #[.int .i64 a, .int .i64 s] 23)) #[.int .i64 0, .int .u32 0, .int .u32 0, .int .i64 0] 38)
    simp only [World.size_alloc] at this
    exact this.next hb1
  have c0 : w1.cell? ⟨w.heap.size + 1, 0, none⟩ = some (.int .i64 0) := b8.cell 0
  have c1 : w1.cell? ⟨w.heap.size + 1, 1, none⟩ = some (.int .u32 0) := b8.cell 1
  have c2 : w1.cell? ⟨w.heap.size + 1, 2, none⟩ = some (.int .u32 0) := b8.cell 2
  have c3 : w1.cell? ⟨w.heap.size + 1, 3, none⟩ = some (.int .i64 0) := b8.cell 3
  have f0 := b8.free 0
  have f1 := b8.free 1
  have f2 := b8.free 2
  have f3 := b8.free 3
  clear b8 hb1
  go_wp2_with fail
  refine bodyPost_ret (v := .tuple #[noPlan.val, .int .i64 1]) (by simp [results, Try.results7, go_sem, c0, c1, c2, c3, noPlan, Plan.val]) rfl ⟨?_, .inr ⟨Hno.out, rfl⟩⟩
  exact ((((Hb1.out.setCell (by simp) _).setCell (by simp) _).setCell (by simp) _).setCell (by simp) _)

set_option maxHeartbeats 400000 in
theorem refmake_empty (a s : Int) (vc vp : Value) (closed pins : List St) (newest : Int) (w : World) (hc : RdSt w vc closed) (hp : RdSt w vp pins) (hr' : polR a s = true) (he : closed = []) :
    Calls Try.prog 7 #[.agg #[.int .i64 a, .int .i64 s], vc, vp, .int .i64 newest] w (Makes a s closed pins newest w) := by
  have Hc := Lib.hid hc
  have Hp := Lib.hid hp
  obtain ⟨ca, cc, rfl, hc1, hc2, hc3⟩ := hc.open
  obtain ⟨pa, pc, rfl, hp1, hp2, hp3⟩ := hp.open
  have Hc3 := Lib.hid hc3
  have Hp3 := Lib.hid hp3
  clear hc hp hc3 hp3
  have Hno : Hid (¬ okArgs a s closed pins newest) := Lib.hid (fun h => h.2.1 he)
  subst he
  simp only [List.length_nil] at hc1 ⊢
  go_enter Try.func7, Try.ntmps7
  go_wp2_with fail
  refine (refright_any a s _).mono ?_
  rw [hr']
  rintro e w1 ⟨rfl, hb1⟩
  have Hb1 := Lib.hid (((below_alloc w (.cells #[.int .i64 a, .int .i64 s] 23)).alloc (by simp) (.cells #[.int .i64 0, .int .u32 0, .int .u32 0, .int .i64 0] 38)).trans (hb1.mono (by simp; omega)))
  have b8 : Blk w1 (w.heap.size + 1) #[.int .i64 0, .int .u32 0, .int .u32 0, .int .i64 0] 38 := by
    have := (Blk.new (w.alloc (.cells #[.int .i64 a, .int .i64 s] 23)) #[.int .i64 0, .int .u32 0, .int .u32 0, .int .i64 0] 38)
    simp only [World.size_alloc] at this
    exact this.next hb1
  have c0 : w1.cell? ⟨w.heap.size + 1, 0, none⟩ = some (.int .i64 0) := b8.cell 0
  have c1 : w1.cell? ⟨w.heap.size + 1, 1, none⟩ = some (.int .u32 0) := b8.cell 1
  have c2 : w1.cell? ⟨w.heap.size + 1, 2, none⟩ = some (.int .u32 0) := b8.cell 2
  have c3 : w1.cell? ⟨w.heap.size + 1, 3, none⟩ = some (.int .i64 0) := b8.cell 3
  have f0 := b8.free 0
  have f1 := b8.free 1
  have f2 := b8.free 2
  have f3 := b8.free 3
  clear b8 hb1
  go_wp2_with fail
  refine bodyPost_ret (v := .tuple #[noPlan.val, .int .i64 1]) (by simp [results, Try.results7, go_sem, c0, c1, c2, c3, noPlan, Plan.val]) rfl ⟨?_, .inr ⟨Hno.out, rfl⟩⟩
  exact ((((Hb1.out.setCell (by simp) _).setCell (by simp) _).setCell (by simp) _).setCell (by simp) _)

set_option maxHeartbeats 400000 in
theorem refmake_neg (a s : Int) (vc vp : Value) (closed pins : List St) (newest : Int) (w : World) (hc : RdSt w vc closed) (hp : RdSt w vp pins) (hr' : polR a s = true) (he : closed ≠ []) (hn : newest < 0) :
    Calls Try.prog 7 #[.agg #[.int .i64 a, .int .i64 s], vc, vp, .int .i64 newest] w (Makes a s closed pins newest w) := by
  have Hc := Lib.hid hc
  have Hp := Lib.hid hp
  obtain ⟨ca, cc, rfl, hc1, hc2, hc3⟩ := hc.open
  obtain ⟨pa, pc, rfl, hp1, hp2, hp3⟩ := hp.open
  have Hc3 := Lib.hid hc3
  have Hp3 := Lib.hid hp3
  clear hc hp hc3 hp3
  have Hno : Hid (¬ okArgs a s closed pins newest) := Lib.hid (fun h => by have := h.2.2.1; omega)
  have hl : ((closed.length : Int) == 0) = false := by rw [beq_eq_false_iff_ne]; have := List.length_pos_iff.2 he; omega
  clear he
  go_enter Try.func7, Try.ntmps7
  go_wp2_with fail
  refine (refright_any a s _).mono ?_
  rw [hr']
  rintro e w1 ⟨rfl, hb1⟩
  have Hb1 := Lib.hid (((below_alloc w (.cells #[.int .i64 a, .int .i64 s] 23)).alloc (by simp) (.cells #[.int .i64 0, .int .u32 0, .int .u32 0, .int .i64 0] 38)).trans (hb1.mono (by simp; omega)))
  have b8 : Blk w1 (w.heap.size + 1) #[.int .i64 0, .int .u32 0, .int .u32 0, .int .i64 0] 38 := by
    have := (Blk.new (w.alloc (.cells #[.int .i64 a, .int .i64 s] 23)) #[.int .i64 0, .int .u32 0, .int .u32 0, .int .i64 0] 38)
    simp only [World.size_alloc] at this
    exact this.next hb1
  have c0 : w1.cell? ⟨w.heap.size + 1, 0, none⟩ = some (.int .i64 0) := b8.cell 0
  have c1 : w1.cell? ⟨w.heap.size + 1, 1, none⟩ = some (.int .u32 0) := b8.cell 1
  have c2 : w1.cell? ⟨w.heap.size + 1, 2, none⟩ = some (.int .u32 0) := b8.cell 2
  have c3 : w1.cell? ⟨w.heap.size + 1, 3, none⟩ = some (.int .i64 0) := b8.cell 3
  have f0 := b8.free 0
  have f1 := b8.free 1
  have f2 := b8.free 2
  have f3 := b8.free 3
  clear b8 hb1
  go_wp2_with fail
  refine bodyPost_ret (v := .tuple #[noPlan.val, .int .i64 1]) (by simp [results, Try.results7, go_sem, c0, c1, c2, c3, noPlan, Plan.val]) rfl ⟨?_, .inr ⟨Hno.out, rfl⟩⟩
  exact ((((Hb1.out.setCell (by simp) _).setCell (by simp) _).setCell (by simp) _).setCell (by simp) _)

set_option maxHeartbeats 400000 in
theorem refmake_far (a s : Int) (vc vp : Value) (closed pins : List St) (newest : Int) (w : World) (hc : RdSt w vc closed) (hp : RdSt w vp pins) (hr' : polR a s = true) (he : closed ≠ []) (hn0 : 0 ≤ newest) (hn : 4611686018427387904 < newest) :
    Calls Try.prog 7 #[.agg #[.int .i64 a, .int .i64 s], vc, vp, .int .i64 newest] w (Makes a s closed pins newest w) := by
  have Hc := Lib.hid hc
  have Hp := Lib.hid hp
  obtain ⟨ca, cc, rfl, hc1, hc2, hc3⟩ := hc.open
  obtain ⟨pa, pc, rfl, hp1, hp2, hp3⟩ := hp.open
  have Hc3 := Lib.hid hc3
  have Hp3 := Lib.hid hp3
  clear hc hp hc3 hp3
  have Hno : Hid (¬ okArgs a s closed pins newest) := Lib.hid (fun h => by have := h.2.2.2.1; omega)
  have hl : ((closed.length : Int) == 0) = false := by rw [beq_eq_false_iff_ne]; have := List.length_pos_iff.2 he; omega
  have hn0' : decide (newest < 0) = false := by simpa using hn0
  clear he
  go_enter Try.func7, Try.ntmps7
  go_wp2_with fail
  refine (refright_any a s _).mono ?_
  rw [hr']
  rintro e w1 ⟨rfl, hb1⟩
  have Hb1 := Lib.hid (((below_alloc w (.cells #[.int .i64 a, .int .i64 s] 23)).alloc (by simp) (.cells #[.int .i64 0, .int .u32 0, .int .u32 0, .int .i64 0] 38)).trans (hb1.mono (by simp; omega)))
  have b8 : Blk w1 (w.heap.size + 1) #[.int .i64 0, .int .u32 0, .int .u32 0, .int .i64 0] 38 := by
    have := (Blk.new (w.alloc (.cells #[.int .i64 a, .int .i64 s] 23)) #[.int .i64 0, .int .u32 0, .int .u32 0, .int .i64 0] 38)
    simp only [World.size_alloc] at this
    exact this.next hb1
  have c0 : w1.cell? ⟨w.heap.size + 1, 0, none⟩ = some (.int .i64 0) := b8.cell 0
  have c1 : w1.cell? ⟨w.heap.size + 1, 1, none⟩ = some (.int .u32 0) := b8.cell 1
  have c2 : w1.cell? ⟨w.heap.size + 1, 2, none⟩ = some (.int .u32 0) := b8.cell 2
  have c3 : w1.cell? ⟨w.heap.size + 1, 3, none⟩ = some (.int .i64 0) := b8.cell 3
  have f0 := b8.free 0
  have f1 := b8.free 1
  have f2 := b8.free 2
  have f3 := b8.free 3
  clear b8 hb1
  go_wp2_with fail
  refine bodyPost_ret (v := .tuple #[noPlan.val, .int .i64 1]) (by simp [results, Try.results7, go_sem, c0, c1, c2, c3, noPlan, Plan.val]) rfl ⟨?_, .inr ⟨Hno.out, rfl⟩⟩
  exact ((((Hb1.out.setCell (by simp) _).setCell (by simp) _).setCell (by simp) _).setCell (by simp) _)

/-- the world while the reference's Make runs -/
def RkW (w : World) (a s : Int) (wr : World) : Prop :=
  Below w.heap.size w wr ∧ Blk wr w.heap.size #[.int .i64 a, .int .i64 s] 23 ∧ Blk wr (w.heap.size + 1) #[.int .i64 0, .int .u32 0, .int .u32 0, .int .i64 0] 38
theorem RkW.next {w : World} {a s : Int} {wr wr' : World} (h : RkW w a s wr) (hb : Below wr.heap.size wr wr') : RkW w a s wr' :=
  ⟨h.1.trans (hb.mono h.1.size), h.2.1.next hb, h.2.2.next hb⟩
def RkP (w : World) (a s : Int) (g : Nat) (c : St) (wr : World) : Prop :=
  RkW w a s wr ∧ Blk wr g #[.int .i64 c.wall, .int .u32 c.tick, .int .u32 c.mark, .int .i64 0] 38 ∧ w.heap.size + 1 < g
theorem RkP.next {w : World} {a s : Int} {g : Nat} {c : St} {wr wr' : World} (h : RkP w a s g c wr) (hb : Below wr.heap.size wr wr') : RkP w a s g c wr' :=
  ⟨h.1.next hb, h.2.1.next hb, h.2.2⟩
theorem RkP.put {w : World} {a s : Int} {g : Nat} {c : St} {wr : World} (hh : RkP w a s g c wr) (x : St) :
    RkP w a s g x (((wr.setCell ⟨g, 0, none⟩ (.int .i64 x.wall)).setCell ⟨g, 1, none⟩ (.int .u32 x.tick)).setCell ⟨g, 2, none⟩ (.int .u32 x.mark)) := by
  obtain ⟨⟨h1, h2, h3⟩, h4, h5⟩ := hh
  exact ⟨⟨((h1.setCell (p := ⟨g, 0, none⟩) (by show w.heap.size ≤ g; omega) _).setCell (p := ⟨g, 1, none⟩) (by show w.heap.size ≤ g; omega) _).setCell (p := ⟨g, 2, none⟩) (by show w.heap.size ≤ g; omega) _, ((h2.other _ _ (by omega)).other _ _ (by omega)).other _ _ (by omega), ((h3.other _ _ (by omega)).other _ _ (by omega)).other _ _ (by omega)⟩, ((h4.set 0 _).set 1 _).set 2 _, h5⟩

set_option maxRecDepth 100000 in
set_option maxHeartbeats 8000000 in
theorem refmake_main (a s : Int) (vc vp : Value) (closed pins : List St) (newest : Int) (w : World) (hc : RdSt w vc closed) (hp : RdSt w vp pins) (hr' : polR a s = true) (he : closed ≠ []) (hn0 : 0 ≤ newest) (hn : newest ≤ 4611686018427387904) :
    Calls Try.prog 7 #[.agg #[.int .i64 a, .int .i64 s], vc, vp, .int .i64 newest] w (Makes a s closed pins newest w) := by
  have Hc := Lib.hid hc
  have Hp := Lib.hid hp
  obtain ⟨ca, cc, rfl, hc1, hc2, hc3⟩ := hc.open
  obtain ⟨pa, pc, rfl, hp1, hp2, hp3⟩ := hp.open
  have Hc3 := Lib.hid hc3
  have Hp3 := Lib.hid hp3
  have hlpos := List.length_pos_iff.2 he
  have hl : ((closed.length : Int) == 0) = false := by rw [beq_eq_false_iff_ne]; omega
  have hn0' : decide (newest < 0) = false := by simpa using hn0
  have Hr := Lib.hid hr'
  have Hpol : Hid ((0 ≤ a ∧ a ≤ 4611686018427387904) ∧ 0 ≤ s ∧ s ≤ 4611686018427387904) := Lib.hid (by simpa [polR, and_assoc] using hr')
  obtain ⟨x0, hx0⟩ : ∃ x, closed[0]? = some x := ⟨closed[0], List.getElem?_eq_getElem hlpos⟩
  have Hx0 := Lib.hid hx0
  have He := Lib.hid he
  clear hc hp hc3 hp3 he hx0
  go_enter Try.func7, Try.ntmps7
  go_wp2_with fail
  refine (refright_any a s _).mono ?_
  rw [hr']
  rintro e w1 ⟨rfl, hb1⟩
  have hb1' := (((below_alloc w (.cells #[.int .i64 a, .int .i64 s] 23)).alloc (by simp) (.cells #[.int .i64 0, .int .u32 0, .int .u32 0, .int .i64 0] 38)).trans (hb1.mono (by simp; omega)))
  have b8 : Blk w1 (w.heap.size + 1) #[.int .i64 0, .int .u32 0, .int .u32 0, .int .i64 0] 38 := by
    have := (Blk.new (w.alloc (.cells #[.int .i64 a, .int .i64 s] 23)) #[.int .i64 0, .int .u32 0, .int .u32 0, .int .i64 0] 38)
    simp only [World.size_alloc] at this
    exact this.next hb1
  have b4 : Blk w1 w.heap.size #[.int .i64 a, .int .i64 s] 23 := ((Blk.new w #[.int .i64 a, .int .i64 s] 23).next (below_alloc _ _)).next hb1
  have HW0 : Hid (RkW w a s w1) := Lib.hid ⟨hb1', b4, b8⟩
  clear b4 b8 hb1 hb1' hr'
  go_wp2_with fail
  go_loopw [10, 11] (fun wl i wr => ∃ k : Nat, k ≤ closed.length ∧ i = .int .i64 k ∧ wl = .int .i64 (if k = 0 then 0 else (least x0 (closed.take k)).wall) ∧ Hid (∀ x ∈ closed.take k, stR x = true) ∧ Hid (RkW w a s wr)) (fun _ i _ => closed.length - (intOf i).toNat)
  case atStart => exact ⟨0, by omega, rfl, rfl, Lib.hid (by simp), HW0⟩
  case round =>
    obtain ⟨k, hk, rfl, hwl, Hk, HW⟩ := hrel
    have Hwl := Lib.hid hwl
    clear hwl
    by_cases hlt : k < closed.length
    · obtain ⟨x, hx⟩ : ∃ x, closed[k]? = some x := ⟨closed[k], List.getElem?_eq_getElem hlt⟩
      have hmem := Lib.hid (List.mem_of_getElem? hx)
      have Hsn := Lib.hid (least_snoc x0 closed k x hx)
      have Htk : Hid (closed.take (k + 1) = closed.take k ++ [x]) := Lib.hid (by
        obtain ⟨h1, h2⟩ := List.getElem?_eq_some_iff.1 hx
        rw [List.take_succ_eq_append_getElem h1, h2])
      have Hkx : Hid (k = 0 → x = x0) := Lib.hid (by intro h; subst h; have := Hx0.out; rw [hx] at this; exact Option.some.inj this)
      obtain ⟨b, o, rfl, c1, c2, c3⟩ := Hc3.out k x hx
      have lb := World.block_lt_of_cell? w _ c1
      have c1' : wr.cell? ⟨b, o + k * 3, none⟩ = some (.int .i64 x.wall) := (HW.out.1.cell (p := ⟨b, o + k * 3, none⟩) lb).trans c1
      have c2' : wr.cell? ⟨b, o + k * 3 + 1, none⟩ = some (.int .u32 x.tick) := (HW.out.1.cell (p := ⟨b, o + k * 3 + 1, none⟩) lb).trans c2
      have c3' : wr.cell? ⟨b, o + k * 3 + 2, none⟩ = some (.int .u32 x.mark) := (HW.out.1.cell (p := ⟨b, o + k * 3 + 2, none⟩) lb).trans c3
      clear hx
      go_wp2_with fail
      refine (refstr_any x _).mono ?_
      generalize hxr : stR x = xr
      have Hxr := Lib.hid hxr
      clear hxr
      rintro e w3 ⟨rfl, hb3⟩
      have HW3 := Lib.hid (HW.out.next hb3)
      have c1'' : w3.cell? ⟨b, o + k * 3, none⟩ = some (.int .i64 x.wall) := (HW3.out.1.cell (p := ⟨b, o + k * 3, none⟩) lb).trans c1
      clear hb3 c1' c2' c3' c1 c2 c3
      cases xr with
      | true =>
        have Hk2 : Hid (∀ x ∈ closed.take (k + 1), stR x = true) := Lib.hid (by
          rw [Htk.out]
          intro y hy
          rcases List.mem_append.1 hy with hy | hy
          · exact Hk.out y hy
          · simp at hy; subst hy; exact Hxr.out)
        by_cases hk0 : k = 0
        · subst hk0
          simp only [Nat.zero_mul, Nat.add_zero] at c1''
          have Hw : Hid ((least x0 (closed.take 1)).wall = x.wall) := Lib.hid (by
            have h1 := Hsn.out
            rw [Hkx.out rfl] at h1 ⊢
            have e0 : least x0 (closed.take 0) = x0 := rfl
            rw [e0] at h1
            have h2 : least x0 (closed.take 1) = x0 := by
              rw [h1]; split <;> rfl
            rw [h2])
          go_wp2_with fail
          go_roundw
          case rel => exact ⟨1, by omega, rfl, by rw [if_neg (by omega), Hw.out], Hk2, HW3⟩
          case measure => simp [intOf]; omega
        · have hk0' : ((k : Int) == 0) = false := by rw [beq_eq_false_iff_ne]; omega
          have Hw := Lib.hid (pick_wall x (least x0 (closed.take k)))
          have hwl := Hwl.out
          rw [if_neg hk0] at hwl
          have Hls := Hsn
          generalize least x0 (closed.take k) = m at *
          subst hwl
          by_cases hlw : x.wall < m.wall
          · have Hw2 : Hid ((least x0 (closed.take (k + 1))).wall = x.wall) := Lib.hid (by rw [Hls.out, Hw.out, if_pos hlw])
            go_wp2_with fail
            go_roundw
            case rel => exact ⟨k + 1, by omega, by go_num, by rw [if_neg (by omega), Hw2.out], Hk2, HW3⟩
            case measure => simp [intOf]; omega
          · have Hw2 : Hid ((least x0 (closed.take (k + 1))).wall = m.wall) := Lib.hid (by rw [Hls.out, Hw.out, if_neg hlw])
            have hlw' : decide (x.wall < m.wall) = false := by simpa using hlw
            go_wp2_with fail
            go_roundw
            case rel => exact ⟨k + 1, by omega, by go_num, by rw [if_neg (by omega), Hw2.out], Hk2, HW3⟩
            case measure => simp [intOf]; omega
      | false =>
        have Hno : Hid (¬ okArgs a s closed pins newest) := Lib.hid (fun h => by have := h.2.2.2.2.1 x hmem.out; rw [Hxr.out] at this; cases this)
        have b8 := HW3.out.2.2
        have f0 := b8.free 0
        have f1 := b8.free 1
        have f2 := b8.free 2
        have f3 := b8.free 3
        have c0 : w3.cell? ⟨w.heap.size + 1, 0, none⟩ = some (.int .i64 0) := b8.cell 0
        have c1 : w3.cell? ⟨w.heap.size + 1, 1, none⟩ = some (.int .u32 0) := b8.cell 1
        have c2 : w3.cell? ⟨w.heap.size + 1, 2, none⟩ = some (.int .u32 0) := b8.cell 2
        have c3 : w3.cell? ⟨w.heap.size + 1, 3, none⟩ = some (.int .i64 0) := b8.cell 3
        clear b8
        go_wp2_with fail
        refine bodyPost_ret (v := .tuple #[noPlan.val, .int .i64 1]) (by simp [results, Try.results7, go_sem, c0, c1, c2, c3, noPlan, Plan.val]) rfl ⟨?_, .inr ⟨Hno.out, rfl⟩⟩
        exact ((((HW3.out.1.setCell (by simp) _).setCell (by simp) _).setCell (by simp) _).setCell (by simp) _)
    · obtain rfl : k = closed.length := by omega
      have hwl := Hwl.out
      rw [if_neg (by omega), List.take_length] at hwl
      have Hcl : Hid (∀ x ∈ closed, stR x = true) := Lib.hid (by have := Hk.out; rwa [List.take_length] at this)
      have HM2 : Hid (stR (least x0 closed) = true) := Lib.hid (by
        rcases least_mem x0 closed with h | h
        · rw [h]; exact Hcl.out x0 (List.mem_of_getElem? Hx0.out)
        · exact Hcl.out _ h)
      have Hdef : Hid (planOf a s closed pins newest = ⟨least (cut0 a (least x0 closed)) pins, max 0 (newest - s)⟩) := Lib.hid (by
        unfold planOf
        have : closed.headD ⟨0, 0, 0⟩ = x0 := by
          have h := Hx0.out
          cases hcl : closed with
          | nil => rw [hcl] at h; simp at h
          | cons y t => rw [hcl] at h; simpa using h
        rw [this])
      generalize least x0 closed = m at *
      subst hwl
      clear Hwl
      obtain ⟨⟨ha1, ha2⟩, hs1, hs2⟩ := Hpol.out
      have hm : 0 ≤ m.wall ∧ m.wall ≤ 4611686018427387904 := by simpa [stR] using HM2.out
      obtain ⟨hm1, hm2⟩ := hm
      have b4 := HW.out.2.1
      have a0 : wr.cell? ⟨w.heap.size, 0, none⟩ = some (.int .i64 a) := b4.cell 0
      have lN : w.heap.size < wr.heap.size := b4.lt
      have lN1 : w.heap.size + 1 < wr.heap.size := HW.out.2.2.lt
      clear b4
      go_upto_if 63 with (fail)
      go_cut [10] (fun _ wc => Hid (RkP w a s wr.heap.size (cut0 a m) wc))
      case first =>
        by_cases hw : a < m.wall
        · have Hcut : Hid (cut0 a m = ⟨m.wall - a, 0, 0⟩) := Lib.hid (by unfold cut0; rw [if_pos (by omega)])
          go_wp2_with fail
          go_meet
          rw [Hcut.out]
          exact Lib.hid ⟨HW.out.next (below_alloc _ _), Blk.new _ _ _, lN1⟩
        · have Hcut : Hid (cut0 a m = ⟨0, 0, 0⟩) := Lib.hid (by
            unfold cut0
            by_cases h : a ≤ m.wall
            · rw [if_pos h, show m.wall - a = 0 by omega]
            · rw [if_neg h])
          have hw' : m.wall ≤ a := by omega
          go_wp2_with fail
          go_meet
          rw [Hcut.out]
          exact Lib.hid ⟨HW.out.next (below_alloc _ _), Blk.new _ _ _, lN1⟩
      case rest =>
        have HP := hcut
        clear hcut a0
        generalize wr.heap.size = g2 at *
        generalize cut0 a m = c0 at *
        go_wp2_with fail
        go_loopw [13] (fun j wr => ∃ j' : Nat, j' ≤ pins.length ∧ j = .int .i64 j' ∧ Hid (∀ x ∈ pins.take j', stR x = true) ∧ Hid (RkP w a s g2 (least c0 (pins.take j')) wr)) (fun j _ => pins.length - (intOf j).toNat)
        case atStart => exact ⟨0, by omega, rfl, Lib.hid (by simp), HP⟩
        case round =>
          obtain ⟨j, hj, rfl, Hj, HPi⟩ := hrel
          by_cases hlt : j < pins.length
          · obtain ⟨x, hx⟩ : ∃ x, pins[j]? = some x := ⟨pins[j], List.getElem?_eq_getElem hlt⟩
            have hmem := Lib.hid (List.mem_of_getElem? hx)
            have Hsn := Lib.hid (least_snoc c0 pins j x hx)
            have Htk : Hid (pins.take (j + 1) = pins.take j ++ [x]) := Lib.hid (by
              obtain ⟨h1, h2⟩ := List.getElem?_eq_some_iff.1 hx
              rw [List.take_succ_eq_append_getElem h1, h2])
            obtain ⟨b, o, rfl, c1, c2, c3⟩ := Hp3.out j x hx
            have lb := World.block_lt_of_cell? w _ c1
            have c1' : wr.cell? ⟨b, o + j * 3, none⟩ = some (.int .i64 x.wall) := (HPi.out.1.1.cell (p := ⟨b, o + j * 3, none⟩) lb).trans c1
            have c2' : wr.cell? ⟨b, o + j * 3 + 1, none⟩ = some (.int .u32 x.tick) := (HPi.out.1.1.cell (p := ⟨b, o + j * 3 + 1, none⟩) lb).trans c2
            have c3' : wr.cell? ⟨b, o + j * 3 + 2, none⟩ = some (.int .u32 x.mark) := (HPi.out.1.1.cell (p := ⟨b, o + j * 3 + 2, none⟩) lb).trans c3
            clear hx
            go_wp2_with fail
            refine (refstr_any x _).mono ?_
            generalize hxr : stR x = xr
            have Hxr := Lib.hid hxr
            clear hxr
            rintro e w3 ⟨rfl, hb3⟩
            have HP3 := Lib.hid (HPi.out.next hb3)
            have e1 : w3.cell? ⟨b, o + j * 3, none⟩ = some (.int .i64 x.wall) := (HP3.out.1.1.cell (p := ⟨b, o + j * 3, none⟩) lb).trans c1
            have e2 : w3.cell? ⟨b, o + j * 3 + 1, none⟩ = some (.int .u32 x.tick) := (HP3.out.1.1.cell (p := ⟨b, o + j * 3 + 1, none⟩) lb).trans c2
            have e3 : w3.cell? ⟨b, o + j * 3 + 2, none⟩ = some (.int .u32 x.mark) := (HP3.out.1.1.cell (p := ⟨b, o + j * 3 + 2, none⟩) lb).trans c3
            clear hb3 c1' c2' c3'
            cases xr with
            | false =>
              have Hno : Hid (¬ okArgs a s closed pins newest) := Lib.hid (fun h => by have := h.2.2.2.2.2 x hmem.out; rw [Hxr.out] at this; cases this)
              have b8 := HP3.out.1.2.2
              have f0 := b8.free 0
              have f1 := b8.free 1
              have f2 := b8.free 2
              have f3 := b8.free 3
              have c0' : w3.cell? ⟨w.heap.size + 1, 0, none⟩ = some (.int .i64 0) := b8.cell 0
              have c1' : w3.cell? ⟨w.heap.size + 1, 1, none⟩ = some (.int .u32 0) := b8.cell 1
              have c2' : w3.cell? ⟨w.heap.size + 1, 2, none⟩ = some (.int .u32 0) := b8.cell 2
              have c3' : w3.cell? ⟨w.heap.size + 1, 3, none⟩ = some (.int .i64 0) := b8.cell 3
              clear b8 e1 e2 e3 c1 c2 c3
              go_wp2_with fail
              refine bodyPost_ret (v := .tuple #[noPlan.val, .int .i64 1]) (by simp [results, Try.results7, go_sem, c0', c1', c2', c3', noPlan, Plan.val]) rfl ⟨?_, .inr ⟨Hno.out, rfl⟩⟩
              exact ((((HP3.out.1.1.setCell (by simp) _).setCell (by simp) _).setCell (by simp) _).setCell (by simp) _)
            | true =>
              have Hj2 : Hid (∀ x ∈ pins.take (j + 1), stR x = true) := Lib.hid (by
                rw [Htk.out]
                intro y hy
                rcases List.mem_append.1 hy with hy | hy
                · exact Hj.out y hy
                · simp at hy; subst hy; exact Hxr.out)
              generalize least c0 (pins.take j) = m2 at *
              have bg := HP3.out.2.1
              have q0 : w3.cell? ⟨g2, 0, none⟩ = some (.int .i64 m2.wall) := bg.cell 0
              have q1 : w3.cell? ⟨g2, 1, none⟩ = some (.int .u32 m2.tick) := bg.cell 1
              have q2 : w3.cell? ⟨g2, 2, none⟩ = some (.int .u32 m2.mark) := bg.cell 2
              have lg2 := bg.lt
              have lb3 : b < w3.heap.size := Nat.lt_of_lt_of_le lb HP3.out.1.1.size
              have hi0 : (0 : Int) ≤ (j : Int) := by omega
              have hi1 : (j : Int) < (pins.length : Int) := by omega
              clear bg c1 c2 c3
              go_wp2_with fail
              go_region_held3 (fun w' => w'.cell? ⟨b, o + j * 3, none⟩ = some (.int .i64 x.wall) ∧ w'.cell? ⟨b, o + j * 3 + 1, none⟩ = some (.int .u32 x.tick) ∧ w'.cell? ⟨b, o + j * 3 + 2, none⟩ = some (.int .u32 x.mark) ∧ w'.cell? ⟨g2, 0, none⟩ = some (.int .i64 m2.wall) ∧ w'.cell? ⟨g2, 1, none⟩ = some (.int .u32 m2.tick) ∧ w'.cell? ⟨g2, 2, none⟩ = some (.int .u32 m2.mark))
                (first | go_keep | (exact ⟨(hb4.cell (p := ⟨b, o + j * 3, none⟩) lb3).trans e1, (hb4.cell (p := ⟨b, o + j * 3 + 1, none⟩) lb3).trans e2, (hb4.cell (p := ⟨b, o + j * 3 + 2, none⟩) lb3).trans e3, (hb4.cell (p := ⟨g2, 0, none⟩) lg2).trans q0, (hb4.cell (p := ⟨g2, 1, none⟩) lg2).trans q1, (hb4.cell (p := ⟨g2, 2, none⟩) lg2).trans q2⟩))
                (first | (go_at_call 16; refine (blw_any x m2 _).mono ?_; rintro e w4 ⟨rfl, hb4⟩))
              have hb5 : Below w3.heap.size w3 w4 := ⟨hb4.os, hb4.tape, hb4.output, hb4.size, hb4.block⟩
              have HP4 := Lib.hid (HP3.out.next hb5)
              have Hbc := Lib.hid (blw_cmp x m2)
              have r1 : w4.cell? ⟨b, o + j * 3, none⟩ = some (.int .i64 x.wall) := (hb5.cell (p := ⟨b, o + j * 3, none⟩) lb3).trans e1
              have r2 : w4.cell? ⟨b, o + j * 3 + 1, none⟩ = some (.int .u32 x.tick) := (hb5.cell (p := ⟨b, o + j * 3 + 1, none⟩) lb3).trans e2
              have r3 : w4.cell? ⟨b, o + j * 3 + 2, none⟩ = some (.int .u32 x.mark) := (hb5.cell (p := ⟨b, o + j * 3 + 2, none⟩) lb3).trans e3
              have bg := HP4.out.2.1
              have f0 := bg.free 0
              have f1 := bg.free 1
              have f2 := bg.free 2
              have q0' : w4.cell? ⟨g2, 0, none⟩ = some (.int .i64 m2.wall) := bg.cell 0
              have q1' : w4.cell? ⟨g2, 1, none⟩ = some (.int .u32 m2.tick) := bg.cell 1
              have q2' : w4.cell? ⟨g2, 2, none⟩ = some (.int .u32 m2.mark) := bg.cell 2
              clear hb4 hb5 bg e1 e2 e3 q0 q1 q2
              generalize blw x m2 = bl at *
              cases bl with
              | true =>
                have Hst := Lib.hid (HP4.out.put x)
                have Hls : Hid (least c0 (pins.take (j + 1)) = x) := Lib.hid (by rw [Hsn.out, if_pos (Hbc.out.1 rfl)])
                go_wp2_with fail
                go_roundw
                case rel => exact ⟨j + 1, by omega, by go_num, Hj2, by rw [Hls.out]; exact Hst⟩
                case measure => simp [intOf]; omega
              | false =>
                have Hls : Hid (least c0 (pins.take (j + 1)) = m2) := Lib.hid (by rw [Hsn.out, if_neg (fun h => by have := Hbc.out.2 h; cases this)])
                go_wp2_with fail
                go_roundw
                case rel => exact ⟨j + 1, by omega, by go_num, Hj2, by rw [Hls.out]; exact HP4⟩
                case measure => simp [intOf]; omega
          · obtain rfl : j = pins.length := by omega
            rw [List.take_length] at HPi Hj
            have Hok : Hid (okArgs a s closed pins newest) := Lib.hid ⟨Hr.out, He.out, hn0, hn, Hcl.out, Hj.out⟩
            generalize least c0 pins = m2 at *
            have bg := HPi.out.2.1
            have q0 : wr.cell? ⟨g2, 0, none⟩ = some (.int .i64 m2.wall) := bg.cell 0
            have q1 : wr.cell? ⟨g2, 1, none⟩ = some (.int .u32 m2.tick) := bg.cell 1
            have q2 : wr.cell? ⟨g2, 2, none⟩ = some (.int .u32 m2.mark) := bg.cell 2
            have q3 : wr.cell? ⟨g2, 3, none⟩ = some (.int .i64 0) := bg.cell 3
            have qf := bg.free 3
            have b8 := HPi.out.1.2.2
            have c0' : wr.cell? ⟨w.heap.size + 1, 0, none⟩ = some (.int .i64 0) := b8.cell 0
            have c1' : wr.cell? ⟨w.heap.size + 1, 1, none⟩ = some (.int .u32 0) := b8.cell 1
            have c2' : wr.cell? ⟨w.heap.size + 1, 2, none⟩ = some (.int .u32 0) := b8.cell 2
            have c3' : wr.cell? ⟨w.heap.size + 1, 3, none⟩ = some (.int .i64 0) := b8.cell 3
            have f0 := b8.free 0
            have f1 := b8.free 1
            have f2 := b8.free 2
            have f3 := b8.free 3
            have b4 := HPi.out.1.2.1
            have a1 : wr.cell? ⟨w.heap.size, 1, none⟩ = some (.int .i64 s) := b4.cell 1
            have hg2 : w.heap.size + 1 < g2 := HPi.out.2.2
            clear bg b8 b4
            by_cases hsn : s < newest
            · have Hmx : Hid (max 0 (newest - s) = newest - s) := Lib.hid (by omega)
              have HH : Hid (RkW w a s (wr.setCell ⟨g2, 3, none⟩ (.int .i64 (newest - s)))) := Lib.hid ⟨HPi.out.1.1.setCell (p := ⟨g2, 3, none⟩) (by show w.heap.size ≤ g2; omega) _, HPi.out.1.2.1.other _ _ (by omega), HPi.out.1.2.2.other _ _ (by omega)⟩
              go_wp2_with fail
              have b8 := HH.out.2.2
              have k0 : (wr.setCell ⟨g2, 3, none⟩ (.int .i64 (newest - s))).cell? ⟨w.heap.size + 1, 0, none⟩ = some (.int .i64 0) := b8.cell 0
              have k1 : (wr.setCell ⟨g2, 3, none⟩ (.int .i64 (newest - s))).cell? ⟨w.heap.size + 1, 1, none⟩ = some (.int .u32 0) := b8.cell 1
              have k2 : (wr.setCell ⟨g2, 3, none⟩ (.int .i64 (newest - s))).cell? ⟨w.heap.size + 1, 2, none⟩ = some (.int .u32 0) := b8.cell 2
              have k3 : (wr.setCell ⟨g2, 3, none⟩ (.int .i64 (newest - s))).cell? ⟨w.heap.size + 1, 3, none⟩ = some (.int .i64 0) := b8.cell 3
              have hbw := HH.out.1
              clear b8 q0 q1 q2 q3 qf c0' c1' c2' c3' f0 f1 f2 f3 a1 HH
              generalize wr.setCell ⟨g2, 3, none⟩ (.int .i64 (newest - s)) = wz at *
              refine bodyPost_ret (v := .tuple #[.agg #[.int .i64 m2.wall, .int .u32 m2.tick, .int .u32 m2.mark, .int .i64 (newest - s)], .int .i64 0]) (by simp [results, Try.results7, go_sem, k0, k1, k2, k3]) rfl ⟨?_, .inl ⟨Hok.out, by rw [Hdef.out, Hmx.out]; rfl⟩⟩
              exact ((((hbw.setCell (by simp) _).setCell (by simp) _).setCell (by simp) _).setCell (by simp) _)
            · have Hmx : Hid (max 0 (newest - s) = 0) := Lib.hid (by omega)
              have hsn' : newest ≤ s := by omega
              go_wp2_with fail
              refine bodyPost_ret (v := .tuple #[.agg #[.int .i64 m2.wall, .int .u32 m2.tick, .int .u32 m2.mark, .int .i64 0], .int .i64 0]) (by simp [results, Try.results7, go_sem, c0', c1', c2', c3']) rfl ⟨?_, .inl ⟨Hok.out, by rw [Hdef.out, Hmx.out]; rfl⟩⟩
              exact ((((HPi.out.1.1.setCell (by simp) _).setCell (by simp) _).setCell (by simp) _).setCell (by simp) _)

theorem refmake_any (a s : Int) (vc vp : Value) (closed pins : List St) (newest : Int) (w : World) (hc : RdSt w vc closed) (hp : RdSt w vp pins) :
    Calls Try.prog 7 #[.agg #[.int .i64 a, .int .i64 s], vc, vp, .int .i64 newest] w (Makes a s closed pins newest w) := by
  by_cases h1 : polR a s = true
  case neg => exact refmake_pol a s vc vp closed pins newest w hc hp (by simpa using h1)
  by_cases h2 : closed = []
  case pos => exact refmake_empty a s vc vp closed pins newest w hc hp h1 h2
  by_cases h3 : newest < 0
  case pos => exact refmake_neg a s vc vp closed pins newest w hc hp h1 h2 h3
  by_cases h4 : 4611686018427387904 < newest
  case pos => exact refmake_far a s vc vp closed pins newest w hc hp h1 h2 (by omega) h4
  exact refmake_main a s vc vp closed pins newest w hc hp h1 h2 (by omega) (by omega)
end Go.Proofs.Ytabpcbjjchhbeaa
