/- The contract of keep.Make (5), where policy and times may be. -/
import Derived.Test.YtabpcbjjchhbeaaW3
import Derived.Deep.CutBlock
import Derived.Deep.DeepCutAuto
namespace Go.Proofs.Ytabpcbjjchhbeaa
open Go.RowKit Go.Kt

/-- the world while Make runs -/
def MkW (w : World) (g : Nat) (a s : Int) (x : St) (wr : World) : Prop :=
  Below w.heap.size w wr ∧ Blk wr w.heap.size #[.int .i64 a, .int .i64 s] 25 ∧ Blk wr (w.heap.size + 1) #[.int .i64 0, .int .u32 0, .int .u32 0, .int .i64 0] 30 ∧ Blk wr g #[.int .i64 x.wall, .int .u32 x.tick, .int .u32 x.mark] 28 ∧ w.heap.size + 1 < g
theorem MkW.next {w : World} {g : Nat} {a s : Int} {x : St} {wr wr' : World} (h : MkW w g a s x wr) (hb : Below wr.heap.size wr wr') : MkW w g a s x wr' :=
  ⟨h.1.trans (hb.mono h.1.size), h.2.1.next hb, h.2.2.1.next hb, h.2.2.2.1.next hb, h.2.2.2.2⟩

/-- the world while the plan is made -/
def MkP (w : World) (g : Nat) (c : St) (h : Int) (wr : World) : Prop :=
  Below w.heap.size w wr ∧ Blk wr (w.heap.size + 1) #[.int .i64 0, .int .u32 0, .int .u32 0, .int .i64 0] 30 ∧ Blk wr g #[.int .i64 c.wall, .int .u32 c.tick, .int .u32 c.mark, .int .i64 h] 30 ∧ w.heap.size + 1 < g
theorem MkP.next {w : World} {g : Nat} {c : St} {h : Int} {wr wr' : World} (hh : MkP w g c h wr) (hb : Below wr.heap.size wr wr') : MkP w g c h wr' :=
  ⟨hh.1.trans (hb.mono hh.1.size), hh.2.1.next hb, hh.2.2.1.next hb, hh.2.2.2⟩
theorem MkP.put {w : World} {g : Nat} {c : St} {h : Int} {wr : World} (hh : MkP w g c h wr) (x : St) :
    MkP w g x h (((wr.setCell ⟨g, 0, none⟩ (.int .i64 x.wall)).setCell ⟨g, 1, none⟩ (.int .u32 x.tick)).setCell ⟨g, 2, none⟩ (.int .u32 x.mark)) := by
  obtain ⟨h1, h2, h3, h4⟩ := hh
  exact ⟨((h1.setCell (p := ⟨g, 0, none⟩) (by show w.heap.size ≤ g; omega) _).setCell (p := ⟨g, 1, none⟩) (by show w.heap.size ≤ g; omega) _).setCell (p := ⟨g, 2, none⟩) (by show w.heap.size ≤ g; omega) _, ((h2.other _ _ (by omega)).other _ _ (by omega)).other _ _ (by omega), ((h3.set 0 _).set 1 _).set 2 _, h4⟩

set_option maxRecDepth 100000 in
set_option maxHeartbeats 8000000 in
theorem make_main (a s : Int) (vc vp : Value) (closed pins : List St) (newest : Int) (w : World) (hc : RdSt w vc closed) (hp : RdSt w vp pins) (hr' : polR a s = true) (he : closed ≠ []) (hn0 : 0 ≤ newest) (hn : newest ≤ 4611686018427387904) :
    Calls Try.prog 5 #[.agg #[.int .i64 a, .int .i64 s], vc, vp, .int .i64 newest] w (Makes a s closed pins newest w) := by
  have Hc := Lib.hid hc
  have Hp := Lib.hid hp
  obtain ⟨ca, cc, rfl, hc1, hc2, hc3⟩ := hc.open
  obtain ⟨pa, pc, rfl, hp1, hp2, hp3⟩ := hp.open
  have Hc3 := Lib.hid hc3
  have Hp3 := Lib.hid hp3
  have hlpos := List.length_pos_iff.2 he
  have hl : ((closed.length : Int) == 0) = false := by rw [beq_eq_false_iff_ne]; omega
  have hn0' : decide (newest < 0) = false := by simpa using hn0
  have Hr := Lib.hid hr'
  have Hpol : Hid ((0 ≤ a ∧ a ≤ 4611686018427387904) ∧ 0 ≤ s ∧ s ≤ 4611686018427387904) := Lib.hid (by simpa [polR, and_assoc] using hr')
  obtain ⟨x0, hx0⟩ : ∃ x, closed[0]? = some x := ⟨closed[0], List.getElem?_eq_getElem hlpos⟩
  have Hx0 := Lib.hid hx0
  have He := Lib.hid he
  obtain ⟨b0, o0, rfl, d0, d1, d2⟩ := hc3 0 x0 hx0
  have lb0 := World.block_lt_of_cell? w _ d0
  simp only [Nat.zero_mul, Nat.add_zero] at d0 d1 d2
  clear hc hp hc3 hp3 he hx0
  go_enter Try.func5, Try.ntmps5
  go_wp2_with fail
  refine (right_any a s _).mono ?_
  rw [hr']
  rintro e w1 ⟨rfl, hb1⟩
  have hb1' := (((below_alloc w (.cells #[.int .i64 a, .int .i64 s] 25)).alloc (by simp) (.cells #[.int .i64 0, .int .u32 0, .int .u32 0, .int .i64 0] 30)).trans (hb1.mono (by simp; omega)))
  have hz1 := hb1.size
  simp only [World.size_alloc] at hz1
  have b8 : Blk w1 (w.heap.size + 1) #[.int .i64 0, .int .u32 0, .int .u32 0, .int .i64 0] 30 := by
    have := (Blk.new (w.alloc (.cells #[.int .i64 a, .int .i64 s] 25)) #[.int .i64 0, .int .u32 0, .int .u32 0, .int .i64 0] 30)
    simp only [World.size_alloc] at this
    exact this.next hb1
  have b4 : Blk w1 w.heap.size #[.int .i64 a, .int .i64 s] 25 := ((Blk.new w #[.int .i64 a, .int .i64 s] 25).next (below_alloc _ _)).next hb1
  have d0' : w1.cell? ⟨b0, o0, none⟩ = some (.int .i64 x0.wall) := (hb1'.cell (p := ⟨b0, o0, none⟩) lb0).trans d0
  have d1' : w1.cell? ⟨b0, o0 + 1, none⟩ = some (.int .u32 x0.tick) := (hb1'.cell (p := ⟨b0, o0 + 1, none⟩) lb0).trans d1
  have d2' : w1.cell? ⟨b0, o0 + 2, none⟩ = some (.int .u32 x0.mark) := (hb1'.cell (p := ⟨b0, o0 + 2, none⟩) lb0).trans d2
  have HW0 : Hid (MkW w w1.heap.size a s x0 (w1.alloc (.cells #[.int .i64 x0.wall, .int .u32 x0.tick, .int .u32 x0.mark] 28))) := Lib.hid
    ⟨hb1'.alloc hb1'.size _, b4.next (below_alloc _ _), b8.next (below_alloc _ _), Blk.new _ _ _, by omega⟩
  have hg10 : w.heap.size + 1 < w1.heap.size := by omega
  clear d0 d1 d2 b4 b8 hb1 hb1' hr'
  have i0 : ∀ (x0 x1 : Value) (w : World), (Instr.index 51 (.agg #[x0, x1]) (.int .i64 0)).run Try.prog w = .ok x0 w := fun _ _ _ => by kernel_rfl
  have i1 : ∀ (x0 x1 : Value) (w : World), (Instr.index 51 (.agg #[x0, x1]) (.int .i64 1)).run Try.prog w = .ok x1 w := fun _ _ _ => by kernel_rfl
  go_upto_block 0 with (fail)
  generalize w1.alloc (.cells #[.int .i64 x0.wall, .int .u32 x0.tick, .int .u32 x0.mark] 28) = w2 at *
  generalize w1.heap.size = g at *
  clear d0' d1' d2'
  go_cut [12] (fun _ wc => Hid (∀ x ∈ closed, stR x = true) ∧ Hid (∀ x ∈ pins, stR x = true) ∧ Hid (MkW w g a s x0 wc))
  case first =>
    go_wp2_with fail
    go_loopw [12, 14, 43] (fun _ _ i wr => Hid (MkW w g a s x0 wr) ∧ (i = .int .i64 0 ∨ (i = .int .i64 1 ∧ Hid (∀ x ∈ closed, stR x = true)) ∨ (i = .int .i64 2 ∧ Hid (∀ x ∈ closed, stR x = true) ∧ Hid (∀ x ∈ pins, stR x = true)))) (fun _ _ i _ => 2 - (intOf i).toNat)
    case atStart => exact ⟨HW0, .inl rfl⟩
    case round =>
      obtain ⟨wo, rfl⟩ : ∃ wo : World, wo = wr := ⟨_, rfl⟩
      rcases hrel with ⟨HW, rfl | ⟨rfl, Hcl⟩ | ⟨rfl, Hcl, Hpi⟩⟩
      case inl =>
        go_wp2_with fail
        go_loopw [14, 48] (fun _ j wi => ∃ j' : Nat, j' ≤ closed.length ∧ j = .int .i64 j' ∧ Hid (∀ x ∈ closed.take j', stR x = true) ∧ Hid (MkW w g a s x0 wi)) (fun _ j _ => closed.length - (intOf j).toNat)
        case atStart => exact ⟨0, by omega, rfl, Lib.hid (by simp), HW⟩
        case round =>
          obtain ⟨j, hj, rfl, Hj, HWi⟩ := hrel
          by_cases hlt : j < closed.length
          · obtain ⟨x, hx⟩ : ∃ x, closed[j]? = some x := ⟨closed[j], List.getElem?_eq_getElem hlt⟩
            have hmem := Lib.hid (List.mem_of_getElem? hx)
            have Htk : Hid (closed.take (j + 1) = closed.take j ++ [x]) := Lib.hid (by
              obtain ⟨h1, h2⟩ := List.getElem?_eq_some_iff.1 hx
              rw [List.take_succ_eq_append_getElem h1, h2])
            obtain ⟨b, o, e0, c1, c2, c3⟩ := Hc3.out j x hx
            cases e0
            have lb := World.block_lt_of_cell? w _ c1
            have c1' : wr.cell? ⟨b0, o0 + j * 3, none⟩ = some (.int .i64 x.wall) := (HWi.out.1.cell (p := ⟨b0, o0 + j * 3, none⟩) lb).trans c1
            have c2' : wr.cell? ⟨b0, o0 + j * 3 + 1, none⟩ = some (.int .u32 x.tick) := (HWi.out.1.cell (p := ⟨b0, o0 + j * 3 + 1, none⟩) lb).trans c2
            have c3' : wr.cell? ⟨b0, o0 + j * 3 + 2, none⟩ = some (.int .u32 x.mark) := (HWi.out.1.cell (p := ⟨b0, o0 + j * 3 + 2, none⟩) lb).trans c3
            clear c1 c2 c3 hx
            go_wp2_with fail
            refine (str_any x _).mono ?_
            generalize hxr : stR x = xr
            have Hxr := Lib.hid hxr
            clear hxr
            rintro e w3 ⟨rfl, hb3⟩
            have HW3 := Lib.hid ((HWi.out.next (below_alloc wr _)).next hb3)
            clear hb3 c1' c2' c3'
            cases xr with
            | true =>
              have Hj2 : Hid (∀ x ∈ closed.take (j + 1), stR x = true) := Lib.hid (by
                rw [Htk.out]
                intro y hy
                rcases List.mem_append.1 hy with hy | hy
                · exact Hj.out y hy
                · simp at hy; subst hy; exact Hxr.out)
              go_wp2_with fail
              go_roundw
              case rel => exact ⟨j + 1, by omega, by go_num, Hj2, HW3⟩
              case measure => simp [intOf]; omega
            | false =>
              have Hno : Hid (¬ okArgs a s closed pins newest) := Lib.hid (fun h => by have := h.2.2.2.2.1 x hmem.out; rw [Hxr.out] at this; cases this)
              have b8 := HW3.out.2.2.1
              have f0 := b8.free 0
              have f1 := b8.free 1
              have f2 := b8.free 2
              have f3 := b8.free 3
              have c0 : w3.cell? ⟨w.heap.size + 1, 0, none⟩ = some (.int .i64 0) := b8.cell 0
              have c1 : w3.cell? ⟨w.heap.size + 1, 1, none⟩ = some (.int .u32 0) := b8.cell 1
              have c2 : w3.cell? ⟨w.heap.size + 1, 2, none⟩ = some (.int .u32 0) := b8.cell 2
              have c3 : w3.cell? ⟨w.heap.size + 1, 3, none⟩ = some (.int .i64 0) := b8.cell 3
              clear b8
              go_wp2_with fail
              refine bodyPost_ret (v := .tuple #[noPlan.val, .int .i64 1]) (by simp [results, Try.results5, go_sem, c0, c1, c2, c3, noPlan, Plan.val]) rfl ⟨?_, .inr ⟨Hno.out, rfl⟩⟩
              exact ((((HW3.out.1.setCell (by simp) _).setCell (by simp) _).setCell (by simp) _).setCell (by simp) _)
          · obtain rfl : j = closed.length := by omega
            have Hall : Hid (∀ x ∈ closed, stR x = true) := Lib.hid (by have := Hj.out; rwa [List.take_length] at this)
            go_wp2_with fail
            go_roundw
            case rel => exact ⟨HWi, .inr (.inl ⟨rfl, Hall⟩)⟩
            case measure => simp [intOf]
      case inr.inl =>
        go_wp2_with fail
        go_loopw [14, 48] (fun _ j wi => ∃ j' : Nat, j' ≤ pins.length ∧ j = .int .i64 j' ∧ Hid (∀ x ∈ pins.take j', stR x = true) ∧ Hid (MkW w g a s x0 wi)) (fun _ j _ => pins.length - (intOf j).toNat)
        case atStart => exact ⟨0, by omega, rfl, Lib.hid (by simp), HW⟩
        case round =>
          obtain ⟨j, hj, rfl, Hj, HWi⟩ := hrel
          by_cases hlt : j < pins.length
          · obtain ⟨x, hx⟩ : ∃ x, pins[j]? = some x := ⟨pins[j], List.getElem?_eq_getElem hlt⟩
            have hmem := Lib.hid (List.mem_of_getElem? hx)
            have Htk : Hid (pins.take (j + 1) = pins.take j ++ [x]) := Lib.hid (by
              obtain ⟨h1, h2⟩ := List.getElem?_eq_some_iff.1 hx
              rw [List.take_succ_eq_append_getElem h1, h2])
            obtain ⟨b, o, e0, c1, c2, c3⟩ := Hp3.out j x hx
            cases e0
            have lb := World.block_lt_of_cell? w _ c1
            have c1' : wr.cell? ⟨b, o + j * 3, none⟩ = some (.int .i64 x.wall) := (HWi.out.1.cell (p := ⟨b, o + j * 3, none⟩) lb).trans c1
            have c2' : wr.cell? ⟨b, o + j * 3 + 1, none⟩ = some (.int .u32 x.tick) := (HWi.out.1.cell (p := ⟨b, o + j * 3 + 1, none⟩) lb).trans c2
            have c3' : wr.cell? ⟨b, o + j * 3 + 2, none⟩ = some (.int .u32 x.mark) := (HWi.out.1.cell (p := ⟨b, o + j * 3 + 2, none⟩) lb).trans c3
            clear c1 c2 c3 hx
            go_wp2_with fail
            refine (str_any x _).mono ?_
            generalize hxr : stR x = xr
            have Hxr := Lib.hid hxr
            clear hxr
            rintro e w3 ⟨rfl, hb3⟩
            have HW3 := Lib.hid ((HWi.out.next (below_alloc wr _)).next hb3)
            clear hb3 c1' c2' c3'
            cases xr with
            | true =>
              have Hj2 : Hid (∀ x ∈ pins.take (j + 1), stR x = true) := Lib.hid (by
                rw [Htk.out]
                intro y hy
                rcases List.mem_append.1 hy with hy | hy
                · exact Hj.out y hy
                · simp at hy; subst hy; exact Hxr.out)
              go_wp2_with fail
              go_roundw
              case rel => exact ⟨j + 1, by omega, by go_num, Hj2, HW3⟩
              case measure => simp [intOf]; omega
            | false =>
              have Hno : Hid (¬ okArgs a s closed pins newest) := Lib.hid (fun h => by have := h.2.2.2.2.2 x hmem.out; rw [Hxr.out] at this; cases this)
              have b8 := HW3.out.2.2.1
              have f0 := b8.free 0
              have f1 := b8.free 1
              have f2 := b8.free 2
              have f3 := b8.free 3
              have c0 : w3.cell? ⟨w.heap.size + 1, 0, none⟩ = some (.int .i64 0) := b8.cell 0
              have c1 : w3.cell? ⟨w.heap.size + 1, 1, none⟩ = some (.int .u32 0) := b8.cell 1
              have c2 : w3.cell? ⟨w.heap.size + 1, 2, none⟩ = some (.int .u32 0) := b8.cell 2
              have c3 : w3.cell? ⟨w.heap.size + 1, 3, none⟩ = some (.int .i64 0) := b8.cell 3
              clear b8
              go_wp2_with fail
              refine bodyPost_ret (v := .tuple #[noPlan.val, .int .i64 1]) (by simp [results, Try.results5, go_sem, c0, c1, c2, c3, noPlan, Plan.val]) rfl ⟨?_, .inr ⟨Hno.out, rfl⟩⟩
              exact ((((HW3.out.1.setCell (by simp) _).setCell (by simp) _).setCell (by simp) _).setCell (by simp) _)
          · obtain rfl : j = pins.length := by omega
            have Hall : Hid (∀ x ∈ pins, stR x = true) := Lib.hid (by have := Hj.out; rwa [List.take_length] at this)
            go_wp2_with fail
            go_roundw
            case rel => exact ⟨HWi, .inr (.inr ⟨rfl, Hcl, Hall⟩)⟩
            case measure => simp [intOf]
      case inr.inr =>
        go_wp2_with fail
        go_meet
        exact ⟨Hcl, Hpi, HW⟩
  case rest =>
    obtain ⟨Hcl, Hpi, HW⟩ := hcut
    have HM : Hid (∀ j, stR (least x0 (closed.take j)) = true) := Lib.hid (by
      intro j
      rcases least_mem x0 (closed.take j) with h | h
      · rw [h]; exact Hcl.out x0 (List.mem_of_getElem? Hx0.out)
      · exact Hcl.out _ (List.mem_of_mem_take h))
    go_wp2_with fail
    go_loopw [16, 60] (fun _ j wr => ∃ j' : Nat, j' ≤ closed.length ∧ j = .int .i64 j' ∧ Hid (MkW w g a s (least x0 (closed.take j')) wr)) (fun _ j _ => closed.length - (intOf j).toNat)
    case atStart => exact ⟨0, by omega, rfl, HW⟩
    case round =>
      obtain ⟨j, hj, rfl, HWi⟩ := hrel
      by_cases hlt : j < closed.length
      · obtain ⟨x, hx⟩ : ∃ x, closed[j]? = some x := ⟨closed[j], List.getElem?_eq_getElem hlt⟩
        have Hsn := Lib.hid (least_snoc x0 closed j x hx)
        obtain ⟨b, o, e0, c1, c2, c3⟩ := Hc3.out j x hx
        cases e0
        have lb := World.block_lt_of_cell? w _ c1
        have c1' : wr.cell? ⟨b0, o0 + j * 3, none⟩ = some (.int .i64 x.wall) := (HWi.out.1.cell (p := ⟨b0, o0 + j * 3, none⟩) lb).trans c1
        have c2' : wr.cell? ⟨b0, o0 + j * 3 + 1, none⟩ = some (.int .u32 x.tick) := (HWi.out.1.cell (p := ⟨b0, o0 + j * 3 + 1, none⟩) lb).trans c2
        have c3' : wr.cell? ⟨b0, o0 + j * 3 + 2, none⟩ = some (.int .u32 x.mark) := (HWi.out.1.cell (p := ⟨b0, o0 + j * 3 + 2, none⟩) lb).trans c3
        generalize least x0 (closed.take j) = m at *
        have bg := HWi.out.2.2.2.1
        have m0 : wr.cell? ⟨g, 0, none⟩ = some (.int .i64 m.wall) := bg.cell 0
        have m1 : wr.cell? ⟨g, 1, none⟩ = some (.int .u32 m.tick) := bg.cell 1
        have m2 : wr.cell? ⟨g, 2, none⟩ = some (.int .u32 m.mark) := bg.cell 2
        have lg := bg.lt
        clear c1 c2 c3 hx bg
        go_wp2_with fail
        refine (compare_any x m _).mono ?_
        generalize hcm : cmp x m = cm at *
        have Hcm := Lib.hid hcm
        clear hcm
        rintro e w3 ⟨rfl, hb3⟩
        have HW3 := Lib.hid ((HWi.out.next (below_alloc wr _)).next hb3)
        have bx := (Blk.new wr #[.int .i64 x.wall, .int .u32 x.tick, .int .u32 x.mark] 28).next hb3
        have n0 : w3.cell? ⟨wr.heap.size, 0, none⟩ = some (.int .i64 x.wall) := bx.cell 0
        have n1 : w3.cell? ⟨wr.heap.size, 1, none⟩ = some (.int .u32 x.tick) := bx.cell 1
        have n2 : w3.cell? ⟨wr.heap.size, 2, none⟩ = some (.int .u32 x.mark) := bx.cell 2
        have bg := HW3.out.2.2.2.1
        have f0 := bg.free 0
        have f1 := bg.free 1
        have f2 := bg.free 2
        have q0 : w3.cell? ⟨g, 0, none⟩ = some (.int .i64 m.wall) := bg.cell 0
        have q1 : w3.cell? ⟨g, 1, none⟩ = some (.int .u32 m.tick) := bg.cell 1
        have q2 : w3.cell? ⟨g, 2, none⟩ = some (.int .u32 m.mark) := bg.cell 2
        clear hb3 c1' c2' c3' m0 m1 m2 bx bg
        by_cases hneg : cm < 0
        · have Hst : Hid (MkW w g a s (least x0 (closed.take (j + 1))) (((w3.setCell ⟨g, 0, none⟩ (.int .i64 x.wall)).setCell ⟨g, 1, none⟩ (.int .u32 x.tick)).setCell ⟨g, 2, none⟩ (.int .u32 x.mark))) := Lib.hid (by
            have hlg : w.heap.size + 1 < g := HW3.out.2.2.2.2
            rw [Hsn.out, if_pos hneg]
            obtain ⟨h1, h2, h3, h4, h5⟩ := HW3.out
            exact ⟨((h1.setCell (p := ⟨g, 0, none⟩) (by show w.heap.size ≤ g; omega) _).setCell (p := ⟨g, 1, none⟩) (by show w.heap.size ≤ g; omega) _).setCell (p := ⟨g, 2, none⟩) (by show w.heap.size ≤ g; omega) _, ((h2.other _ _ (by omega)).other _ _ (by omega)).other _ _ (by omega), ((h3.other _ _ (by omega)).other _ _ (by omega)).other _ _ (by omega), ((h4.set 0 _).set 1 _).set 2 _, h5⟩)
          go_wp2_with fail
          go_roundw
          case rel => exact ⟨j + 1, by omega, by go_num, Hst⟩
          case measure => simp [intOf]; omega
        · have Hst : Hid (MkW w g a s (least x0 (closed.take (j + 1))) w3) := Lib.hid (by rw [Hsn.out, if_neg hneg]; exact HW3.out)
          have hneg' : 0 ≤ cm := by omega
          go_wp2_with fail
          go_roundw
          case rel => exact ⟨j + 1, by omega, by go_num, Hst⟩
          case measure => simp [intOf]; omega
      · obtain rfl : j = closed.length := by omega
        rw [List.take_length] at HWi
        have HM2 : Hid (stR (least x0 closed) = true) := Lib.hid (by have := HM.out closed.length; rwa [List.take_length] at this)
        have Hdef : Hid (planOf a s closed pins newest = ⟨least (cut0 a (least x0 closed)) pins, max 0 (newest - s)⟩) := Lib.hid (by
          unfold planOf
          have : closed.headD ⟨0, 0, 0⟩ = x0 := by
            have h := Hx0.out
            cases hcl : closed with
            | nil => rw [hcl] at h; simp at h
            | cons y t => rw [hcl] at h; simpa using h
          rw [this])
        have Hok : Hid (okArgs a s closed pins newest) := Lib.hid ⟨Hr.out, He.out, hn0, hn, Hcl.out, Hpi.out⟩
        generalize least x0 closed = m at *
        obtain ⟨⟨ha1, ha2⟩, hs1, hs2⟩ := Hpol.out
        have hm : 0 ≤ m.wall ∧ m.wall ≤ 4611686018427387904 := by simpa [stR] using HM2.out
        obtain ⟨hm1, hm2⟩ := hm
        have b4 := HWi.out.2.1
        have a0 : wr.cell? ⟨w.heap.size, 0, none⟩ = some (.int .i64 a) := b4.cell 0
        have a1 : wr.cell? ⟨w.heap.size, 1, none⟩ = some (.int .i64 s) := b4.cell 1
        have bg := HWi.out.2.2.2.1
        have m0 : wr.cell? ⟨g, 0, none⟩ = some (.int .i64 m.wall) := bg.cell 0
        clear bg b4
        have lg : g < wr.heap.size := HWi.out.2.2.2.1.lt
        have lN : w.heap.size < wr.heap.size := HWi.out.2.1.lt
        have lN1 : w.heap.size + 1 < wr.heap.size := HWi.out.2.2.1.lt
        by_cases hsn : 0 < newest - s
        · have Hmx : Hid (max 0 (newest - s) = newest - s) := Lib.hid (by omega)
          go_upto_if 80 with (fail)
          have HP0 : Hid (MkP w wr.heap.size ⟨0, 0, 0⟩ (newest - s) (wr.alloc (.cells #[.int .i64 0, .int .u32 0, .int .u32 0, .int .i64 (newest - s)] 30))) := Lib.hid ⟨HWi.out.1.alloc HWi.out.1.size _, HWi.out.2.2.1.next (below_alloc _ _), Blk.new _ _ _, lN1⟩
          go_cut [12] (fun _ wc => Hid (MkP w wr.heap.size (cut0 a m) (newest - s) wc))
          case first =>
            by_cases hw : a ≤ m.wall
            · have Hcut : Hid (cut0 a m = ⟨m.wall - a, 0, 0⟩) := Lib.hid (by unfold cut0; rw [if_pos hw])
              go_wp2_with fail
              go_meet
              rw [Hcut.out]
              exact Lib.hid ⟨HWi.out.1.alloc HWi.out.1.size _, HWi.out.2.2.1.next (below_alloc _ _), Blk.new _ _ _, lN1⟩
            · have Hcut : Hid (cut0 a m = ⟨0, 0, 0⟩) := Lib.hid (by unfold cut0; rw [if_neg hw])
              have hw' : m.wall < a := by omega
              go_wp2_with fail
              go_meet
              rw [Hcut.out]
              exact HP0
          case rest =>
            have HP := hcut
            clear hcut HP0 a0 a1 m0
            generalize wr.heap.size = g2 at *
            generalize cut0 a m = c0 at *
            go_wp2_with fail
            go_loopw [19, 90] (fun _ j wr => ∃ j' : Nat, j' ≤ pins.length ∧ j = .int .i64 j' ∧ Hid (MkP w g2 (least c0 (pins.take j')) (newest - s) wr)) (fun _ j _ => pins.length - (intOf j).toNat)
            case atStart => exact ⟨0, by omega, rfl, HP⟩
            case round =>
              obtain ⟨j, hj, rfl, HPi⟩ := hrel
              by_cases hlt : j < pins.length
              · obtain ⟨x, hx⟩ : ∃ x, pins[j]? = some x := ⟨pins[j], List.getElem?_eq_getElem hlt⟩
                have Hsn := Lib.hid (least_snoc c0 pins j x hx)
                obtain ⟨b, o, rfl, c1, c2, c3⟩ := Hp3.out j x hx
                have lb := World.block_lt_of_cell? w _ c1
                have c1' : wr.cell? ⟨b, o + j * 3, none⟩ = some (.int .i64 x.wall) := (HPi.out.1.cell (p := ⟨b, o + j * 3, none⟩) lb).trans c1
                have c2' : wr.cell? ⟨b, o + j * 3 + 1, none⟩ = some (.int .u32 x.tick) := (HPi.out.1.cell (p := ⟨b, o + j * 3 + 1, none⟩) lb).trans c2
                have c3' : wr.cell? ⟨b, o + j * 3 + 2, none⟩ = some (.int .u32 x.mark) := (HPi.out.1.cell (p := ⟨b, o + j * 3 + 2, none⟩) lb).trans c3
                generalize least c0 (pins.take j) = m2 at *
                have bg := HPi.out.2.2.1
                have m0 : wr.cell? ⟨g2, 0, none⟩ = some (.int .i64 m2.wall) := bg.cell 0
                have m1 : wr.cell? ⟨g2, 1, none⟩ = some (.int .u32 m2.tick) := bg.cell 1
                have mm2 : wr.cell? ⟨g2, 2, none⟩ = some (.int .u32 m2.mark) := bg.cell 2
                have lg2 := bg.lt
                clear c1 c2 c3 hx bg
                go_wp2_with fail
                refine (compare_any x m2 _).mono ?_
                generalize hcm : cmp x m2 = cm at *
                have Hcm := Lib.hid hcm
                clear hcm
                rintro e w3 ⟨rfl, hb3⟩
                have HP3 := Lib.hid ((HPi.out.next (below_alloc wr _)).next hb3)
                have bx := (Blk.new wr #[.int .i64 x.wall, .int .u32 x.tick, .int .u32 x.mark] 28).next hb3
                have n0 : w3.cell? ⟨wr.heap.size, 0, none⟩ = some (.int .i64 x.wall) := bx.cell 0
                have n1 : w3.cell? ⟨wr.heap.size, 1, none⟩ = some (.int .u32 x.tick) := bx.cell 1
                have n2 : w3.cell? ⟨wr.heap.size, 2, none⟩ = some (.int .u32 x.mark) := bx.cell 2
                have bg := HP3.out.2.2.1
                have f0 := bg.free 0
                have f1 := bg.free 1
                have f2 := bg.free 2
                have q0 : w3.cell? ⟨g2, 0, none⟩ = some (.int .i64 m2.wall) := bg.cell 0
                have q1 : w3.cell? ⟨g2, 1, none⟩ = some (.int .u32 m2.tick) := bg.cell 1
                have q2 : w3.cell? ⟨g2, 2, none⟩ = some (.int .u32 m2.mark) := bg.cell 2
                clear hb3 c1' c2' c3' m0 m1 mm2 bx bg
                by_cases hneg : cm < 0
                · have Hst := Lib.hid (HP3.out.put x)
                  have Hls : Hid (least c0 (pins.take (j + 1)) = x) := Lib.hid (by rw [Hsn.out, if_pos hneg])
                  go_wp2_with fail
                  go_roundw
                  case rel => exact ⟨j + 1, by omega, by go_num, by rw [Hls.out]; exact Hst⟩
                  case measure => simp [intOf]; omega
                · have Hls : Hid (least c0 (pins.take (j + 1)) = m2) := Lib.hid (by rw [Hsn.out, if_neg hneg])
                  have hneg' : 0 ≤ cm := by omega
                  go_wp2_with fail
                  go_roundw
                  case rel => exact ⟨j + 1, by omega, by go_num, by rw [Hls.out]; exact HP3⟩
                  case measure => simp [intOf]; omega
              · obtain rfl : j = pins.length := by omega
                rw [List.take_length] at HPi
                generalize least c0 pins = m2 at *
                have bg := HPi.out.2.2.1
                have q0 : wr.cell? ⟨g2, 0, none⟩ = some (.int .i64 m2.wall) := bg.cell 0
                have q1 : wr.cell? ⟨g2, 1, none⟩ = some (.int .u32 m2.tick) := bg.cell 1
                have q2 : wr.cell? ⟨g2, 2, none⟩ = some (.int .u32 m2.mark) := bg.cell 2
                have q3 : wr.cell? ⟨g2, 3, none⟩ = some (.int .i64 (newest - s)) := bg.cell 3
                have b8 := HPi.out.2.1
                have c0' : wr.cell? ⟨w.heap.size + 1, 0, none⟩ = some (.int .i64 0) := b8.cell 0
                have c1' : wr.cell? ⟨w.heap.size + 1, 1, none⟩ = some (.int .u32 0) := b8.cell 1
                have c2' : wr.cell? ⟨w.heap.size + 1, 2, none⟩ = some (.int .u32 0) := b8.cell 2
                have c3' : wr.cell? ⟨w.heap.size + 1, 3, none⟩ = some (.int .i64 0) := b8.cell 3
                have f0 := b8.free 0
                have f1 := b8.free 1
                have f2 := b8.free 2
                have f3 := b8.free 3
                clear bg b8
                go_wp2_with fail
                refine bodyPost_ret (v := .tuple #[.agg #[.int .i64 m2.wall, .int .u32 m2.tick, .int .u32 m2.mark, .int .i64 (newest - s)], .int .i64 0]) (by simp [results, Try.results5, go_sem, c0', c1', c2', c3']) rfl ⟨?_, .inl ⟨Hok.out, by rw [Hdef.out, Hmx.out]; rfl⟩⟩
                exact ((((HPi.out.1.setCell (by simp) _).setCell (by simp) _).setCell (by simp) _).setCell (by simp) _)
        · have Hmx : Hid (max 0 (newest - s) = 0) := Lib.hid (by omega)
          have hsn' : newest - s ≤ 0 := by omega
          go_upto_if 80 with (fail)
          have HP0 : Hid (MkP w wr.heap.size ⟨0, 0, 0⟩ 0 (wr.alloc (.cells #[.int .i64 0, .int .u32 0, .int .u32 0, .int .i64 0] 30))) := Lib.hid ⟨HWi.out.1.alloc HWi.out.1.size _, HWi.out.2.2.1.next (below_alloc _ _), Blk.new _ _ _, lN1⟩
          go_cut [12] (fun _ wc => Hid (MkP w wr.heap.size (cut0 a m) 0 wc))
          case first =>
            by_cases hw : a ≤ m.wall
            · have Hcut : Hid (cut0 a m = ⟨m.wall - a, 0, 0⟩) := Lib.hid (by unfold cut0; rw [if_pos hw])
              go_wp2_with fail
              go_meet
              rw [Hcut.out]
              exact Lib.hid ⟨HWi.out.1.alloc HWi.out.1.size _, HWi.out.2.2.1.next (below_alloc _ _), Blk.new _ _ _, lN1⟩
            · have Hcut : Hid (cut0 a m = ⟨0, 0, 0⟩) := Lib.hid (by unfold cut0; rw [if_neg hw])
              have hw' : m.wall < a := by omega
              go_wp2_with fail
              go_meet
              rw [Hcut.out]
              exact HP0
          case rest =>
            have HP := hcut
            clear hcut HP0 a0 a1 m0
            generalize wr.heap.size = g2 at *
            generalize cut0 a m = c0 at *
            go_wp2_with fail
            go_loopw [19, 90] (fun _ j wr => ∃ j' : Nat, j' ≤ pins.length ∧ j = .int .i64 j' ∧ Hid (MkP w g2 (least c0 (pins.take j')) 0 wr)) (fun _ j _ => pins.length - (intOf j).toNat)
            case atStart => exact ⟨0, by omega, rfl, HP⟩
            case round =>
              obtain ⟨j, hj, rfl, HPi⟩ := hrel
              by_cases hlt : j < pins.length
              · obtain ⟨x, hx⟩ : ∃ x, pins[j]? = some x := ⟨pins[j], List.getElem?_eq_getElem hlt⟩
                have Hsn := Lib.hid (least_snoc c0 pins j x hx)
                obtain ⟨b, o, rfl, c1, c2, c3⟩ := Hp3.out j x hx
                have lb := World.block_lt_of_cell? w _ c1
                have c1' : wr.cell? ⟨b, o + j * 3, none⟩ = some (.int .i64 x.wall) := (HPi.out.1.cell (p := ⟨b, o + j * 3, none⟩) lb).trans c1
                have c2' : wr.cell? ⟨b, o + j * 3 + 1, none⟩ = some (.int .u32 x.tick) := (HPi.out.1.cell (p := ⟨b, o + j * 3 + 1, none⟩) lb).trans c2
                have c3' : wr.cell? ⟨b, o + j * 3 + 2, none⟩ = some (.int .u32 x.mark) := (HPi.out.1.cell (p := ⟨b, o + j * 3 + 2, none⟩) lb).trans c3
                generalize least c0 (pins.take j) = m2 at *
                have bg := HPi.out.2.2.1
                have m0 : wr.cell? ⟨g2, 0, none⟩ = some (.int .i64 m2.wall) := bg.cell 0
                have m1 : wr.cell? ⟨g2, 1, none⟩ = some (.int .u32 m2.tick) := bg.cell 1
                have mm2 : wr.cell? ⟨g2, 2, none⟩ = some (.int .u32 m2.mark) := bg.cell 2
                have lg2 := bg.lt
                clear c1 c2 c3 hx bg
                go_wp2_with fail
                refine (compare_any x m2 _).mono ?_
                generalize hcm : cmp x m2 = cm at *
                have Hcm := Lib.hid hcm
                clear hcm
                rintro e w3 ⟨rfl, hb3⟩
                have HP3 := Lib.hid ((HPi.out.next (below_alloc wr _)).next hb3)
                have bx := (Blk.new wr #[.int .i64 x.wall, .int .u32 x.tick, .int .u32 x.mark] 28).next hb3
                have n0 : w3.cell? ⟨wr.heap.size, 0, none⟩ = some (.int .i64 x.wall) := bx.cell 0
                have n1 : w3.cell? ⟨wr.heap.size, 1, none⟩ = some (.int .u32 x.tick) := bx.cell 1
                have n2 : w3.cell? ⟨wr.heap.size, 2, none⟩ = some (.int .u32 x.mark) := bx.cell 2
                have bg := HP3.out.2.2.1
                have f0 := bg.free 0
                have f1 := bg.free 1
                have f2 := bg.free 2
                have q0 : w3.cell? ⟨g2, 0, none⟩ = some (.int .i64 m2.wall) := bg.cell 0
                have q1 : w3.cell? ⟨g2, 1, none⟩ = some (.int .u32 m2.tick) := bg.cell 1
                have q2 : w3.cell? ⟨g2, 2, none⟩ = some (.int .u32 m2.mark) := bg.cell 2
                clear hb3 c1' c2' c3' m0 m1 mm2 bx bg
                by_cases hneg : cm < 0
                · have Hst := Lib.hid (HP3.out.put x)
                  have Hls : Hid (least c0 (pins.take (j + 1)) = x) := Lib.hid (by rw [Hsn.out, if_pos hneg])
                  go_wp2_with fail
                  go_roundw
                  case rel => exact ⟨j + 1, by omega, by go_num, by rw [Hls.out]; exact Hst⟩
                  case measure => simp [intOf]; omega
                · have Hls : Hid (least c0 (pins.take (j + 1)) = m2) := Lib.hid (by rw [Hsn.out, if_neg hneg])
                  have hneg' : 0 ≤ cm := by omega
                  go_wp2_with fail
                  go_roundw
                  case rel => exact ⟨j + 1, by omega, by go_num, by rw [Hls.out]; exact HP3⟩
                  case measure => simp [intOf]; omega
              · obtain rfl : j = pins.length := by omega
                rw [List.take_length] at HPi
                generalize least c0 pins = m2 at *
                have bg := HPi.out.2.2.1
                have q0 : wr.cell? ⟨g2, 0, none⟩ = some (.int .i64 m2.wall) := bg.cell 0
                have q1 : wr.cell? ⟨g2, 1, none⟩ = some (.int .u32 m2.tick) := bg.cell 1
                have q2 : wr.cell? ⟨g2, 2, none⟩ = some (.int .u32 m2.mark) := bg.cell 2
                have q3 : wr.cell? ⟨g2, 3, none⟩ = some (.int .i64 0) := bg.cell 3
                have b8 := HPi.out.2.1
                have c0' : wr.cell? ⟨w.heap.size + 1, 0, none⟩ = some (.int .i64 0) := b8.cell 0
                have c1' : wr.cell? ⟨w.heap.size + 1, 1, none⟩ = some (.int .u32 0) := b8.cell 1
                have c2' : wr.cell? ⟨w.heap.size + 1, 2, none⟩ = some (.int .u32 0) := b8.cell 2
                have c3' : wr.cell? ⟨w.heap.size + 1, 3, none⟩ = some (.int .i64 0) := b8.cell 3
                have f0 := b8.free 0
                have f1 := b8.free 1
                have f2 := b8.free 2
                have f3 := b8.free 3
                clear bg b8
                go_wp2_with fail
                refine bodyPost_ret (v := .tuple #[.agg #[.int .i64 m2.wall, .int .u32 m2.tick, .int .u32 m2.mark, .int .i64 0], .int .i64 0]) (by simp [results, Try.results5, go_sem, c0', c1', c2', c3']) rfl ⟨?_, .inl ⟨Hok.out, by rw [Hdef.out, Hmx.out]; rfl⟩⟩
                exact ((((HPi.out.1.setCell (by simp) _).setCell (by simp) _).setCell (by simp) _).setCell (by simp) _)
end Go.Proofs.Ytabpcbjjchhbeaa
