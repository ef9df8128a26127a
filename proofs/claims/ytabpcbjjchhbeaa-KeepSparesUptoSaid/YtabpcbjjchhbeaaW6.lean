/- The contracts of awake (8) and KeepPlans (3). -/
import Derived.Test.YtabpcbjjchhbeaaW5
import Derived.BigQuiet
import Derived.Deep.DeepCutAuto
import Derived.Deep.CutBlock
namespace Go.Proofs.Ytabpcbjjchhbeaa
open Go.RowKit Go.Kt

theorem below_any {w w1 w2 : World} (h : Below w.heap.size w w1) (h2 : Below w1.heap.size w1 w2) : Below w.heap.size w w2 := h.trans (h2.mono h.size)
theorem undrew {w w' : World} {n : Nat} (h : Below (w.drewN n).heap.size (w.drewN n) w') : Below w.heap.size w w' := ⟨h.os, h.tape, h.output, h.size, h.block⟩

set_option maxHeartbeats 1000000 in
theorem awake_any (w : World) : Calls Try.prog 8 #[] w fun e w' => e = .returned (.bool true) ∧ Below w.heap.size w w' := by
  have hr : RdSt (w.alloc (.cells #[.int .i64 25, .int .u32 3, .int .u32 1, .int .i64 31, .int .u32 0, .int .u32 0] 28)) (.slice (some ⟨w.heap.size, 0, none⟩) 2 2) [⟨25, 3, 1⟩, ⟨31, 0, 0⟩] :=
    (own_lit w 28 3 #[.int .i64 25, .int .u32 3, .int .u32 1, .int .i64 31, .int .u32 0, .int .u32 0] 2 (by simp [maxLen]) rfl).rd
  have Hr := Lib.hid hr
  clear hr
  have hp : okArgs 10 0 [⟨25, 3, 1⟩, ⟨31, 0, 0⟩] [] 0 := ⟨by decide, by simp, by omega, by omega, by simp [stR], by simp⟩
  have hv : (planOf 10 0 [⟨25, 3, 1⟩, ⟨31, 0, 0⟩] [] 0).val = .agg #[.int .i64 15, .int .u32 0, .int .u32 0, .int .i64 0] := by
    have : planOf 10 0 [⟨25, 3, 1⟩, ⟨31, 0, 0⟩] [] 0 = ⟨⟨15, 0, 0⟩, 0⟩ := rfl
    rw [this]; rfl
  have Hp := Lib.hid hp
  have Hv := Lib.hid hv
  clear hp hv
  go_enter Try.func8, Try.ntmps8
  go_wp2_with fail
  refine (make_any 10 0 _ _ _ [] 0 _ Hr.out (own_nil _ 28 3).rd).mono ?_
  rintro e w1 ⟨hb, ⟨_, rfl⟩ | ⟨hno, _⟩⟩
  case inr => exact (hno Hp.out).elim
  rw [Hv.out]
  have Hb := Lib.hid (below_any (below_alloc w _) hb)
  clear hb
  go_wp2_with fail
  go_ret
  exact ⟨rfl, Hb.out.alloc Hb.out.size _⟩

open Classical in
noncomputable def mk (a s : Int) (closed pins : List St) (newest : Int) : Plan × Int := if okArgs a s closed pins newest then (planOf a s closed pins newest, 0) else (noPlan, 1)
theorem mk_of {a s : Int} {closed pins : List St} {newest : Int} {w w' : World} {e : Ending} (h : Makes a s closed pins newest w e w') :
    e = .returned (.tuple #[.agg #[.int .i64 (mk a s closed pins newest).1.cut.wall, .int .u32 (mk a s closed pins newest).1.cut.tick, .int .u32 (mk a s closed pins newest).1.cut.mark, .int .i64 (mk a s closed pins newest).1.horizon], .int .i64 (mk a s closed pins newest).2]) ∧ Below w.heap.size w w' := by
  obtain ⟨hb, ⟨hok, rfl⟩ | ⟨hno, rfl⟩⟩ := h
  · refine ⟨?_, hb⟩
    unfold mk; rw [if_pos hok]; rfl
  · refine ⟨?_, hb⟩
    unfold mk; rw [if_neg hno]; rfl

theorem bel_alloc {x y : World} {o : Obj} (h : Below x.heap.size x y) : Below x.heap.size x (y.alloc o) := h.alloc h.size o
theorem bel_drew {x y : World} (h : Below x.heap.size x y) : Below x.heap.size x y.drew := h.drew
theorem bel_set {x y : World} {g j : Nat} {u : Value} (h : Below x.heap.size x y) (hg : x.heap.size ≤ g) : Below x.heap.size x (y.setCell ⟨g, j, none⟩ u) := h.setCell hg u
theorem new_drew (w : World) (cs : Array Value) (t : TypeId) : Blk ((w.alloc (.cells cs t)).drew) w.heap.size cs t := Blk.new w cs t
theorem drew_new (w : World) (cs : Array Value) (t : TypeId) : Blk (w.drew.alloc (.cells cs t)) w.heap.size cs t := Blk.new w cs t
theorem set4 {w : World} {g : Nat} {c0 c1 c2 c3 : Value} {t : TypeId} (h : Blk w g #[c0, c1, c2, c3] t) (d0 d1 d2 d3 : Value) :
    Blk ((((w.setCell ⟨g, 0, none⟩ d0).setCell ⟨g, 1, none⟩ d1).setCell ⟨g, 2, none⟩ d2).setCell ⟨g, 3, none⟩ d3) g #[d0, d1, d2, d3] t := by
  have := (((h.set 0 d0).set 1 d1).set 2 d2).set 3 d3
  simpa using this
theorem bel_refl (x : World) : Below x.heap.size x x := Below.refl _ _

set_option maxHeartbeats 4000000 in
theorem plans_any (a s : Int) (vc vp : Value) (closed pins : List St) (newest : Int) (w : World) (hc : RdSt w vc closed) (hp : RdSt w vp pins) (hcl : closed.length < 1000000000) (hpl : pins.length < 1000000000) :
    Calls Try.prog 3 #[.agg #[.int .i64 a, .int .i64 s], vc, vp, .int .i64 newest] w fun e w' => e = .returned (.bool true) ∧ Below w.heap.size w w' := by
  have Hc := Lib.hid hc
  have Hp := Lib.hid hp
  obtain ⟨ca, cc, rfl, hc1, hc2, hc3⟩ := hc.open
  obtain ⟨pa, pc, rfl, hp1, hp2, hp3⟩ := hp.open
  clear hc hp hc3 hp3
  have hB : Below w.heap.size w ((w.alloc (.cells #[.int .i64 a, .int .i64 s] 23)).alloc (.cells #[.int .i64 a, .int .i64 s] 25)) := bel_alloc (bel_alloc (bel_refl w))
  have hb0 : Blk ((w.alloc (.cells #[.int .i64 a, .int .i64 s] 23)).alloc (.cells #[.int .i64 a, .int .i64 s] 25)) (w.heap.size + 1) #[.int .i64 a, .int .i64 s] 25 := by
    have hb := Blk.new (w.alloc (.cells #[.int .i64 a, .int .i64 s] 23)) #[.int .i64 a, .int .i64 s] 25
    simp only [World.size_alloc] at hb
    exact hb
  have hb1 : Blk ((w.alloc (.cells #[.int .i64 a, .int .i64 s] 23)).alloc (.cells #[.int .i64 a, .int .i64 s] 25)) w.heap.size #[.int .i64 a, .int .i64 s] 23 := (Blk.new w #[.int .i64 a, .int .i64 s] 23).next (below_alloc _ _)
  have hs0 : ((w.alloc (.cells #[.int .i64 a, .int .i64 s] 23)).alloc (.cells #[.int .i64 a, .int .i64 s] 25)).heap.size = w.heap.size + 2 := by simp
  go_enter Try.func3, Try.ntmps3
  go_wp2_with fail
  generalize ((w.alloc (.cells #[.int .i64 a, .int .i64 s] 23)).alloc (.cells #[.int .i64 a, .int .i64 s] 25)) = x0 at *
  have Hs0 := Lib.hid hs0
  have Hb0 := Lib.hid hb0
  have Hb1 := Lib.hid hb1
  have hl0 : w.heap.size + 1 < x0.heap.size := by omega
  have c0 : x0.cell? ⟨w.heap.size + 1, 0, none⟩ = some (.int .i64 a) := hb0.cell 0
  have c1 : x0.cell? ⟨w.heap.size + 1, 1, none⟩ = some (.int .i64 s) := hb0.cell 1
  have hx0 := bel_refl x0
  have HK : Hid (∀ w', Below x0.heap.size x0 w' → w'.cell? ⟨w.heap.size + 1, 0, none⟩ = some (.int .i64 a) ∧ w'.cell? ⟨w.heap.size + 1, 1, none⟩ = some (.int .i64 s)) := Lib.hid (by
    intro w' h
    exact ⟨(Hb0.out.next h).cell 0, (Hb0.out.next h).cell 1⟩)
  clear hb0 hb1 hs0
  generalize hmm : mk a s closed pins newest = M
  have HM := Lib.hid hmm
  clear hmm
  go_cut [10, 11] (fun pv ev wc => ∃ g, pv = .pointer (some ⟨g, 0, none⟩) ∧ ev = .int .i64 M.2 ∧ Hid (Blk wc g #[.int .i64 M.1.cut.wall, .int .u32 M.1.cut.tick, .int .u32 M.1.cut.mark, .int .i64 M.1.horizon] 30) ∧ Hid (Below x0.heap.size x0 wc))
  case first =>
    rename_i J0 J1 hJ0 hJ1
    go_region_held3 (fun w' => w'.cell? ⟨w.heap.size + 1, 0, none⟩ = some (.int .i64 a) ∧ w'.cell? ⟨w.heap.size + 1, 1, none⟩ = some (.int .i64 s))
      (first | go_keep | (exact HK.out _ (by repeat (first | assumption | apply bel_alloc | apply bel_drew | refine bel_set ?_ (by first | assumption | exact Nat.le_refl _)))))
      (first
        | (go_at_call_of 6 (Value.slice ca closed.length cc); refine (to_any _ closed _ (Hc.out.below (below_any hB (by repeat (first | assumption | apply bel_alloc | apply bel_drew)))) hcl).mono ?_; rintro e w3 ⟨vt, rfl, ht3, hb3⟩; have hx3 : Below x0.heap.size x0 w3 := below_any (by repeat (first | assumption | apply bel_alloc | apply bel_drew)) hb3; have ht3' := ht3.rd; have hs3 := hx3.size; first | (have bz := (new_drew _ _ 30).next hb3) | (have bz := (drew_new _ _ 30).next hb3) | (have bz := (Blk.new _ _ 30).next hb3) | skip)
        | (go_at_call_of 6 (Value.slice pa pins.length pc); refine (to_any _ pins _ (Hp.out.below (below_any hB (by repeat (first | assumption | apply bel_alloc | apply bel_drew)))) hpl).mono ?_; rintro e w4 ⟨vq, rfl, ht4, hb4⟩; have hx4 : Below x0.heap.size x0 w4 := below_any (by repeat (first | assumption | apply bel_alloc | apply bel_drew)) hb4; have hx34 : Below w3.heap.size w3 w4 := below_any (by have := bel_refl w3; repeat (first | assumption | apply bel_alloc | apply bel_drew)) hb4; have ht4' := ht4.rd; have hs4 := hx4.size; first | (have bz := (new_drew _ _ 30).next hb4) | (have bz := (drew_new _ _ 30).next hb4) | (have bz := (Blk.new _ _ 30).next hb4) | (have bz := bz.next hb4) | skip)
        | (go_at_call 5; refine (make_any a s _ _ closed pins newest _ (ht3'.below (by repeat (first | assumption | apply bel_alloc | apply bel_drew))) (ht4'.below (by have := bel_refl w4; repeat (first | assumption | apply bel_alloc | apply bel_drew)))).mono ?_; intro e w5 hmk; obtain ⟨rfl, hb5⟩ := mk_of hmk; clear hmk; rw [HM.out]; have hx5 : Below x0.heap.size x0 w5 := below_any (by repeat (first | assumption | apply bel_alloc | apply bel_drew)) hb5; (first | (have bz := (new_drew _ _ 30).next hb5) | (have bz := (drew_new _ _ 30).next hb5) | (have bz := (Blk.new _ _ 30).next hb5) | (have bz := bz.next hb5) | skip); first | (have z0 : World.cell? _ _ = some (.int .i64 0) := bz.cell 0; have z1 : World.cell? _ _ = some (.int .u32 0) := bz.cell 1; have z2 : World.cell? _ _ = some (.int .u32 0) := bz.cell 2; have z3 : World.cell? _ _ = some (.int .i64 0) := bz.cell 3; have f0 := bz.free 0; have f1 := bz.free 1; have f2 := bz.free 2; have f3 := bz.free 3) | skip))
    all_goals (refine hJ1 _ _ (Met.intro (hJ0 _ _ ?_)))
    all_goals (repeat apply Exists.intro)
    all_goals (refine ⟨⟨_, rfl, rfl, ?_, ?_⟩, rfl⟩)

    all_goals (with_reducible refine Lib.hid ?_)
    all_goals first
      | (with_reducible exact Blk.new _ _ 30)
      | (with_reducible exact set4 bz _ _ _ _)
      | (with_reducible exact bel_alloc hx5)
      | (with_reducible exact bel_set (bel_set (bel_set (bel_set hx5 (by first | assumption | exact Nat.le_refl _)) (by first | assumption | exact Nat.le_refl _)) (by first | assumption | exact Nat.le_refl _)) (by first | assumption | exact Nat.le_refl _))
  case rest =>
    obtain ⟨g, rfl, rfl, HZ, HW⟩ := hcut
    have hx6 := HW.out
    have HC6 : RdSt wc (.slice ca closed.length cc) closed := Hc.out.below (below_any hB hx6)
    have HP6 : RdSt wc (.slice pa pins.length pc) pins := Hp.out.below (below_any hB hx6)
    obtain ⟨b0, b1⟩ : wc.cell? ⟨w.heap.size, 0, none⟩ = some (.int .i64 a) ∧ wc.cell? ⟨w.heap.size, 1, none⟩ = some (.int .i64 s) := ⟨(Hb1.out.next hx6).cell 0, (Hb1.out.next hx6).cell 1⟩
    have Hcc := Lib.hid HC6
    have Hpp := Lib.hid HP6
    clear HC6 HP6
    go_wp2_with (go_at_call 7; refine (refmake_any a s _ _ closed pins newest _ Hcc.out Hpp.out).mono ?_; intro e w7 hmk; obtain ⟨rfl, hb7⟩ := mk_of hmk; clear hmk; rw [HM.out])
    have hb8 : Below x0.heap.size x0 w7 := below_any hx6 hb7
    have B25 : Blk (w7.alloc (.cells #[.int .i64 M.1.cut.wall, .int .u32 M.1.cut.tick, .int .u32 M.1.cut.mark, .int .i64 M.1.horizon] 38)) (w.heap.size + 1) #[.int .i64 a, .int .i64 s] 25 := (Hb0.out.next hb8).next (below_alloc _ _)
    have B23 : Blk (w7.alloc (.cells #[.int .i64 M.1.cut.wall, .int .u32 M.1.cut.tick, .int .u32 M.1.cut.mark, .int .i64 M.1.horizon] 38)) w.heap.size #[.int .i64 a, .int .i64 s] 23 := (Hb1.out.next hb8).next (below_alloc _ _)
    have B30 : Blk (w7.alloc (.cells #[.int .i64 M.1.cut.wall, .int .u32 M.1.cut.tick, .int .u32 M.1.cut.mark, .int .i64 M.1.horizon] 38)) g #[.int .i64 M.1.cut.wall, .int .u32 M.1.cut.tick, .int .u32 M.1.cut.mark, .int .i64 M.1.horizon] 30 := (HZ.out.next hb7).next (below_alloc _ _)
    have B38 : Blk (w7.alloc (.cells #[.int .i64 M.1.cut.wall, .int .u32 M.1.cut.tick, .int .u32 M.1.cut.mark, .int .i64 M.1.horizon] 38)) w7.heap.size #[.int .i64 M.1.cut.wall, .int .u32 M.1.cut.tick, .int .u32 M.1.cut.mark, .int .i64 M.1.horizon] 38 := Blk.new _ _ _
    have hB8 : Below w.heap.size w (w7.alloc (.cells #[.int .i64 M.1.cut.wall, .int .u32 M.1.cut.tick, .int .u32 M.1.cut.mark, .int .i64 M.1.horizon] 38)) := bel_alloc (below_any hB hb8)
    generalize (w7.alloc (.cells #[.int .i64 M.1.cut.wall, .int .u32 M.1.cut.tick, .int .u32 M.1.cut.mark, .int .i64 M.1.horizon] 38)) = x8 at *
    generalize w7.heap.size = g2 at *
    have HK8 : Hid (∀ x, Below x8.heap.size x8 x → (fun w' => w'.cell? ⟨w.heap.size + 1, 0, none⟩ = some (.int .i64 a) ∧ w'.cell? ⟨w.heap.size + 1, 1, none⟩ = some (.int .i64 s) ∧ w'.cell? ⟨w.heap.size, 0, none⟩ = some (.int .i64 a) ∧ w'.cell? ⟨w.heap.size, 1, none⟩ = some (.int .i64 s) ∧ w'.cell? ⟨g, 0, none⟩ = some (.int .i64 M.1.cut.wall) ∧ w'.cell? ⟨g, 1, none⟩ = some (.int .u32 M.1.cut.tick) ∧ w'.cell? ⟨g, 2, none⟩ = some (.int .u32 M.1.cut.mark) ∧ w'.cell? ⟨g, 3, none⟩ = some (.int .i64 M.1.horizon) ∧ w'.cell? ⟨g2, 0, none⟩ = some (.int .i64 M.1.cut.wall) ∧ w'.cell? ⟨g2, 1, none⟩ = some (.int .u32 M.1.cut.tick) ∧ w'.cell? ⟨g2, 2, none⟩ = some (.int .u32 M.1.cut.mark) ∧ w'.cell? ⟨g2, 3, none⟩ = some (.int .i64 M.1.horizon)) x) := Lib.hid (by
      intro x h
      have q1 := B25.next h
      have q2 := B23.next h
      have q3 := B30.next h
      have q4 := B38.next h
      exact ⟨q1.cell 0, q1.cell 1, q2.cell 0, q2.cell 1, q3.cell 0, q3.cell 1, q3.cell 2, q3.cell 3, q4.cell 0, q4.cell 1, q4.cell 2, q4.cell 3⟩)
    have HB8 := Lib.hid hB8
    have hx8 := bel_refl x8
    obtain ⟨k1, k2, k3, k4, k5, k6, k7, k8, k9, k10, k11, k12⟩ := HK8.out x8 hx8
    clear B25 B23 B30 B38 hB8 hb8 hb7 hx6 b0 b1 HZ Hcc Hpp HK c0 c1 hx0 hB Hs0 Hb0 Hb1 hl0 HW HM Hc Hp
    go_region_held3 (fun w' => w'.cell? ⟨w.heap.size + 1, 0, none⟩ = some (.int .i64 a) ∧ w'.cell? ⟨w.heap.size + 1, 1, none⟩ = some (.int .i64 s) ∧ w'.cell? ⟨w.heap.size, 0, none⟩ = some (.int .i64 a) ∧ w'.cell? ⟨w.heap.size, 1, none⟩ = some (.int .i64 s) ∧ w'.cell? ⟨g, 0, none⟩ = some (.int .i64 M.1.cut.wall) ∧ w'.cell? ⟨g, 1, none⟩ = some (.int .u32 M.1.cut.tick) ∧ w'.cell? ⟨g, 2, none⟩ = some (.int .u32 M.1.cut.mark) ∧ w'.cell? ⟨g, 3, none⟩ = some (.int .i64 M.1.horizon) ∧ w'.cell? ⟨g2, 0, none⟩ = some (.int .i64 M.1.cut.wall) ∧ w'.cell? ⟨g2, 1, none⟩ = some (.int .u32 M.1.cut.tick) ∧ w'.cell? ⟨g2, 2, none⟩ = some (.int .u32 M.1.cut.mark) ∧ w'.cell? ⟨g2, 3, none⟩ = some (.int .i64 M.1.horizon))
      (first | go_keep | (exact HK8.out _ (by repeat (first | assumption | apply bel_alloc | apply bel_drew))))
      (first
        | (go_at_call 8; refine (awake_any _).mono ?_; rintro e w8 ⟨rfl, hb⟩; have hw8 : Below x8.heap.size x8 w8 := below_any (by repeat (first | assumption | apply bel_alloc | apply bel_drew)) hb; clear hb)
        | (go_at_call 9; refine (right_any a s _).mono ?_; rintro e w9 ⟨rfl, hb⟩; have hw9 : Below x8.heap.size x8 w9 := below_any (by repeat (first | assumption | apply bel_alloc | apply bel_drew)) hb; clear hb)
        | (go_at_call 10; refine (refright_any a s _).mono ?_; rintro e w10 ⟨rfl, hb⟩; have hw10 : Below x8.heap.size x8 w10 := below_any (by repeat (first | assumption | apply bel_alloc | apply bel_drew)) hb; clear hb)
        | (go_at_call 11; refine (from_any1 M.1.cut _).mono ?_; rintro e w11 ⟨rfl, hb⟩; unfold St.val; have hw11 : Below x8.heap.size x8 w11 := below_any (by repeat (first | assumption | apply bel_alloc | apply bel_drew)) hb; clear hb))
    all_goals (go_wp2_with fail)
    all_goals go_ret
    all_goals (refine ⟨rfl, below_any HB8.out ?_⟩)
    all_goals (repeat (first | assumption | apply bel_alloc | apply bel_drew))
end Go.Proofs.Ytabpcbjjchhbeaa
