/- The nil cell: all its answers. -/
import Derived.Test.YtbaflgddpciadaaGreatEQ
set_option linter.unusedVariables false
set_option linter.unusedSimpArgs false
namespace Go.Proofs.YtbaflgddpciadaaGreat
open Go.RowKit Go.Kt Go.Ix Go.Sx Go.Cx
set_option maxRecDepth 100000
set_option maxHeartbeats 1000000 in
theorem rto_any2 (v : Value) (l : List Rl) (w : World) (hv : RdR w v l) (hlen : l.length ≤ 3518437208883) :
    Calls Tryz.prog 21 #[v] w fun e w' => ∃ v', e = .returned v' ∧ MineR 164 w w' v' l := by
  obtain ⟨a, cap, rfl, hcap, hbig, hcell⟩ := hv.open
  have Hcell := Lib.hid hcell
  clear hcell hv
  go_enter Tryz.func21, Tryz.ntmps21
  go_wp2_with fail
  go_loopw [3, 5, 8] (fun v _ i wr => ∃ k : Nat, k ≤ l.length ∧ i = .int .i64 k ∧ Hid (MineR 164 w wr v (l.take k))) (fun _ _ i _ => l.length - (intOf i).toNat)
  case atStart => exact ⟨0, by omega, rfl, Lib.hid (mine_nil 164 3 w)⟩
  case round =>
    obtain ⟨k, hk, rfl, HM⟩ := hrel
    by_cases hlt : k < l.length
    · obtain ⟨p, hp⟩ : ∃ x, l[k]? = some x := ⟨l[k], List.getElem?_eq_getElem hlt⟩
      obtain ⟨b, o, rfl, lb, c1, c2, c3⟩ := Hcell.out k p hp
      have c1' : wr.cell? ⟨b, o + k * 3, none⟩ = some (.string p.n) := (HM.out.2.2.cell (p := ⟨b, o + k * 3, none⟩) lb).trans c1
      have c2' : wr.cell? ⟨b, o + k * 3 + 1, none⟩ = some (.int .i64 p.op) := (HM.out.2.2.cell (p := ⟨b, o + k * 3 + 1, none⟩) lb).trans c2
      have c3' : wr.cell? ⟨b, o + k * 3 + 2, none⟩ = some (.string p.v) := (HM.out.2.2.cell (p := ⟨b, o + k * 3 + 2, none⟩) lb).trans c3
      have HT := Lib.hid (flatR_take l k p hp)
      have Hkl : Hid ((l.take k).length = k) := Lib.hid (by rw [List.length_take]; omega)
      clear c1 c2 c3 hp lb
      go_wp2_with (at_builtin; apply Hold.mk)
      unfold Hold
      refine mine_app rfl _ _ 59 rfl ok56 (by rfl) (by rfl) HM.out (by repeat (first | exact bel_refl _ | apply bel_alloc | apply bel_drew)) (by exact rd_lit 3 #[.string p.n, .int .i64 p.op, .string p.v] 1 (by simp) one_le rfl) (rule_one p) (by rw [Hkl.out]; simp only [maxLen]; omega) (by rw [Hkl.out]; omega) ?_
      intro v7 w7 hm7 hg7
      rw [Hkl.out, show (#[Value.string p.n, .int .i64 p.op, Value.string p.v] : Array Value).toList = [.string p.n, .int .i64 p.op, .string p.v] from rfl, ← HT.out] at hm7
      have HM7 : Hid (MineR 164 w w7 v7 (l.take (k + 1))) := Lib.hid (by unfold MineR; rw [List.length_take, Nat.min_eq_left (by omega)]; exact hm7)
      clear hm7 hg7
      go_wp2_with fail
      go_roundw
      case rel => exact ⟨k + 1, by omega, by go_num, HM7⟩
      case measure => simp [intOf]; omega
    · obtain rfl : k = l.length := by omega
      rw [List.take_length] at HM
      go_wp2_with fail
      go_ret
      exact ⟨_, rfl, HM.out⟩

theorem closed_nil (w : World) : Calls Tryz.prog 33 #[.pointer none] w fun e w' => e = .returned (.agg #[.int .i64 0, .int .u32 0, .int .u32 0]) ∧ Below w.heap.size w w' := by
  go_enter Tryz.func33, Tryz.ntmps33
  go_wp2_with fail
  refine bodyPost_ret (v := .agg #[.int .i64 0, .int .u32 0, .int .u32 0]) (by simp [results, Tryz.results33, go_sem]) rfl ⟨rfl, ?_⟩
  repeat (first | exact bel_refl _ | apply bel_alloc | (refine bel_set ?_ (by simp only [World.size_alloc]; omega)))
theorem safe_nil (w : World) : Calls Tryz.prog 34 #[.pointer none] w fun e w' => e = .returned (.agg #[.int .i64 0, .int .u32 0, .int .u32 0]) ∧ Below w.heap.size w w' := by
  go_enter Tryz.func34, Tryz.ntmps34
  go_wp2_with fail
  refine bodyPost_ret (v := .agg #[.int .i64 0, .int .u32 0, .int .u32 0]) (by simp [results, Tryz.results34, go_sem]) rfl ⟨rfl, ?_⟩
  repeat (first | exact bel_refl _ | apply bel_alloc | (refine bel_set ?_ (by simp only [World.size_alloc]; omega)))
theorem ticks_nil (w : World) : Calls Tryz.prog 35 #[.pointer none] w fun e w' => e = .returned (.int .i64 0) ∧ Below w.heap.size w w' := by
  go_enter Tryz.func35, Tryz.ntmps35
  go_wp2_with fail
  go_ret
  exact ⟨rfl, bel_refl w⟩
theorem held_nil (w : World) : Calls Tryz.prog 43 #[.pointer none] w fun e w' => e = .returned (.slice none 0 0) ∧ Below w.heap.size w w' := by
  go_enter Tryz.func43, Tryz.ntmps43
  go_wp2_with fail
  go_ret
  exact ⟨rfl, bel_refl w⟩
theorem book_nil (w : World) : Calls Tryz.prog 31 #[.pointer none] w fun e w' => e = .returned (.slice none 0 0) ∧ Below w.heap.size w w' := by
  go_enter Tryz.func31, Tryz.ntmps31
  go_wp2_with fail
  go_ret
  exact ⟨rfl, bel_refl w⟩
theorem deed_nil (n : Int) (w : World) : Calls Tryz.prog 32 #[.pointer none, .int .u32 n] w fun e w' => e = .returned (.tuple #[.agg #[.int .i64 0, .int .u32 0, .int .i64 0, .int .i64 0, .int .u32 0, .int .u32 0], .bool false]) ∧ Below w.heap.size w w' := by
  go_enter Tryz.func32, Tryz.ntmps32
  go_wp2_with fail
  refine bodyPost_ret (v := .tuple #[.agg #[.int .i64 0, .int .u32 0, .int .i64 0, .int .i64 0, .int .u32 0, .int .u32 0], .bool false]) (by simp [results, Tryz.results32, go_sem]) rfl ⟨rfl, ?_⟩
  repeat (first | exact bel_refl _ | apply bel_alloc | (refine bel_set ?_ (by simp only [World.size_alloc]; omega)))
theorem do_nil (m : Cmd) (v : Value) (w : World) (hv : ∃ a n c, v = .slice a n c) : Calls Tryz.prog 17 #[.pointer none, cmdV m v] w fun e w' => e = .returned (.agg #[.int .i64 2, .int .u32 0, .int .i64 0, .int .i64 0, .int .u32 0, .int .u32 0]) ∧ Below w.heap.size w w' := by
  obtain ⟨a, n, c, rfl⟩ := hv
  obtain ⟨kd, dd, ⟨aw, at1, am⟩, ys, tk, nn, id, ws⟩ := m
  unfold cmdV
  simp only
  go_enter Tryz.func17, Tryz.ntmps17
  go_wp2_with fail
  refine bodyPost_ret (v := .agg #[.int .i64 2, .int .u32 0, .int .i64 0, .int .i64 0, .int .u32 0, .int .u32 0]) (by simp [results, Tryz.results17, go_sem]) rfl ⟨rfl, ?_⟩
  repeat (first | exact bel_refl _ | apply bel_alloc | (refine bel_set ?_ (by simp only [World.size_alloc]; omega)))
theorem read_nil (rv : Value) (a b : Int) (t : Tm) (w : World) : Calls Tryz.prog 20 #[.pointer none, rv, .int .i64 a, .int .i64 b, t.val] w fun e w' => e = .returned (.tuple #[.slice none 0 0, .int .i64 2]) ∧ Below w.heap.size w w' := by
  unfold Tm.val
  go_enter Tryz.func20, Tryz.ntmps20
  go_wp2_with fail
  go_ret2
  exact ⟨rfl, bel_alloc (bel_refl w)⟩
theorem ask_nil (op fr to_ st : Int) (no : Bool) (ra : Option Addr) (rn rc : Nat) (t : Tm) (w : World) : Calls Tryz.prog 38 #[.pointer none, .agg #[.int .i64 op, .slice ra rn rc, .int .i64 fr, .int .i64 to_, .int .i64 st, .bool no], t.val] w fun e w' => e = .returned (.tuple #[.agg #[.slice none 0 0, .slice none 0 0], .int .i64 2]) ∧ Below w.heap.size w w' := by
  have HRd := Lib.hid (fun W => read_nil (.slice ra rn rc) fr to_ t W)
  unfold Tm.val at HRd ⊢
  have HX := Lib.hid (((Blk.new w #[.int .i64 op, .slice ra rn rc, .int .i64 fr, .int .i64 to_, .int .i64 st, .bool no] 112).next (below_alloc _ (.cells #[.int .i64 t.wall, .int .u32 t.tick, .int .u32 t.mark] 44))).next (below_alloc _ (.cells #[.slice none 0 0, .slice none 0 0] 108)))
  have HT := Lib.hid ((Blk.new (w.alloc (.cells #[.int .i64 op, .slice ra rn rc, .int .i64 fr, .int .i64 to_, .int .i64 st, .bool no] 112)) #[.int .i64 t.wall, .int .u32 t.tick, .int .u32 t.mark] 44).next (below_alloc _ (.cells #[.slice none 0 0, .slice none 0 0] 108)))
  have HY := Lib.hid (Blk.new ((w.alloc (.cells #[.int .i64 op, .slice ra rn rc, .int .i64 fr, .int .i64 to_, .int .i64 st, .bool no] 112)).alloc (.cells #[.int .i64 t.wall, .int .u32 t.tick, .int .u32 t.mark] 44)) #[.slice none 0 0, .slice none 0 0] 108)
  have HB1 := Lib.hid (bel_alloc (o := .cells #[.slice none 0 0, .slice none 0 0] 108) (bel_alloc (o := .cells #[.int .i64 t.wall, .int .u32 t.tick, .int .u32 t.mark] 44) (below_alloc w (.cells #[.int .i64 op, .slice ra rn rc, .int .i64 fr, .int .i64 to_, .int .i64 st, .bool no] 112))))
  rw [World.size_alloc] at HT
  rw [World.size_alloc, World.size_alloc] at HY
  go_enter Tryz.func38, Tryz.ntmps38
  go_upto_region 1 with fail
  generalize ((w.alloc (.cells #[.int .i64 op, .slice ra rn rc, .int .i64 fr, .int .i64 to_, .int .i64 st, .bool no] 112)).alloc (.cells #[.int .i64 t.wall, .int .u32 t.tick, .int .u32 t.mark] 44)).alloc (.cells #[.slice none 0 0, .slice none 0 0] 108) = w1 at HX HT HY HB1 ⊢
  have Hsz : Hid (w.heap.size ≤ w.heap.size + 1 + 1) := Lib.hid (by omega)
  have x1 : w1.cell? ⟨w.heap.size, 1, none⟩ = some (.slice ra rn rc) := HX.out.cell 1
  have x2 : w1.cell? ⟨w.heap.size, 2, none⟩ = some (.int .i64 fr) := HX.out.cell 2
  have x3 : w1.cell? ⟨w.heap.size, 3, none⟩ = some (.int .i64 to_) := HX.out.cell 3
  have t0 : w1.cell? ⟨w.heap.size + 1, 0, none⟩ = some (.int .i64 t.wall) := HT.out.cell 0
  have t1 : w1.cell? ⟨w.heap.size + 1, 1, none⟩ = some (.int .u32 t.tick) := HT.out.cell 1
  have t2 : w1.cell? ⟨w.heap.size + 1, 2, none⟩ = some (.int .u32 t.mark) := HT.out.cell 2
  go_upto_region 4 with (first
    | (go_at_call 20; refine (HRd.out _).mono ?_; rintro e w2 ⟨rfl, hb2⟩; have HB2 := Lib.hid (bel_trans HB1.out hb2); have HY2 := Lib.hid (HY.out.next hb2); clear hb2)
    | fail)
  clear x1 x2 x3 t0 t1 t2
  have y0 : w2.cell? ⟨w.heap.size + 1 + 1, 0, none⟩ = some (.slice none 0 0) := HY2.out.cell 0
  have y1 : w2.cell? ⟨w.heap.size + 1 + 1, 1, none⟩ = some (.slice none 0 0) := HY2.out.cell 1
  have f0 : w2.frozen? ⟨w.heap.size + 1 + 1, 0, none⟩ = false := HY2.out.free 0
  have f1 : w2.frozen? ⟨w.heap.size + 1 + 1, 1, none⟩ = false := HY2.out.free 1
  go_wp2_with fail
  refine bodyPost_ret (v := .tuple #[.agg #[.slice none 0 0, .slice none 0 0], .int .i64 2]) (by simp [results, Tryz.results38, go_sem, y0, y1]) rfl ⟨rfl, ?_⟩
  exact bel_set (bel_set HB2.out Hsz.out) Hsz.out
/-- a query made the program's -/
theorem qto_any (op fr to_ st : Int) (no : Bool) (v : Value) (l : List Rl) (w : World) (hv : RdR w v l) (hlen : l.length ≤ 3518437208883) : Calls Tryz.prog 39 #[.agg #[.int .i64 op, v, .int .i64 fr, .int .i64 to_, .int .i64 st, .bool no]] w fun e w' => ∃ v', e = .returned (.agg #[.int .i64 op, v', .int .i64 fr, .int .i64 to_, .int .i64 st, .bool no]) ∧ RdR w' v' l ∧ Below w.heap.size w w' := by
  obtain ⟨va, vc, rfl, -⟩ := hv.open
  have HTo := Lib.hid (fun W (hW : Below w.heap.size w W) => rto_any2 (.slice va l.length vc) l W (hv.below hW) hlen)
  clear hv hlen
  have HX := Lib.hid ((Blk.new w #[.int .i64 op, .slice va l.length vc, .int .i64 fr, .int .i64 to_, .int .i64 st, .bool no] 101).next (below_alloc _ (.cells #[.int .i64 0, .slice none 0 0, .int .i64 0, .int .i64 0, .int .i64 0, .bool false] 112)))
  have HY := Lib.hid (Blk.new (w.alloc (.cells #[.int .i64 op, .slice va l.length vc, .int .i64 fr, .int .i64 to_, .int .i64 st, .bool no] 101)) #[.int .i64 0, .slice none 0 0, .int .i64 0, .int .i64 0, .int .i64 0, .bool false] 112)
  have HB1 := Lib.hid (bel_alloc (o := .cells #[.int .i64 0, .slice none 0 0, .int .i64 0, .int .i64 0, .int .i64 0, .bool false] 112) (below_alloc w (.cells #[.int .i64 op, .slice va l.length vc, .int .i64 fr, .int .i64 to_, .int .i64 st, .bool no] 101)))
  rw [World.size_alloc] at HY
  go_enter Tryz.func39, Tryz.ntmps39
  go_upto_region 1 with fail
  generalize (w.alloc (.cells #[.int .i64 op, .slice va l.length vc, .int .i64 fr, .int .i64 to_, .int .i64 st, .bool no] 101)).alloc (.cells #[.int .i64 0, .slice none 0 0, .int .i64 0, .int .i64 0, .int .i64 0, .bool false] 112) = w1 at HX HY HB1 ⊢
  have Hsz : Hid (w.heap.size ≤ w.heap.size + 1) := Lib.hid (by omega)
  generalize hg : w.heap.size = g at HX HY Hsz ⊢
  have hgl : g < w1.heap.size := HX.out.lt
  have hgl1 : g + 1 < w1.heap.size := HY.out.lt
  have HKs : Hid (∀ W, Below w1.heap.size w1 W → W.cell? ⟨g, 0, none⟩ = some (.int .i64 op) ∧ W.cell? ⟨g, 1, none⟩ = some (.slice va l.length vc) ∧ W.cell? ⟨g, 2, none⟩ = some (.int .i64 fr) ∧ W.cell? ⟨g, 3, none⟩ = some (.int .i64 to_) ∧ W.cell? ⟨g, 4, none⟩ = some (.int .i64 st) ∧ W.cell? ⟨g, 5, none⟩ = some (.bool no)) := Lib.hid (fun W hW => ⟨(HX.out.next hW).cell 0, (HX.out.next hW).cell 1, (HX.out.next hW).cell 2, (HX.out.next hW).cell 3, (HX.out.next hW).cell 4, (HX.out.next hW).cell 5⟩)
  obtain ⟨q0, q1, q2, q3, q4, q5⟩ := HKs.out w1 (bel_refl w1)
  have hx0 := bel_refl w1
  go_region_held3 (fun W => W.cell? ⟨g, 0, none⟩ = some (.int .i64 op) ∧ W.cell? ⟨g, 1, none⟩ = some (.slice va l.length vc) ∧ W.cell? ⟨g, 2, none⟩ = some (.int .i64 fr) ∧ W.cell? ⟨g, 3, none⟩ = some (.int .i64 to_) ∧ W.cell? ⟨g, 4, none⟩ = some (.int .i64 st) ∧ W.cell? ⟨g, 5, none⟩ = some (.bool no))
    (first | (with_reducible exact ⟨q0, q1, q2, q3, q4, q5⟩) | (with_reducible refine HKs.out _ ?_; (repeat (first | assumption | apply bel_alloc | apply bel_drew)); done) | go_keep)
    (first
      | (go_simp; go_at_call 21; refine (HTo.out _ (bel_trans HB1.out (by repeat (first | exact bel_refl _ | assumption | apply bel_alloc | apply bel_drew)))).mono ?_; rintro e w4 ⟨v3, rfl, hm3⟩; have hx4 : Below w1.heap.size w1 w4 := bel_trans (by repeat (first | exact bel_refl _ | assumption | apply bel_alloc | apply bel_drew)) hm3.2.2; have HR3 := Lib.hid hm3; obtain ⟨a3, c3, hv3, -⟩ := hm3.rd.open; subst hv3; have hY4 := HY.out.next hx4; have y0 : w4.cell? ⟨g + 1, 0, none⟩ = some (.int .i64 0) := hY4.cell 0; have f0 : w4.frozen? ⟨g + 1, 0, none⟩ = false := hY4.free 0; have y1 : w4.cell? ⟨g + 1, 1, none⟩ = some (.slice none 0 0) := hY4.cell 1; have f1 : w4.frozen? ⟨g + 1, 1, none⟩ = false := hY4.free 1; have y2 : w4.cell? ⟨g + 1, 2, none⟩ = some (.int .i64 0) := hY4.cell 2; have f2 : w4.frozen? ⟨g + 1, 2, none⟩ = false := hY4.free 2; have y3 : w4.cell? ⟨g + 1, 3, none⟩ = some (.int .i64 0) := hY4.cell 3; have f3 : w4.frozen? ⟨g + 1, 3, none⟩ = false := hY4.free 3; have y4 : w4.cell? ⟨g + 1, 4, none⟩ = some (.int .i64 0) := hY4.cell 4; have f4 : w4.frozen? ⟨g + 1, 4, none⟩ = false := hY4.free 4; have y5 : w4.cell? ⟨g + 1, 5, none⟩ = some (.bool false) := hY4.cell 5; have f5 : w4.frozen? ⟨g + 1, 5, none⟩ = false := hY4.free 5; clear hm3 hY4))
  go_wp2_with fail
  have HZ := Lib.hid (set6g (HY.out.next hx4) (.int .i64 op) (.slice a3 l.length c3) (.int .i64 fr) (.int .i64 to_) (.int .i64 st) (.bool no))
  have z0 : ((((((w4.setCell ⟨g + 1, 0, none⟩ (.int .i64 op)).setCell ⟨g + 1, 1, none⟩ (.slice a3 l.length c3)).setCell ⟨g + 1, 2, none⟩ (.int .i64 fr)).setCell ⟨g + 1, 3, none⟩ (.int .i64 to_)).setCell ⟨g + 1, 4, none⟩ (.int .i64 st)).setCell ⟨g + 1, 5, none⟩ (.bool no)).cell? ⟨g + 1, 0, none⟩ = some (.int .i64 op) := HZ.out.cell 0
  have z1 : ((((((w4.setCell ⟨g + 1, 0, none⟩ (.int .i64 op)).setCell ⟨g + 1, 1, none⟩ (.slice a3 l.length c3)).setCell ⟨g + 1, 2, none⟩ (.int .i64 fr)).setCell ⟨g + 1, 3, none⟩ (.int .i64 to_)).setCell ⟨g + 1, 4, none⟩ (.int .i64 st)).setCell ⟨g + 1, 5, none⟩ (.bool no)).cell? ⟨g + 1, 1, none⟩ = some (.slice a3 l.length c3) := HZ.out.cell 1
  have z2 : ((((((w4.setCell ⟨g + 1, 0, none⟩ (.int .i64 op)).setCell ⟨g + 1, 1, none⟩ (.slice a3 l.length c3)).setCell ⟨g + 1, 2, none⟩ (.int .i64 fr)).setCell ⟨g + 1, 3, none⟩ (.int .i64 to_)).setCell ⟨g + 1, 4, none⟩ (.int .i64 st)).setCell ⟨g + 1, 5, none⟩ (.bool no)).cell? ⟨g + 1, 2, none⟩ = some (.int .i64 fr) := HZ.out.cell 2
  have z3 : ((((((w4.setCell ⟨g + 1, 0, none⟩ (.int .i64 op)).setCell ⟨g + 1, 1, none⟩ (.slice a3 l.length c3)).setCell ⟨g + 1, 2, none⟩ (.int .i64 fr)).setCell ⟨g + 1, 3, none⟩ (.int .i64 to_)).setCell ⟨g + 1, 4, none⟩ (.int .i64 st)).setCell ⟨g + 1, 5, none⟩ (.bool no)).cell? ⟨g + 1, 3, none⟩ = some (.int .i64 to_) := HZ.out.cell 3
  have z4 : ((((((w4.setCell ⟨g + 1, 0, none⟩ (.int .i64 op)).setCell ⟨g + 1, 1, none⟩ (.slice a3 l.length c3)).setCell ⟨g + 1, 2, none⟩ (.int .i64 fr)).setCell ⟨g + 1, 3, none⟩ (.int .i64 to_)).setCell ⟨g + 1, 4, none⟩ (.int .i64 st)).setCell ⟨g + 1, 5, none⟩ (.bool no)).cell? ⟨g + 1, 4, none⟩ = some (.int .i64 st) := HZ.out.cell 4
  have z5 : ((((((w4.setCell ⟨g + 1, 0, none⟩ (.int .i64 op)).setCell ⟨g + 1, 1, none⟩ (.slice a3 l.length c3)).setCell ⟨g + 1, 2, none⟩ (.int .i64 fr)).setCell ⟨g + 1, 3, none⟩ (.int .i64 to_)).setCell ⟨g + 1, 4, none⟩ (.int .i64 st)).setCell ⟨g + 1, 5, none⟩ (.bool no)).cell? ⟨g + 1, 5, none⟩ = some (.bool no) := HZ.out.cell 5
  refine bodyPost_ret (v := .agg #[.int .i64 op, .slice a3 l.length c3, .int .i64 fr, .int .i64 to_, .int .i64 st, .bool no]) (by simp [results, Tryz.results39, go_sem, z0, z1, z2, z3, z4, z5]) rfl ⟨_, rfl, ?_, ?_⟩
  · have HR4 := own_keep (own6 w4 g (d0 := .int .i64 op) (d1 := .slice a3 l.length c3) (d2 := .int .i64 fr) (d3 := .int .i64 to_) (d4 := .int .i64 st) (d5 := .bool no)) HR3.out.1 (fun b e hs => own_no_blk HR3.out.1 (HY.out.next hx4) (by decide) (by rw [e, hs]))
    exact RdRow.below (Own.rd HR4) (bel_refl _)
  · have h6 := bel6 (d0 := .int .i64 op) (d1 := .slice a3 l.length c3) (d2 := .int .i64 fr) (d3 := .int .i64 to_) (d4 := .int .i64 st) (d5 := .bool no) hg (bel_trans HB1.out hx4)
    exact h6
end Go.Proofs.YtbaflgddpciadaaGreat
