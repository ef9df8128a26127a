/- CellNil (12). -/
import Derived.Test.YtbaflgddpciadaaGreatEW
set_option linter.unusedVariables false
set_option linter.unusedSimpArgs false
namespace Go.Proofs.YtbaflgddpciadaaGreat
open Go.RowKit Go.Kt Go.Ix Go.Sx Go.Cx Go.ChangeShapes Go.WideShapes
set_option maxRecDepth 100000
variable {H : Type} {enc : TypeId × Value → H}
theorem open_cmdv {w : World} {base : Nat} {v : Value} {d : DataW H} {ps : List MemPlace} (hval : Value.okWide Tryz.prog w .any base 42 v) (h : DataW.Trod enc Tryz.prog w 0 (fun _ => true) true 42 v d ps) (hs : Small 42 d) :
    ∃ o : Cw, v = .agg #[.int .i64 o.m.kind, .int .u32 o.m.deed, .int .i64 o.m.at_.wall, .int .u32 o.m.at_.tick, .int .u32 o.m.at_.mark, .bool o.m.yes, .string o.m.token, .int .i64 o.m.n, .int .i64 o.m.id, o.v] ∧ CwR w o := by
  obtain ⟨cs, rfl, hsz⟩ := okWide_struct Tryz.underlying42 hval
  obtain ⟨fuel, hf⟩ := h
  obtain ⟨o, h1, h2⟩ := open_cmd1 hf hs
  refine ⟨o, ?_, h2⟩
  have : cs.toList = ccs o := by simpa [Value.cells] using h1
  have : cs = (ccs o).toArray := by rw [← this]
  rw [this]
  rfl
theorem list6 {α : Type} {l : List α} (h : l.length = 6) : ∃ c0 c1 c2 c3 c4 c5, l = [c0, c1, c2, c3, c4, c5] := by
  match l, h with
  | [c0, c1, c2, c3, c4, c5], _ => exact ⟨c0, c1, c2, c3, c4, c5, rfl⟩
theorem cells101 : Tryz.prog.cellsOf 101 = 6 := by kernel_rfl
theorem open_query {w : World} {base : Nat} {v : Value} {d : DataW H} {ps : List MemPlace} (hval : Value.okWide Tryz.prog w .any base 101 v) (h : DataW.Trod enc Tryz.prog w 0 (fun _ => true) true 101 v d ps) (hs : Small 101 d) :
    ∃ (op fr to_ st : Int) (no : Bool) (rv : Value) (l : List Rl), v = .agg #[.int .i64 op, rv, .int .i64 fr, .int .i64 to_, .int .i64 st, .bool no] ∧ RdR w rv l ∧ l.length ≤ 3518437208883 := by
  obtain ⟨cs, rfl, hsz⟩ := okWide_struct Tryz.underlying101 hval
  obtain ⟨fuel, hf⟩ := h
  obtain ⟨xs, m, -, hy, hl, hlen, hfd⟩ := DataW.trod_struct Tryz.underlying101 hf
  rw [cells101] at hl hsz
  obtain ⟨c0, c1, c2, c3, c4, c5, hc⟩ := list6 (l := cs.toList) (by simpa using hsz)
  obtain ⟨y0, y1, y2, y3, y4, y5, rfl⟩ := list6 hlen
  have hcs : cs = #[c0, c1, c2, c3, c4, c5] := by rw [← Array.toList_inj]; exact hc
  subst hcs
  have hd : d = .agg [y0.1, y1.1, y2.1, y3.1, y4.1, y5.1] := by
    have := congrArg Prod.fst hy
    exact this
  rw [hd] at hs
  have hs1 : Small 23 y1.1 := small_field Tryz.underlying101 hs (j := 1) rfl rfl
  have h0 : DataW.trod enc Tryz.prog w 0 (fun _ => true) true m 3 (([c0, c1, c2, c3, c4, c5].drop 0).take (Tryz.prog.cellsOf 3)) = some y0 := by have h := hfd 0 _ rfl; exact h
  have h1 : DataW.trod enc Tryz.prog w 0 (fun _ => true) true m 23 (([c0, c1, c2, c3, c4, c5].drop 1).take (Tryz.prog.cellsOf 23)) = some y1 := by have h := hfd 1 _ rfl; exact h
  have h2 : DataW.trod enc Tryz.prog w 0 (fun _ => true) true m 2 (([c0, c1, c2, c3, c4, c5].drop 2).take (Tryz.prog.cellsOf 2)) = some y2 := by have h := hfd 2 _ rfl; exact h
  have h3 : DataW.trod enc Tryz.prog w 0 (fun _ => true) true m 2 (([c0, c1, c2, c3, c4, c5].drop 3).take (Tryz.prog.cellsOf 2)) = some y3 := by have h := hfd 3 _ rfl; exact h
  have h4 : DataW.trod enc Tryz.prog w 0 (fun _ => true) true m 2 (([c0, c1, c2, c3, c4, c5].drop 4).take (Tryz.prog.cellsOf 2)) = some y4 := by have h := hfd 4 _ rfl; exact h
  have h5 : DataW.trod enc Tryz.prog w 0 (fun _ => true) true m 4 (([c0, c1, c2, c3, c4, c5].drop 5).take (Tryz.prog.cellsOf 4)) = some y5 := by have h := hfd 5 _ rfl; exact h
  rw [cells3] at h0
  rw [cells23] at h1
  rw [cells2] at h2 h3 h4
  rw [cells4] at h5
  have h0' : DataW.trod enc Tryz.prog w 0 (fun _ => true) true m 3 [c0] = some y0 := h0
  have h1' : DataW.trod enc Tryz.prog w 0 (fun _ => true) true m 23 [c1] = some y1 := h1
  have h2' : DataW.trod enc Tryz.prog w 0 (fun _ => true) true m 2 [c2] = some y2 := h2
  have h3' : DataW.trod enc Tryz.prog w 0 (fun _ => true) true m 2 [c3] = some y3 := h3
  have h4' : DataW.trod enc Tryz.prog w 0 (fun _ => true) true m 2 [c4] = some y4 := h4
  have h5' : DataW.trod enc Tryz.prog w 0 (fun _ => true) true m 4 [c5] = some y5 := h5
  obtain ⟨k0, e0, -, -⟩ := DataW.trod_int Tryz.underlying3 h0'
  obtain ⟨l1, r1, n1⟩ := open_rules h1' hs1
  obtain ⟨k2, e2, -, -⟩ := DataW.trod_int Tryz.underlying2 h2'
  obtain ⟨k3, e3, -, -⟩ := DataW.trod_int Tryz.underlying2 h3'
  obtain ⟨k4, e4, -, -⟩ := DataW.trod_int Tryz.underlying2 h4'
  obtain ⟨k5, e5, -⟩ := DataW.trod_bool Tryz.underlying4 h5'
  cases e0
  cases e2
  cases e3
  cases e4
  cases e5
  exact ⟨k0, k2, k3, k4, k5, c1, l1, rfl, r1, n1⟩
set_option maxHeartbeats 8000000 in
theorem nil_any (o : Cw) (op fr to_ st : Int) (no : Bool) (rv : Value) (l : List Rl) (t : Tm) (w : World) (hc : CwR w o) (hr : RdR w rv l) (hlen : l.length ≤ 3518437208883) (hg : Glob w) :
    Calls Tryz.prog 12 #[.agg #[.int .i64 o.m.kind, .int .u32 o.m.deed, .int .i64 o.m.at_.wall, .int .u32 o.m.at_.tick, .int .u32 o.m.at_.mark, .bool o.m.yes, .string o.m.token, .int .i64 o.m.n, .int .i64 o.m.id, o.v], .agg #[.int .i64 op, rv, .int .i64 fr, .int .i64 to_, .int .i64 st, .bool no], t.val] w fun e w' => e = .returned (.bool true) ∧ Below w.heap.size w w' := by
  obtain ⟨⟨kd, dd, ⟨aw, at1, am⟩, ys, tk, nn, id, ws⟩, ov, OT⟩ := o
  obtain ⟨ova, ovc, hov, -⟩ := hc.rd.open
  simp only at hov
  subst hov
  obtain ⟨va, vc, hv, -⟩ := hr.open
  subst hv
  have HC := Lib.hid hc
  have HR := Lib.hid hr
  have HG := Lib.hid hg
  have HRl := Lib.hid hlen
  have HX := Lib.hid (((Blk.new w #[.int .i64 kd, .int .u32 dd, .int .i64 aw, .int .u32 at1, .int .u32 am, .bool ys, .string tk, .int .i64 nn, .int .i64 id, .slice ova OT.length ovc] 42).next (below_alloc _ (.cells #[.int .i64 op, .slice va l.length vc, .int .i64 fr, .int .i64 to_, .int .i64 st, .bool no] 101))).next (below_alloc _ (.cells #[.int .i64 t.wall, .int .u32 t.tick, .int .u32 t.mark] 26)))
  have HQ := Lib.hid ((Blk.new (w.alloc (.cells #[.int .i64 kd, .int .u32 dd, .int .i64 aw, .int .u32 at1, .int .u32 am, .bool ys, .string tk, .int .i64 nn, .int .i64 id, .slice ova OT.length ovc] 42)) #[.int .i64 op, .slice va l.length vc, .int .i64 fr, .int .i64 to_, .int .i64 st, .bool no] 101).next (below_alloc _ (.cells #[.int .i64 t.wall, .int .u32 t.tick, .int .u32 t.mark] 26)))
  have HT := Lib.hid (Blk.new ((w.alloc (.cells #[.int .i64 kd, .int .u32 dd, .int .i64 aw, .int .u32 at1, .int .u32 am, .bool ys, .string tk, .int .i64 nn, .int .i64 id, .slice ova OT.length ovc] 42)).alloc (.cells #[.int .i64 op, .slice va l.length vc, .int .i64 fr, .int .i64 to_, .int .i64 st, .bool no] 101)) #[.int .i64 t.wall, .int .u32 t.tick, .int .u32 t.mark] 26)
  have HB1 := Lib.hid (bel_alloc (o := .cells #[.int .i64 t.wall, .int .u32 t.tick, .int .u32 t.mark] 26) (bel_alloc (o := .cells #[.int .i64 op, .slice va l.length vc, .int .i64 fr, .int .i64 to_, .int .i64 st, .bool no] 101) (below_alloc w (.cells #[.int .i64 kd, .int .u32 dd, .int .i64 aw, .int .u32 at1, .int .u32 am, .bool ys, .string tk, .int .i64 nn, .int .i64 id, .slice ova OT.length ovc] 42))))
  rw [World.size_alloc] at HQ
  rw [World.size_alloc, World.size_alloc] at HT
  unfold Tm.val
  clear hc hr hg hlen
  go_enter Tryz.func12, Tryz.ntmps12
  go_upto_region 2 with fail
  generalize ((w.alloc (.cells #[.int .i64 kd, .int .u32 dd, .int .i64 aw, .int .u32 at1, .int .u32 am, .bool ys, .string tk, .int .i64 nn, .int .i64 id, .slice ova OT.length ovc] 42)).alloc (.cells #[.int .i64 op, .slice va l.length vc, .int .i64 fr, .int .i64 to_, .int .i64 st, .bool no] 101)).alloc (.cells #[.int .i64 t.wall, .int .u32 t.tick, .int .u32 t.mark] 26) = w1 at HX HQ HT HB1 ⊢
  generalize hgw : w.heap.size = g at HX HQ HT ⊢
  have x0 : w1.cell? ⟨g, 0, none⟩ = some (.int .i64 kd) := HX.out.cell 0
  have x1 : w1.cell? ⟨g, 1, none⟩ = some (.int .u32 dd) := HX.out.cell 1
  have x2 : w1.cell? ⟨g, 2, none⟩ = some (.int .i64 aw) := HX.out.cell 2
  have x3 : w1.cell? ⟨g, 3, none⟩ = some (.int .u32 at1) := HX.out.cell 3
  have x4 : w1.cell? ⟨g, 4, none⟩ = some (.int .u32 am) := HX.out.cell 4
  have x5 : w1.cell? ⟨g, 5, none⟩ = some (.bool ys) := HX.out.cell 5
  have x6 : w1.cell? ⟨g, 6, none⟩ = some (.string tk) := HX.out.cell 6
  have x7 : w1.cell? ⟨g, 7, none⟩ = some (.int .i64 nn) := HX.out.cell 7
  have x8 : w1.cell? ⟨g, 8, none⟩ = some (.int .i64 id) := HX.out.cell 8
  have x9 : w1.cell? ⟨g, 9, none⟩ = some (.slice ova OT.length ovc) := HX.out.cell 9
  have HLt := Lib.hid (light_any ⟨kd, dd, ⟨aw, at1, am⟩, ys, tk, nn, id, ws⟩ (.slice ova OT.length ovc) OT w1 (HC.out.rd.below HB1.out))
  unfold cmdV at HLt
  simp only at HLt
  by_cases hl : LightW tk OT
  · have HL := Lib.hid hl
    clear hl
    go_upto_region 4 with (first
      | (go_at_call 16; refine HLt.out.mono ?_; rintro e w4 ⟨hs4, hb4⟩; obtain ⟨z, rfl, hz⟩ := says_out hs4; obtain rfl : z = true := hz.2 HL.out; have HB4 := Lib.hid hb4; clear hs4 hz hb4)
      | fail)
    clear x0 x1 x2 x3 x4 x5 x6 x7 x8 x9
    have HT1 := Lib.hid (fun W => to_any1 t W)
    have HRd := Lib.hid (fun W => read_nil (.slice none 0 0) 0 1 t W)
    unfold Tm.val at HT1 HRd
    have t0 : w4.cell? ⟨g + 1 + 1, 0, none⟩ = some (.int .i64 t.wall) := (HT.out.next HB4.out).cell 0
    have t1 : w4.cell? ⟨g + 1 + 1, 1, none⟩ = some (.int .u32 t.tick) := (HT.out.next HB4.out).cell 1
    have t2 : w4.cell? ⟨g + 1 + 1, 2, none⟩ = some (.int .u32 t.mark) := (HT.out.next HB4.out).cell 2
    go_upto_region 5 with (first
      | (go_at_call 22; refine (HT1.out _).mono ?_; rintro e w5 ⟨rfl, hb5⟩; have HB5 := Lib.hid (bel_trans HB4.out hb5); clear hb5)
      | (go_at_call 20; refine (HRd.out _).mono ?_; rintro e w6 ⟨rfl, hb6⟩; have HB6 := Lib.hid (bel_trans HB5.out hb6); clear hb6)
      | fail)
    clear t0 t1 t2
    have HQt := Lib.hid (fun W (hW : Below w6.heap.size w6 W) => qto_any op fr to_ st no (.slice va l.length vc) l W (HR.out.below (bel_trans (bel_trans HB1.out HB6.out) hW)) HRl.out)
    have HAs := Lib.hid (fun W (a : Option Addr) (n c : Nat) => ask_nil op fr to_ st no a n c t W)
    unfold Tm.val at HAs
    have HKs : Hid (∀ W, Below w6.heap.size w6 W → W.cell? ⟨g + 1, 0, none⟩ = some (.int .i64 op) ∧ W.cell? ⟨g + 1, 1, none⟩ = some (.slice va l.length vc) ∧ W.cell? ⟨g + 1, 2, none⟩ = some (.int .i64 fr) ∧ W.cell? ⟨g + 1, 3, none⟩ = some (.int .i64 to_) ∧ W.cell? ⟨g + 1, 4, none⟩ = some (.int .i64 st) ∧ W.cell? ⟨g + 1, 5, none⟩ = some (.bool no) ∧ W.cell? ⟨g + 1 + 1, 0, none⟩ = some (.int .i64 t.wall) ∧ W.cell? ⟨g + 1 + 1, 1, none⟩ = some (.int .u32 t.tick) ∧ W.cell? ⟨g + 1 + 1, 2, none⟩ = some (.int .u32 t.mark)) := Lib.hid (fun W hW => ⟨(HQ.out.next (bel_trans HB6.out hW)).cell 0, (HQ.out.next (bel_trans HB6.out hW)).cell 1, (HQ.out.next (bel_trans HB6.out hW)).cell 2, (HQ.out.next (bel_trans HB6.out hW)).cell 3, (HQ.out.next (bel_trans HB6.out hW)).cell 4, (HQ.out.next (bel_trans HB6.out hW)).cell 5, (HT.out.next (bel_trans HB6.out hW)).cell 0, (HT.out.next (bel_trans HB6.out hW)).cell 1, (HT.out.next (bel_trans HB6.out hW)).cell 2⟩)
    have HXk : Hid (∀ W, Below w6.heap.size w6 W → Blk W g #[.int .i64 kd, .int .u32 dd, .int .i64 aw, .int .u32 at1, .int .u32 am, .bool ys, .string tk, .int .i64 nn, .int .i64 id, .slice ova OT.length ovc] 42) := Lib.hid (fun W hW => HX.out.next (bel_trans HB6.out hW))
    have hgl1 : g + 1 < w6.heap.size := (HQ.out.next HB6.out).lt
    have hgl2 : g + 1 + 1 < w6.heap.size := (HT.out.next HB6.out).lt
    obtain ⟨q0, q1, q2, q3, q4, q5, q6, q7, q8⟩ := HKs.out w6 (bel_refl w6)
    have hx0 := bel_refl w6
    go_cut [11] (fun ev wd => ev = .int .i64 2 ∧ Hid (Below w6.heap.size w6 wd))
    case first =>
      go_region_held3 (fun W => W.cell? ⟨g + 1, 0, none⟩ = some (.int .i64 op) ∧ W.cell? ⟨g + 1, 1, none⟩ = some (.slice va l.length vc) ∧ W.cell? ⟨g + 1, 2, none⟩ = some (.int .i64 fr) ∧ W.cell? ⟨g + 1, 3, none⟩ = some (.int .i64 to_) ∧ W.cell? ⟨g + 1, 4, none⟩ = some (.int .i64 st) ∧ W.cell? ⟨g + 1, 5, none⟩ = some (.bool no) ∧ W.cell? ⟨g + 1 + 1, 0, none⟩ = some (.int .i64 t.wall) ∧ W.cell? ⟨g + 1 + 1, 1, none⟩ = some (.int .u32 t.tick) ∧ W.cell? ⟨g + 1 + 1, 2, none⟩ = some (.int .u32 t.mark))
        (first | (with_reducible exact ⟨q0, q1, q2, q3, q4, q5, q6, q7, q8⟩) | (with_reducible refine HKs.out _ ?_; (repeat (first | assumption | apply bel_alloc | apply bel_drew | refine bel_set ?_ (by first | exact Nat.le_refl _ | exact hx7.size | exact hx8.size))); done) | go_keep)
        (first
          | (go_simp; go_at_call 39; refine (HQt.out _ (by repeat (first | exact bel_refl _ | assumption | apply bel_alloc | apply bel_drew))).mono ?_; rintro e w7 ⟨v7, rfl, hr7, hb7⟩; obtain ⟨a7, c7, hv7, -⟩ := hr7.open; subst hv7; have hx7 : Below w6.heap.size w6 w7 := bel_trans (by repeat (first | exact bel_refl _ | assumption | apply bel_alloc | apply bel_drew)) hb7; have m7a : Blk w7 w6.heap.size #[.slice none 0 0, .slice none 0 0] 108 := Blk.next (by first | exact new_drew _ _ _ | exact drew_new _ _ _ | exact Blk.new _ _ _) hb7; have s0 : w7.cell? ⟨w6.heap.size, 0, none⟩ = some (.slice none 0 0) := m7a.cell 0; have s1 : w7.cell? ⟨w6.heap.size, 1, none⟩ = some (.slice none 0 0) := m7a.cell 1; have f0 : w7.frozen? ⟨w6.heap.size, 0, none⟩ = false := m7a.free 0; have f1 : w7.frozen? ⟨w6.heap.size, 1, none⟩ = false := m7a.free 1; have hg : w6.heap.size < w7.heap.size := m7a.lt; clear hr7 hb7)
          | (go_simp; go_at_call 39; refine (HQt.out _ (by repeat (first | exact bel_refl _ | assumption | apply bel_alloc | apply bel_drew))).mono ?_; rintro e w7 ⟨v7, rfl, hr7, hb7⟩; obtain ⟨a7, c7, hv7, -⟩ := hr7.open; subst hv7; have hx7 : Below w6.heap.size w6 w7 := bel_trans (by repeat (first | exact bel_refl _ | assumption | apply bel_alloc | apply bel_drew)) hb7; clear hr7 hb7)
          | (go_simp; go_at_call 22; refine (HT1.out _).mono ?_; rintro e w8 ⟨rfl, hb8⟩; have hx8 : Below w6.heap.size w6 w8 := bel_trans (by repeat (first | exact bel_refl _ | assumption | apply bel_alloc | apply bel_drew)) hb8; have m8a : Blk w8 w6.heap.size #[.slice none 0 0, .slice none 0 0] 108 := Blk.next (by first | exact m7a | exact blk_drew m7a | exact m7a.next (by repeat (first | exact bel_refl _ | apply bel_alloc | apply bel_drew))) hb8; have s0 : w8.cell? ⟨w6.heap.size, 0, none⟩ = some (.slice none 0 0) := m8a.cell 0; have s1 : w8.cell? ⟨w6.heap.size, 1, none⟩ = some (.slice none 0 0) := m8a.cell 1; have f0 : w8.frozen? ⟨w6.heap.size, 0, none⟩ = false := m8a.free 0; have f1 : w8.frozen? ⟨w6.heap.size, 1, none⟩ = false := m8a.free 1; have hg : w6.heap.size < w8.heap.size := m8a.lt; clear hb8)
          | (go_simp; go_at_call 22; refine (HT1.out _).mono ?_; rintro e w8 ⟨rfl, hb8⟩; have hx8 : Below w6.heap.size w6 w8 := bel_trans (by repeat (first | exact bel_refl _ | assumption | apply bel_alloc | apply bel_drew)) hb8; have m8b : Blk w8 w7.heap.size #[.slice none 0 0, .slice none 0 0] 108 := Blk.next (by first | exact new_drew _ _ _ | exact drew_new _ _ _ | exact Blk.new _ _ _) hb8; have s0 : w8.cell? ⟨w7.heap.size, 0, none⟩ = some (.slice none 0 0) := m8b.cell 0; have s1 : w8.cell? ⟨w7.heap.size, 1, none⟩ = some (.slice none 0 0) := m8b.cell 1; have f0 : w8.frozen? ⟨w7.heap.size, 0, none⟩ = false := m8b.free 0; have f1 : w8.frozen? ⟨w7.heap.size, 1, none⟩ = false := m8b.free 1; have hg : w7.heap.size < w8.heap.size := m8b.lt; clear hb8)
          | (go_simp; go_at_call 22; refine (HT1.out _).mono ?_; rintro e w8 ⟨rfl, hb8⟩; have hx8 : Below w6.heap.size w6 w8 := bel_trans (by repeat (first | exact bel_refl _ | assumption | apply bel_alloc | apply bel_drew)) hb8; clear hb8)
          | (go_simp; go_at_call 38; refine (HAs.out _ _ _ _).mono ?_; rintro e w9 ⟨rfl, hb9⟩; have hx9 : Below w6.heap.size w6 w9 := bel_trans (by repeat (first | exact bel_refl _ | assumption | apply bel_alloc | apply bel_drew)) hb9; have m9a : Blk w9 w6.heap.size #[.slice none 0 0, .slice none 0 0] 108 := Blk.next (by first | exact m8a | exact blk_drew m8a | exact m8a.next (by repeat (first | exact bel_refl _ | apply bel_alloc | apply bel_drew))) hb9; have s0 : w9.cell? ⟨w6.heap.size, 0, none⟩ = some (.slice none 0 0) := m9a.cell 0; have s1 : w9.cell? ⟨w6.heap.size, 1, none⟩ = some (.slice none 0 0) := m9a.cell 1; have f0 : w9.frozen? ⟨w6.heap.size, 0, none⟩ = false := m9a.free 0; have f1 : w9.frozen? ⟨w6.heap.size, 1, none⟩ = false := m9a.free 1; have hg : w6.heap.size < w9.heap.size := m9a.lt; clear hb9)
          | (go_simp; go_at_call 38; refine (HAs.out _ _ _ _).mono ?_; rintro e w9 ⟨rfl, hb9⟩; have hx9 : Below w6.heap.size w6 w9 := bel_trans (by repeat (first | exact bel_refl _ | assumption | apply bel_alloc | apply bel_drew)) hb9; have m9b : Blk w9 w7.heap.size #[.slice none 0 0, .slice none 0 0] 108 := Blk.next (by first | exact m8b | exact blk_drew m8b | exact m8b.next (by repeat (first | exact bel_refl _ | apply bel_alloc | apply bel_drew))) hb9; have s0 : w9.cell? ⟨w7.heap.size, 0, none⟩ = some (.slice none 0 0) := m9b.cell 0; have s1 : w9.cell? ⟨w7.heap.size, 1, none⟩ = some (.slice none 0 0) := m9b.cell 1; have f0 : w9.frozen? ⟨w7.heap.size, 0, none⟩ = false := m9b.free 0; have f1 : w9.frozen? ⟨w7.heap.size, 1, none⟩ = false := m9b.free 1; have hg : w7.heap.size < w9.heap.size := m9b.lt; clear hb9)
          | (go_simp; go_at_call 38; refine (HAs.out _ _ _ _).mono ?_; rintro e w9 ⟨rfl, hb9⟩; have hx9 : Below w6.heap.size w6 w9 := bel_trans (by repeat (first | exact bel_refl _ | assumption | apply bel_alloc | apply bel_drew)) hb9; have m9c : Blk w9 w8.heap.size #[.slice none 0 0, .slice none 0 0] 108 := Blk.next (by first | exact new_drew _ _ _ | exact drew_new _ _ _ | exact Blk.new _ _ _) hb9; have s0 : w9.cell? ⟨w8.heap.size, 0, none⟩ = some (.slice none 0 0) := m9c.cell 0; have s1 : w9.cell? ⟨w8.heap.size, 1, none⟩ = some (.slice none 0 0) := m9c.cell 1; have f0 : w9.frozen? ⟨w8.heap.size, 0, none⟩ = false := m9c.free 0; have f1 : w9.frozen? ⟨w8.heap.size, 1, none⟩ = false := m9c.free 1; have hg : w8.heap.size < w9.heap.size := m9c.lt; clear hb9)
          | (go_simp; go_at_call 38; refine (HAs.out _ _ _ _).mono ?_; rintro e w9 ⟨rfl, hb9⟩; have hx9 : Below w6.heap.size w6 w9 := bel_trans (by repeat (first | exact bel_refl _ | assumption | apply bel_alloc | apply bel_drew)) hb9; clear hb9))
      all_goals go_wp2_with fail
      all_goals go_meet
      all_goals exact ⟨rfl, Lib.hid (by repeat (first | assumption | apply bel_alloc | apply bel_drew | refine bel_set ?_ (by first | exact Nat.le_refl _ | exact hx7.size | exact hx8.size)))⟩
    case rest =>
      obtain ⟨rfl, HB9⟩ := hcut
      obtain ⟨wd, rfl⟩ : ∃ wd, wd = wc := ⟨_, rfl⟩
      clear q0 q1 q2 q3 q4 q5 q6 q7 q8 HQt HAs hgl1 hgl2 HKs HRd
      have HBd := Lib.hid (bel_trans HB6.out HB9.out)
      have x1 : wd.cell? ⟨g, 1, none⟩ = some (.int .u32 dd) := (HX.out.next HBd.out).cell 1
      go_upto_region 7 with (first
        | (go_at_call 32; refine (deed_nil dd _).mono ?_; rintro e w10 ⟨rfl, hb10⟩; have HB10 := Lib.hid hb10; clear hb10)
        | fail)
      clear x1
      have HB11 := Lib.hid (bel_alloc (o := .cells #[.int .i64 0, .int .u32 0, .int .i64 0, .int .i64 0, .int .u32 0, .int .u32 0] 46) HB10.out)
      generalize w10.alloc (.cells #[.int .i64 0, .int .u32 0, .int .i64 0, .int .i64 0, .int .u32 0, .int .u32 0] 46) = w11 at HB11 ⊢
      have HBe := Lib.hid (bel_trans HB1.out (bel_trans HBd.out HB11.out))
      have HXe := Lib.hid (HX.out.next (bel_trans HBd.out HB11.out))
      have HTo := Lib.hid (fun W (hW : Below w11.heap.size w11 W) => tocmd_any ⟨kd, dd, ⟨aw, at1, am⟩, ys, tk, nn, id, ws⟩ (.slice ova OT.length ovc) OT W (HC.out.rd.below (bel_trans HBe.out hW)) (by have := HL.out.1; omega) (fun x hx => (HC.out.wr x hx).len))
      have HDn := Lib.hid (fun W (a : Option Addr) (n c : Nat) => do_nil ⟨kd, dd, ⟨aw, at1, am⟩, ys, tk, nn, id, ws⟩ (.slice a n c) W ⟨a, n, c, rfl⟩)
      unfold cmdV at HTo HDn
      simp only at HTo HDn
      go_wp2_with (first
        | (go_at_call 15; refine (awake_any _ (HG.out.below HBe.out)).mono ?_; rintro e w12 ⟨rfl, hb12⟩; have HB12 := Lib.hid hb12; have x0 : w12.cell? ⟨g, 0, none⟩ = some (.int .i64 kd) := (HXe.out.next hb12).cell 0; have x1 : w12.cell? ⟨g, 1, none⟩ = some (.int .u32 dd) := (HXe.out.next hb12).cell 1; have x2 : w12.cell? ⟨g, 2, none⟩ = some (.int .i64 aw) := (HXe.out.next hb12).cell 2; have x3 : w12.cell? ⟨g, 3, none⟩ = some (.int .u32 at1) := (HXe.out.next hb12).cell 3; have x4 : w12.cell? ⟨g, 4, none⟩ = some (.int .u32 am) := (HXe.out.next hb12).cell 4; have x5 : w12.cell? ⟨g, 5, none⟩ = some (.bool ys) := (HXe.out.next hb12).cell 5; have x6 : w12.cell? ⟨g, 6, none⟩ = some (.string tk) := (HXe.out.next hb12).cell 6; have x7 : w12.cell? ⟨g, 7, none⟩ = some (.int .i64 nn) := (HXe.out.next hb12).cell 7; have x8 : w12.cell? ⟨g, 8, none⟩ = some (.int .i64 id) := (HXe.out.next hb12).cell 8; have x9 : w12.cell? ⟨g, 9, none⟩ = some (.slice ova OT.length ovc) := (HXe.out.next hb12).cell 9; clear hb12)
        | (go_at_call 18; refine (HTo.out _ HB12.out).mono ?_; rintro e w13 ⟨v', Q, rfl, hq, hpl, hb13⟩; obtain ⟨qa, qc, hqv, -⟩ := hq.open; subst hqv; have HB13 := Lib.hid (bel_trans HB12.out hb13); clear hq hpl hb13)
        | (go_at_call 17; refine (HDn.out _ _ _ _).mono ?_; rintro e w14 ⟨rfl, hb14⟩; have HB14 := Lib.hid (bel_trans HB13.out hb14); clear hb14)
        | (go_at_call 33; refine (closed_nil _).mono ?_; rintro e w15 ⟨rfl, hb15⟩; have HB15 := Lib.hid (bel_trans HB14.out hb15); clear hb15)
        | (go_at_call 34; refine (safe_nil _).mono ?_; rintro e w16 ⟨rfl, hb16⟩; have HB16 := Lib.hid (bel_trans HB15.out hb16); clear hb16)
        | (go_at_call 35; refine (ticks_nil _).mono ?_; rintro e w17 ⟨rfl, hb17⟩; have HB17 := Lib.hid (bel_trans HB16.out hb17); clear hb17)
        | (go_at_call 43; refine (held_nil _).mono ?_; rintro e w18 ⟨rfl, hb18⟩; have HB18 := Lib.hid (bel_trans HB17.out hb18); clear hb18)
        | (go_at_call 31; refine (book_nil _).mono ?_; rintro e w19 ⟨rfl, hb19⟩; have HB19 := Lib.hid (bel_trans HB18.out hb19); clear hb19)
        | fail)
      go_ret
      exact ⟨rfl, bel_trans HBe.out HB19.out⟩
  · go_wp2_with (first
      | (go_at_call 16; refine HLt.out.mono ?_; rintro e w4 ⟨hs4, hb4⟩; obtain ⟨z, rfl, hz⟩ := says_out hs4; have hzf : z = false := (by cases z with | false => rfl | true => exact absurd (hz.1 rfl) hl); subst hzf; have HB4 := Lib.hid hb4; clear hs4 hz hb4)
      | (go_at_call 15; refine (awake_any _ (HG.out.below (bel_trans HB1.out HB4.out))).mono ?_; rintro e w5 ⟨rfl, hb5⟩; have HB5 := Lib.hid hb5; clear hb5)
      | fail)
    go_ret
    exact ⟨rfl, bel_trans (bel_trans HB1.out HB4.out) HB5.out⟩
end Go.Proofs.YtbaflgddpciadaaGreat
