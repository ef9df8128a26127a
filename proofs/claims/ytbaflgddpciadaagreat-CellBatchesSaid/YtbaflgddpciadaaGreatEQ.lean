/- Deed (32). What holds between two commands of a law's loop; Deed of a cell. -/
import Derived.Test.YtbaflgddpciadaaGreatEH
import Derived.Test.YtbaflgddpciadaaGreatEO
set_option linter.unusedVariables false
set_option linter.unusedSimpArgs false
namespace Go.Proofs.YtbaflgddpciadaaGreat
open Go.RowKit Go.Kt Go.Ix Go.Sx Go.Cx
set_option maxRecDepth 100000
variable {F : Nat → Prop} {w w' : World} {c N : Nat} {C : Cl} {p : Cp}
theorem set6g {w : World} {g : Nat} {c0 c1 c2 c3 c4 c5 : Value} {t : TypeId} (h : Blk w g #[c0, c1, c2, c3, c4, c5] t) (d0 d1 d2 d3 d4 d5 : Value) :
    Blk ((((((w.setCell ⟨g, 0, none⟩ d0).setCell ⟨g, 1, none⟩ d1).setCell ⟨g, 2, none⟩ d2).setCell ⟨g, 3, none⟩ d3).setCell ⟨g, 4, none⟩ d4).setCell ⟨g, 5, none⟩ d5) g #[d0, d1, d2, d3, d4, d5] t := by
  have := (((((h.set 0 d0).set 1 d1).set 2 d2).set 3 d3).set 4 d4).set 5 d5
  simpa using this
theorem bel6g {x w : World} {g : Nat} (h : Below x.heap.size x w) (hg : x.heap.size ≤ g) {d0 d1 d2 d3 d4 d5 : Value} :
    Below x.heap.size x ((((((w.setCell ⟨g, 0, none⟩ d0).setCell ⟨g, 1, none⟩ d1).setCell ⟨g, 2, none⟩ d2).setCell ⟨g, 3, none⟩ d3).setCell ⟨g, 4, none⟩ d4).setCell ⟨g, 5, none⟩ d5) :=
  bel_set (bel_set (bel_set (bel_set (bel_set (bel_set h hg) hg) hg) hg) hg) hg
/-- how a deed is told, if it is known -/
def DeedPost (C : Cl) (n : Int) (w : World) (e : Ending) (w' : World) : Prop := ∃ ok d, FoundD C.deeds n ok d ∧ e = .returned (.tuple #[replyV (if ok = true then d.told else bad 0), .bool ok]) ∧ Below w.heap.size w w'
set_option maxHeartbeats 4000000 in
theorem deed_any (w : World) (h : CeAt F w c C N p) (n : Int) (hn : 0 ≤ n ∧ n ≤ 4294967295) : Calls Tryz.prog 32 #[.pointer (some ⟨c, 0, none⟩), .int .u32 n] w fun e w' => DeedPost C n w e w' := by
  have H := Lib.hid h
  have HY := Lib.hid (Blk.new w #[.int .i64 0, .int .u32 0, .int .i64 0, .int .i64 0, .int .u32 0, .int .u32 0] 46)
  have HB1 := Lib.hid (below_alloc w (.cells #[.int .i64 0, .int .u32 0, .int .i64 0, .int .i64 0, .int .u32 0, .int .u32 0] 46))
  clear h
  obtain ⟨ok, d, sl, hf, hsl, -, hlk⟩ := H.out.deeds.lookup H.out.inv.rise hn
  have HF := Lib.hid hf
  have HId : Hid (d.id = n) := Lib.hid hf.id
  obtain ⟨di, ds, ⟨dw, dt, dm⟩, dws⟩ := d
  obtain ⟨sa, sc, rfl⟩ := hsl.open
  have HLk := Lib.hid hlk
  clear hlk hsl hf
  go_enter Tryz.func32, Tryz.ntmps32
  go_upto_region 3 with fail
  generalize w.alloc (.cells #[.int .i64 0, .int .u32 0, .int .i64 0, .int .i64 0, .int .u32 0, .int .u32 0] 46) = w1 at HY HB1 ⊢
  have HgL : Hid (w.heap.size ≤ w.heap.size) := Lib.hid (Nat.le_refl _)
  have H1 := Lib.hid (H.out.next HB1.out)
  have c2 : w1.cell? ⟨c, 2, none⟩ = some (.map (some p.dm)) := H1.out.blk.cell 2
  have hlk := HLk.out w1 HB1.out
  unfold dval at hlk
  simp only at hlk
  go_upto_region 4 with fail
  clear c2 hlk
  have HD2 := Lib.hid (Blk.new w1 #[.int .i64 ds, .int .i64 dw, .int .u32 dt, .int .u32 dm, .slice sa dws.length sc] 181)
  have HB2 := Lib.hid (below_alloc w1 (.cells #[.int .i64 ds, .int .i64 dw, .int .u32 dt, .int .u32 dm, .slice sa dws.length sc] 181))
  have HY2 := Lib.hid (HY.out.next HB2.out)
  generalize w1.alloc (.cells #[.int .i64 ds, .int .i64 dw, .int .u32 dt, .int .u32 dm, .slice sa dws.length sc] 181) = w2 at HD2 HB2 HY2 ⊢
  generalize w1.heap.size = g5 at HD2 ⊢
  have HB12 := Lib.hid (bel_trans HB1.out HB2.out)
  obtain ⟨g, hg⟩ : ∃ g, w.heap.size = g := ⟨_, rfl⟩
  rw [hg] at HY2 ⊢
  cases ok with
  | true =>
    obtain rfl : di = n := HId.out
    have HTl := Lib.hid (fun W => dtold_any ⟨di, ds, ⟨dw, dt, dm⟩, dws⟩ sa dws.length sc W)
    unfold replyV replyA dval Dd.told at HTl
    simp only at HTl
    have v0 : w2.cell? ⟨g5, 0, none⟩ = some (.int .i64 ds) := HD2.out.cell 0
    have v1 : w2.cell? ⟨g5, 1, none⟩ = some (.int .i64 dw) := HD2.out.cell 1
    have v2 : w2.cell? ⟨g5, 2, none⟩ = some (.int .u32 dt) := HD2.out.cell 2
    have v3 : w2.cell? ⟨g5, 3, none⟩ = some (.int .u32 dm) := HD2.out.cell 3
    have v4 : w2.cell? ⟨g5, 4, none⟩ = some (.slice sa dws.length sc) := HD2.out.cell 4
    have HYf : Hid (∀ W, Below w2.heap.size w2 W → Blk W g #[.int .i64 0, .int .u32 0, .int .i64 0, .int .i64 0, .int .u32 0, .int .u32 0] 46) := Lib.hid (fun W hW => HY2.out.next hW)
    go_wp2_with (first
      | (go_at_call 89; refine (HTl.out _).mono ?_; rintro e w8 ⟨rfl, hb8⟩; have HB8 := Lib.hid (bel_trans HB12.out hb8); have HY8 := Lib.hid (HYf.out _ hb8); clear hb8; have y0 : w8.cell? ⟨g, 0, none⟩ = some (.int .i64 0) := HY8.out.cell 0; have f0 : w8.frozen? ⟨g, 0, none⟩ = false := HY8.out.free 0; have y1 : w8.cell? ⟨g, 1, none⟩ = some (.int .u32 0) := HY8.out.cell 1; have f1 : w8.frozen? ⟨g, 1, none⟩ = false := HY8.out.free 1; have y2 : w8.cell? ⟨g, 2, none⟩ = some (.int .i64 0) := HY8.out.cell 2; have f2 : w8.frozen? ⟨g, 2, none⟩ = false := HY8.out.free 2; have y3 : w8.cell? ⟨g, 3, none⟩ = some (.int .i64 0) := HY8.out.cell 3; have f3 : w8.frozen? ⟨g, 3, none⟩ = false := HY8.out.free 3; have y4 : w8.cell? ⟨g, 4, none⟩ = some (.int .u32 0) := HY8.out.cell 4; have f4 : w8.frozen? ⟨g, 4, none⟩ = false := HY8.out.free 4; have y5 : w8.cell? ⟨g, 5, none⟩ = some (.int .u32 0) := HY8.out.cell 5; have f5 : w8.frozen? ⟨g, 5, none⟩ = false := HY8.out.free 5; skip)
      | fail)
    have hY := set6g HY8.out (.int .i64 0) (.int .u32 di) (.int .i64 ds) (.int .i64 dw) (.int .u32 dt) (.int .u32 dm)
    have z0 : ((((((w8.setCell ⟨g, 0, none⟩ (.int .i64 0)).setCell ⟨g, 1, none⟩ (.int .u32 di)).setCell ⟨g, 2, none⟩ (.int .i64 ds)).setCell ⟨g, 3, none⟩ (.int .i64 dw)).setCell ⟨g, 4, none⟩ (.int .u32 dt)).setCell ⟨g, 5, none⟩ (.int .u32 dm)).cell? ⟨g, 0, none⟩ = some (.int .i64 0) := hY.cell 0
    have z1 : ((((((w8.setCell ⟨g, 0, none⟩ (.int .i64 0)).setCell ⟨g, 1, none⟩ (.int .u32 di)).setCell ⟨g, 2, none⟩ (.int .i64 ds)).setCell ⟨g, 3, none⟩ (.int .i64 dw)).setCell ⟨g, 4, none⟩ (.int .u32 dt)).setCell ⟨g, 5, none⟩ (.int .u32 dm)).cell? ⟨g, 1, none⟩ = some (.int .u32 di) := hY.cell 1
    have z2 : ((((((w8.setCell ⟨g, 0, none⟩ (.int .i64 0)).setCell ⟨g, 1, none⟩ (.int .u32 di)).setCell ⟨g, 2, none⟩ (.int .i64 ds)).setCell ⟨g, 3, none⟩ (.int .i64 dw)).setCell ⟨g, 4, none⟩ (.int .u32 dt)).setCell ⟨g, 5, none⟩ (.int .u32 dm)).cell? ⟨g, 2, none⟩ = some (.int .i64 ds) := hY.cell 2
    have z3 : ((((((w8.setCell ⟨g, 0, none⟩ (.int .i64 0)).setCell ⟨g, 1, none⟩ (.int .u32 di)).setCell ⟨g, 2, none⟩ (.int .i64 ds)).setCell ⟨g, 3, none⟩ (.int .i64 dw)).setCell ⟨g, 4, none⟩ (.int .u32 dt)).setCell ⟨g, 5, none⟩ (.int .u32 dm)).cell? ⟨g, 3, none⟩ = some (.int .i64 dw) := hY.cell 3
    have z4 : ((((((w8.setCell ⟨g, 0, none⟩ (.int .i64 0)).setCell ⟨g, 1, none⟩ (.int .u32 di)).setCell ⟨g, 2, none⟩ (.int .i64 ds)).setCell ⟨g, 3, none⟩ (.int .i64 dw)).setCell ⟨g, 4, none⟩ (.int .u32 dt)).setCell ⟨g, 5, none⟩ (.int .u32 dm)).cell? ⟨g, 4, none⟩ = some (.int .u32 dt) := hY.cell 4
    have z5 : ((((((w8.setCell ⟨g, 0, none⟩ (.int .i64 0)).setCell ⟨g, 1, none⟩ (.int .u32 di)).setCell ⟨g, 2, none⟩ (.int .i64 ds)).setCell ⟨g, 3, none⟩ (.int .i64 dw)).setCell ⟨g, 4, none⟩ (.int .u32 dt)).setCell ⟨g, 5, none⟩ (.int .u32 dm)).cell? ⟨g, 5, none⟩ = some (.int .u32 dm) := hY.cell 5
    refine bodyPost_ret (v := .tuple #[.agg #[.int .i64 0, .int .u32 di, .int .i64 ds, .int .i64 dw, .int .u32 dt, .int .u32 dm], .bool true]) (by simp [results, Tryz.results32, go_sem, z0, z1, z2, z3, z4, z5]) rfl ?_
    exact ⟨true, _, HF.out, rfl, bel6g HB8.out (Nat.le_of_eq hg)⟩
  | false =>
    have y0 : w2.cell? ⟨g, 0, none⟩ = some (.int .i64 0) := HY2.out.cell 0
    have f0 : w2.frozen? ⟨g, 0, none⟩ = false := HY2.out.free 0
    have y1 : w2.cell? ⟨g, 1, none⟩ = some (.int .u32 0) := HY2.out.cell 1
    have f1 : w2.frozen? ⟨g, 1, none⟩ = false := HY2.out.free 1
    have y2 : w2.cell? ⟨g, 2, none⟩ = some (.int .i64 0) := HY2.out.cell 2
    have f2 : w2.frozen? ⟨g, 2, none⟩ = false := HY2.out.free 2
    have y3 : w2.cell? ⟨g, 3, none⟩ = some (.int .i64 0) := HY2.out.cell 3
    have f3 : w2.frozen? ⟨g, 3, none⟩ = false := HY2.out.free 3
    have y4 : w2.cell? ⟨g, 4, none⟩ = some (.int .u32 0) := HY2.out.cell 4
    have f4 : w2.frozen? ⟨g, 4, none⟩ = false := HY2.out.free 4
    have y5 : w2.cell? ⟨g, 5, none⟩ = some (.int .u32 0) := HY2.out.cell 5
    have f5 : w2.frozen? ⟨g, 5, none⟩ = false := HY2.out.free 5
    go_wp2_with fail
    have hY := set6g HY2.out (.int .i64 0) (.int .u32 0) (.int .i64 0) (.int .i64 0) (.int .u32 0) (.int .u32 0)
    have z0 : ((((((w2.setCell ⟨g, 0, none⟩ (.int .i64 0)).setCell ⟨g, 1, none⟩ (.int .u32 0)).setCell ⟨g, 2, none⟩ (.int .i64 0)).setCell ⟨g, 3, none⟩ (.int .i64 0)).setCell ⟨g, 4, none⟩ (.int .u32 0)).setCell ⟨g, 5, none⟩ (.int .u32 0)).cell? ⟨g, 0, none⟩ = some (.int .i64 0) := hY.cell 0
    have z1 : ((((((w2.setCell ⟨g, 0, none⟩ (.int .i64 0)).setCell ⟨g, 1, none⟩ (.int .u32 0)).setCell ⟨g, 2, none⟩ (.int .i64 0)).setCell ⟨g, 3, none⟩ (.int .i64 0)).setCell ⟨g, 4, none⟩ (.int .u32 0)).setCell ⟨g, 5, none⟩ (.int .u32 0)).cell? ⟨g, 1, none⟩ = some (.int .u32 0) := hY.cell 1
    have z2 : ((((((w2.setCell ⟨g, 0, none⟩ (.int .i64 0)).setCell ⟨g, 1, none⟩ (.int .u32 0)).setCell ⟨g, 2, none⟩ (.int .i64 0)).setCell ⟨g, 3, none⟩ (.int .i64 0)).setCell ⟨g, 4, none⟩ (.int .u32 0)).setCell ⟨g, 5, none⟩ (.int .u32 0)).cell? ⟨g, 2, none⟩ = some (.int .i64 0) := hY.cell 2
    have z3 : ((((((w2.setCell ⟨g, 0, none⟩ (.int .i64 0)).setCell ⟨g, 1, none⟩ (.int .u32 0)).setCell ⟨g, 2, none⟩ (.int .i64 0)).setCell ⟨g, 3, none⟩ (.int .i64 0)).setCell ⟨g, 4, none⟩ (.int .u32 0)).setCell ⟨g, 5, none⟩ (.int .u32 0)).cell? ⟨g, 3, none⟩ = some (.int .i64 0) := hY.cell 3
    have z4 : ((((((w2.setCell ⟨g, 0, none⟩ (.int .i64 0)).setCell ⟨g, 1, none⟩ (.int .u32 0)).setCell ⟨g, 2, none⟩ (.int .i64 0)).setCell ⟨g, 3, none⟩ (.int .i64 0)).setCell ⟨g, 4, none⟩ (.int .u32 0)).setCell ⟨g, 5, none⟩ (.int .u32 0)).cell? ⟨g, 4, none⟩ = some (.int .u32 0) := hY.cell 4
    have z5 : ((((((w2.setCell ⟨g, 0, none⟩ (.int .i64 0)).setCell ⟨g, 1, none⟩ (.int .u32 0)).setCell ⟨g, 2, none⟩ (.int .i64 0)).setCell ⟨g, 3, none⟩ (.int .i64 0)).setCell ⟨g, 4, none⟩ (.int .u32 0)).setCell ⟨g, 5, none⟩ (.int .u32 0)).cell? ⟨g, 5, none⟩ = some (.int .u32 0) := hY.cell 5
    refine bodyPost_ret (v := .tuple #[.agg #[.int .i64 0, .int .u32 0, .int .i64 0, .int .i64 0, .int .u32 0, .int .u32 0], .bool false]) (by simp [results, Tryz.results32, go_sem, z0, z1, z2, z3, z4, z5]) rfl ?_
    exact ⟨false, _, HF.out, rfl, bel6g HB12.out (Nat.le_of_eq hg)⟩
end Go.Proofs.YtbaflgddpciadaaGreat
set_option linter.unusedVariables false
set_option linter.unusedSimpArgs false
namespace Go.Proofs.YtbaflgddpciadaaGreat
open Go.RowKit Go.Kt Go.Ix Go.Sx Go.Cx
set_option maxRecDepth 100000
variable {S : Nat → Prop} {w w' : World} {c N : Nat} {C : Cl}
/-- between two commands -/
structure Rn (w wr : World) (S : Nat → Prop) (c : Nat) (C : Cl) (k : Nat) : Prop where
  cel : Cel S wr c C (64 * k)
  ticks : C.ticks ≤ k
  ge : ∀ x, S x → w.heap.size ≤ x
  bel : Below w.heap.size w wr
theorem Rn.next {wr wr' : World} {k : Nat} (h : Rn w wr S c C k) (hb : Below wr.heap.size wr wr') : Rn w wr' S c C k := ⟨h.cel.next hb, h.ticks, h.ge, bel_trans h.bel hb⟩
/-- a command was done -/
theorem Rn.done {wr W W' : World} {S' : Nat → Prop} {k : Nat} (h : Rn w wr S c C k) (hb : Below wr.heap.size wr W) {m : Cmd} (hc : Cel S' W' c (doC C m).2 (64 * k + 64)) (hS : ∀ x, S' x → S x ∨ W.heap.size ≤ x) (ht : Turn S W W') : Rn w W' S' c (doC C m).2 (k + 1) := by
  have hW := h.next hb
  refine ⟨hc.more (by omega), ?_, fun x hx => ?_, ?_⟩
  · have h1 := (do_rises C m).2.2.2; have h2 := h.ticks; omega
  · rcases hS x hx with h1 | h1
    · exact h.ge x h1
    · exact Nat.le_trans hW.bel.size h1
  · have hT : Turn (fun x => w.heap.size ≤ x) w W' := (Turn.of hW.bel).trans ht (fun x hx => .inl (h.ge x hx))
    exact hT.bel (Nat.le_refl _) (fun x hx => hx)
def DeedFact (C : Cl) (n : Int) (ok : Bool) (ws : Int) (at_ : Tm) : Prop := (ok = false → findD C.deeds n = none) ∧ (ok = true → ∃ d, findD C.deeds n = some d ∧ d.state = ws ∧ d.at_ = at_)
theorem cel_deed (h : Cel S w c C N) (n : Int) (hn : 0 ≤ n ∧ n ≤ 4294967295) : Calls Tryz.prog 32 #[.pointer (some ⟨c, 0, none⟩), .int .u32 n] w fun e w' => ∃ ok we wd ws ww wt wm, e = .returned (.tuple #[.agg #[.int .i64 we, .int .u32 wd, .int .i64 ws, .int .i64 ww, .int .u32 wt, .int .u32 wm], .bool ok]) ∧ DeedFact C n ok ws ⟨ww, wt, wm⟩ ∧ Below w.heap.size w w' := by
  obtain ⟨p, F, hp, -⟩ := h.at_
  refine (deed_any w hp n hn).mono ?_
  rintro e w' ⟨ok, d, hf, rfl, hb⟩
  rcases hf with ⟨rfl, hf⟩ | ⟨rfl, hf, rfl⟩
  · obtain ⟨did, ds, ⟨dw, dt, dm⟩, dws⟩ := d
    exact ⟨_, _, _, _, _, _, _, rfl, ⟨(fun e => by cases e), fun _ => ⟨_, hf, rfl, rfl⟩⟩, hb⟩
  · exact ⟨_, _, _, _, _, _, _, rfl, ⟨fun _ => hf, (fun e => by cases e)⟩, hb⟩
theorem do_prepare (C : Cl) {m : Cmd} (h : m.kind = 3) : doC C m = prepareC C m := by unfold doC; simp [h]
theorem do_resolve (C : Cl) {m : Cmd} (h : m.kind = 4) : doC C m = resolveC C m := by unfold doC; simp [h]
theorem cmpT_pos {a b : Tm} (h : b.lt a) : decide (cmpT a b ≤ 0) = false := by
  simp only [decide_eq_false_iff_not]
  exact fun e => cmpT_le.1 e h
theorem cmpT_ge {a b : Tm} (h : ¬ a.lt b) : decide (cmpT a b < 0) = false := by
  simp only [decide_eq_false_iff_not]
  exact fun e => h (cmpT_lt.1 e)
end Go.Proofs.YtbaflgddpciadaaGreat
