/- The commands' form; close (55). -/
import Derived.Test.YtbaflgddpciadaaGreatE7
set_option linter.unusedVariables false
set_option linter.unusedSimpArgs false
namespace Go.Proofs.YtbaflgddpciadaaGreat
open Go.RowKit Go.Kt Go.Ix Go.Sx Go.Cx
set_option maxRecDepth 100000
def cmdA (m : Cmd) (v : Value) : Array Value := #[.int .i64 m.kind, .int .u32 m.deed, .int .i64 m.at_.wall, .int .u32 m.at_.tick, .int .u32 m.at_.mark, .bool m.yes, .string m.token, .int .i64 m.n, .int .i64 m.id, v]
def cmdV (m : Cmd) (v : Value) : Value := .agg #[.int .i64 m.kind, .int .u32 m.deed, .int .i64 m.at_.wall, .int .u32 m.at_.tick, .int .u32 m.at_.mark, .bool m.yes, .string m.token, .int .i64 m.n, .int .i64 m.id, v]
/-- a command that is handed in: its rows of writes can be read -/
structure CmdR (w : World) (m : Cmd) (v : Value) (T : List Wr) : Prop where
  rd : RdW w v T
  pl : T.map Wr.pl = m.ws
  len : T.length ≤ 1048576
  fit : FitWs T
  sets : ∀ x ∈ T, x.st.length ≤ 4398046511104
  tok : m.token.size ≤ maxLen
  ok : CmdOk m
theorem CmdR.below {w w' : World} {m : Cmd} {v : Value} {T : List Wr} (h : CmdR w m v T) (hb : Below w.heap.size w w') : CmdR w' m v T := ⟨h.rd.below hb, h.pl, h.len, h.fit, h.sets, h.tok, h.ok⟩
/-- what a command answers, and the cell then -/
def DoPost (F : Nat → Prop) (w : World) (c : Nat) (p : Cp) (z : Rep × Cl) (N : Nat) (e : Ending) (w' : World) : Prop :=
  e = .returned (replyV z.1) ∧ ∃ F' p', CeAt F' w' c z.2 N p' ∧ (∀ x, F x → F' x) ∧ (∀ x, F' x → F x ∨ w.heap.size ≤ x) ∧ (∀ x, core c p' x → core c p x ∨ w.heap.size ≤ x) ∧ Turn (core c p) w w'
variable {F : Nat → Prop} {w w' : World} {c N : Nat} {C : Cl} {p : Cp}
theorem post_same {z : Rep × Cl} {e : Ending} (h : CeAt F w c C N p) (he : e = .returned (replyV z.1)) (hz : z.2 = C) (hb : Below w.heap.size w w') : DoPost F w c p z N e w' :=
  ⟨he, F, p, by rw [hz]; exact h.next hb, fun x hx => hx, fun x hx => .inl hx, fun x hx => .inl hx, Turn.of hb⟩
/-- a reply stored into a block of the call's own -/
theorem bel6 {w W : World} {g : Nat} (hg : w.heap.size = g) (h : Below w.heap.size w W) {d0 d1 d2 d3 d4 d5 : Value} :
    Below w.heap.size w ((((((W.setCell ⟨g + 1, 0, none⟩ d0).setCell ⟨g + 1, 1, none⟩ d1).setCell ⟨g + 1, 2, none⟩ d2).setCell ⟨g + 1, 3, none⟩ d3).setCell ⟨g + 1, 4, none⟩ d4).setCell ⟨g + 1, 5, none⟩ d5) := by
  have hl : w.heap.size ≤ g + 1 := by omega
  exact bel_set (bel_set (bel_set (bel_set (bel_set (bel_set h hl) hl) hl) hl) hl) hl
theorem turn6 {H : Nat → Prop} {w W : World} {g : Nat} (hg : w.heap.size ≤ g) (h : Turn H w W) {d0 d1 d2 d3 d4 d5 : Value} :
    Turn H w ((((((W.setCell ⟨g + 1, 0, none⟩ d0).setCell ⟨g + 1, 1, none⟩ d1).setCell ⟨g + 1, 2, none⟩ d2).setCell ⟨g + 1, 3, none⟩ d3).setCell ⟨g + 1, 4, none⟩ d4).setCell ⟨g + 1, 5, none⟩ d5) := by
  have h1 : Turn (fun x => x = g + 1) W ((((((W.setCell ⟨g + 1, 0, none⟩ d0).setCell ⟨g + 1, 1, none⟩ d1).setCell ⟨g + 1, 2, none⟩ d2).setCell ⟨g + 1, 3, none⟩ d3).setCell ⟨g + 1, 4, none⟩ d4).setCell ⟨g + 1, 5, none⟩ d5) :=
    ((((((Turn.refl (fun x => x = g + 1) W).set (a := ⟨g + 1, 0, none⟩) rfl _).set (a := ⟨g + 1, 1, none⟩) rfl _).set (a := ⟨g + 1, 2, none⟩) rfl _).set (a := ⟨g + 1, 3, none⟩) rfl _).set (a := ⟨g + 1, 4, none⟩) rfl _).set (a := ⟨g + 1, 5, none⟩) rfl _
  exact h.trans h1 (fun x hx => .inr (by omega))
theorem blk_other6 {W : World} {g : Nat} {cs : Array Value} {t : TypeId} {b : Nat} (h : Blk W b cs t) (hn : b ≠ g + 1) {d0 d1 d2 d3 d4 d5 : Value} :
    Blk ((((((W.setCell ⟨g + 1, 0, none⟩ d0).setCell ⟨g + 1, 1, none⟩ d1).setCell ⟨g + 1, 2, none⟩ d2).setCell ⟨g + 1, 3, none⟩ d3).setCell ⟨g + 1, 4, none⟩ d4).setCell ⟨g + 1, 5, none⟩ d5) b cs t :=
  (((((h.other hn _).other hn _).other hn _).other hn _).other hn _).other hn _
/-- the cell's own block alone was turned -/
theorem post_own {z : Rep × Cl} {e : Ending} (h : CeAt F w c C N p) (he : e = .returned (replyV z.1)) (ht : Turn (fun x => x = c) w w') (hb : Blk w' c (ccells z.2 p) 140) (hM : z.2.M = C.M) (hD : z.2.deeds = C.deeds) (hP : z.2.pins = C.pins) (hB : z.2.book = C.book) (hi : CInv z.2) : DoPost F w c p z N e w' :=
  ⟨he, F, p, h.own ht hb hM hD hP hB hi, fun x hx => hx, fun x hx => .inl hx, fun x hx => .inl hx, ht.mono (fun x hx => .inl hx)⟩
noncomputable def closeC (C : Cl) (m : Cmd) : Rep × Cl := if ¬ tmR m.at_ then (bad 1, C) else (⟨0, 0, 0, mostT C.closed (lastT m.at_)⟩, { C with closed := mostT C.closed (lastT m.at_) })
set_option maxHeartbeats 4000000 in
theorem close_any (m : Cmd) (v : Value) (T : List Wr) (w : World) (h : CeAt F w c C N p) (hm : CmdR w m v T) (hi : CInv (closeC C m).2) :
    Calls Tryz.prog 55 #[.pointer (some ⟨c, 0, none⟩), cmdV m v] w fun e w' => DoPost F w c p (closeC C m) N e w' := by
  obtain ⟨kd, dd, ⟨aw, at1, am⟩, ys, tk, nn, id, ws⟩ := m
  obtain ⟨va, vc, hve, -⟩ := hm.rd.open
  subst hve
  have H := Lib.hid h
  have HM := Lib.hid hm
  have HX := Lib.hid ((Blk.new w #[.int .i64 kd, .int .u32 dd, .int .i64 aw, .int .u32 at1, .int .u32 am, .bool ys, .string tk, .int .i64 nn, .int .i64 id, .slice va T.length vc] 50).next (below_alloc _ (.cells #[.int .i64 0, .int .u32 0, .int .i64 0, .int .i64 0, .int .u32 0, .int .u32 0] 46)))
  have HY := Lib.hid (Blk.new (w.alloc (.cells #[.int .i64 kd, .int .u32 dd, .int .i64 aw, .int .u32 at1, .int .u32 am, .bool ys, .string tk, .int .i64 nn, .int .i64 id, .slice va T.length vc] 50)) #[.int .i64 0, .int .u32 0, .int .i64 0, .int .i64 0, .int .u32 0, .int .u32 0] 46)
  have HB1 := Lib.hid (bel_alloc (o := .cells #[.int .i64 0, .int .u32 0, .int .i64 0, .int .i64 0, .int .u32 0, .int .u32 0] 46) (below_alloc w (.cells #[.int .i64 kd, .int .u32 dd, .int .i64 aw, .int .u32 at1, .int .u32 am, .bool ys, .string tk, .int .i64 nn, .int .i64 id, .slice va T.length vc] 50)))
  rw [World.size_alloc] at HY
  unfold cmdV
  simp only
  clear h hm
  go_enter Tryz.func55, Tryz.ntmps55
  go_upto_region 1 with fail
  generalize (w.alloc (.cells #[.int .i64 kd, .int .u32 dd, .int .i64 aw, .int .u32 at1, .int .u32 am, .bool ys, .string tk, .int .i64 nn, .int .i64 id, .slice va T.length vc] 50)).alloc (.cells #[.int .i64 0, .int .u32 0, .int .i64 0, .int .i64 0, .int .u32 0, .int .u32 0] 46) = w1 at HX HY HB1 ⊢
  have HBr : Hid (∀ W, Below w1.heap.size w1 W → Below w.heap.size w W) := Lib.hid (fun W hW => bel_trans HB1.out hW)
  have HG : Hid (w.heap.size < w1.heap.size) := Lib.hid HX.out.lt
  generalize hg : w.heap.size = g at HX HY ⊢
  have HR := Lib.hid (str_any ⟨aw, at1, am⟩ w1)
  rw [stR_tm] at HR
  unfold Tm.val at HR
  simp only at HR
  have x2 : w1.cell? ⟨g, 2, none⟩ = some (.int .i64 aw) := (HX.out.next (bel_refl w1)).cell 2
  have x3 : w1.cell? ⟨g, 3, none⟩ = some (.int .u32 at1) := (HX.out.next (bel_refl w1)).cell 3
  have x4 : w1.cell? ⟨g, 4, none⟩ = some (.int .u32 am) := (HX.out.next (bel_refl w1)).cell 4
  by_cases hr : tmR ⟨aw, at1, am⟩
  · have hd : decide (tmR ⟨aw, at1, am⟩) = true := by simpa using hr
    rw [hd] at HR
    have HLa := Lib.hid (fun W => last_any ⟨aw, at1, am⟩ W)
    unfold Tm.val lastT at HLa
    simp only at HLa
    go_upto_region 4 with (first
      | (go_at_call 73; refine HR.out.mono ?_; rintro e w2 ⟨rfl, hb2⟩; have HB2 := Lib.hid hb2; have X2 : w2.cell? ⟨g, 2, none⟩ = some (.int .i64 aw) := (HX.out.next hb2).cell 2; have X3 : w2.cell? ⟨g, 3, none⟩ = some (.int .u32 at1) := (HX.out.next hb2).cell 3; have X4 : w2.cell? ⟨g, 4, none⟩ = some (.int .u32 am) := (HX.out.next hb2).cell 4; clear hb2)
      | (go_at_call 132; refine (HLa.out _).mono ?_; rintro e w3 ⟨rfl, hb3⟩; have HB3 := Lib.hid (bel_trans HB2.out hb3); clear hb3)
      | fail)
    clear x2 x3 x4 X2 X3 X4 HR HLa hd
    have HT := Lib.hid (Blk.new w3 #[.int .i64 aw, .int .u32 at1, .int .u32 4294967295] 44)
    have HB34 := Lib.hid (below_alloc w3 (.cells #[.int .i64 aw, .int .u32 at1, .int .u32 4294967295] 44))
    generalize w3.alloc (.cells #[.int .i64 aw, .int .u32 at1, .int .u32 4294967295] 44) = w4 at HT HB34 ⊢
    generalize w3.heap.size = g4 at HT ⊢
    have HB4 := Lib.hid (bel_trans HB3.out HB34.out)
    have H4 := Lib.hid (H.out.next (HBr.out _ HB4.out))
    have HKs : Hid (∀ W, Below w4.heap.size w4 W → W.cell? ⟨c, 5, none⟩ = some (.int .i64 C.closed.wall) ∧ W.cell? ⟨c, 6, none⟩ = some (.int .u32 C.closed.tick) ∧ W.cell? ⟨c, 7, none⟩ = some (.int .u32 C.closed.mark) ∧ W.cell? ⟨g4, 0, none⟩ = some (.int .i64 aw) ∧ W.cell? ⟨g4, 1, none⟩ = some (.int .u32 at1) ∧ W.cell? ⟨g4, 2, none⟩ = some (.int .u32 4294967295)) := Lib.hid (fun W hW => ⟨(H4.out.blk.next hW).cell 5, (H4.out.blk.next hW).cell 6, (H4.out.blk.next hW).cell 7, (HT.out.next hW).cell 0, (HT.out.next hW).cell 1, (HT.out.next hW).cell 2⟩)
    have hx4 := bel_refl w4
    have hcl : c < w4.heap.size := H4.out.blk.lt
    have hgl : g4 < w4.heap.size := HT.out.lt
    obtain ⟨q0, q1, q2, q3, q4, q5⟩ := HKs.out w4 hx4
    have HCm := Lib.hid (fun W => compare_any C.closed ⟨aw, at1, 4294967295⟩ W)
    unfold Tm.val at HCm
    simp only at HCm
    have HLt : Hid (cmpT C.closed ⟨aw, at1, 4294967295⟩ < 0 ↔ C.closed.lt (lastT ⟨aw, at1, am⟩)) := Lib.hid cmpT_lt
    generalize cmpT C.closed ⟨aw, at1, 4294967295⟩ = z at HCm HLt
    go_region_held3 (fun W => W.cell? ⟨c, 5, none⟩ = some (.int .i64 C.closed.wall) ∧ W.cell? ⟨c, 6, none⟩ = some (.int .u32 C.closed.tick) ∧ W.cell? ⟨c, 7, none⟩ = some (.int .u32 C.closed.mark) ∧ W.cell? ⟨g4, 0, none⟩ = some (.int .i64 aw) ∧ W.cell? ⟨g4, 1, none⟩ = some (.int .u32 at1) ∧ W.cell? ⟨g4, 2, none⟩ = some (.int .u32 4294967295))
      (first | (with_reducible exact ⟨q0, q1, q2, q3, q4, q5⟩) | (with_reducible refine HKs.out _ ?_; (repeat (first | assumption | apply bel_alloc | apply bel_drew)); done) | go_keep)
      (first
        | (go_simp; go_at_call 26; refine (HCm.out _).mono ?_; rintro e w7 ⟨rfl, hb7⟩; have hx7 : Below w4.heap.size w4 w7 := bel_trans (by repeat (first | exact bel_refl _ | assumption | apply bel_alloc | apply bel_drew)) hb7; clear hb7))
    have HB7 := Lib.hid (bel_trans HB4.out hx7)
    have HT7 := Lib.hid (HT.out.next hx7)
    have H7 := Lib.hid (H.out.next (HBr.out _ HB7.out))
    clear q0 q1 q2 q3 q4 q5 hx4 hcl hgl HKs HCm hx7 H4
    have hnc : c ≠ g + 1 := fun e => by have := H.out.blk.lt; omega
    have c5 : w7.cell? ⟨c, 5, none⟩ = some (.int .i64 C.closed.wall) := H7.out.blk.cell 5
    have c6 : w7.cell? ⟨c, 6, none⟩ = some (.int .u32 C.closed.tick) := H7.out.blk.cell 6
    have c7 : w7.cell? ⟨c, 7, none⟩ = some (.int .u32 C.closed.mark) := H7.out.blk.cell 7
    by_cases hz : z < 0
    · have HE : Hid (closeC C ⟨kd, dd, ⟨aw, at1, am⟩, ys, tk, nn, id, ws⟩ = (⟨0, 0, 0, ⟨aw, at1, 4294967295⟩⟩, { C with closed := ⟨aw, at1, 4294967295⟩ })) := Lib.hid (by
        unfold closeC
        rw [if_neg (by simpa using hr)]
        have e : mostT C.closed (lastT ⟨aw, at1, am⟩) = ⟨aw, at1, 4294967295⟩ := by unfold mostT; rw [if_pos (HLt.out.1 hz)]; rfl
        simp only [e])
      have Hi := Lib.hid hi
      have g5 : w7.frozen? ⟨c, 5, none⟩ = false := H7.out.blk.free 5
      have g6 : w7.frozen? ⟨c, 6, none⟩ = false := H7.out.blk.free 6
      have g7 : w7.frozen? ⟨c, 7, none⟩ = false := H7.out.blk.free 7
      have t0 : w7.cell? ⟨g4, 0, none⟩ = some (.int .i64 aw) := HT7.out.cell 0
      have t1 : w7.cell? ⟨g4, 1, none⟩ = some (.int .u32 at1) := HT7.out.cell 1
      have t2 : w7.cell? ⟨g4, 2, none⟩ = some (.int .u32 4294967295) := HT7.out.cell 2
      clear hi hr
      have y0 : w7.cell? ⟨g + 1, 0, none⟩ = some (.int .i64 0) := (HY.out.next HB7.out).cell 0
      have f0 : w7.frozen? ⟨g + 1, 0, none⟩ = false := (HY.out.next HB7.out).free 0
      have y1 : w7.cell? ⟨g + 1, 1, none⟩ = some (.int .u32 0) := (HY.out.next HB7.out).cell 1
      have f1 : w7.frozen? ⟨g + 1, 1, none⟩ = false := (HY.out.next HB7.out).free 1
      have y2 : w7.cell? ⟨g + 1, 2, none⟩ = some (.int .i64 0) := (HY.out.next HB7.out).cell 2
      have f2 : w7.frozen? ⟨g + 1, 2, none⟩ = false := (HY.out.next HB7.out).free 2
      have y3 : w7.cell? ⟨g + 1, 3, none⟩ = some (.int .i64 0) := (HY.out.next HB7.out).cell 3
      have f3 : w7.frozen? ⟨g + 1, 3, none⟩ = false := (HY.out.next HB7.out).free 3
      have y4 : w7.cell? ⟨g + 1, 4, none⟩ = some (.int .u32 0) := (HY.out.next HB7.out).cell 4
      have f4 : w7.frozen? ⟨g + 1, 4, none⟩ = false := (HY.out.next HB7.out).free 4
      have y5 : w7.cell? ⟨g + 1, 5, none⟩ = some (.int .u32 0) := (HY.out.next HB7.out).cell 5
      have f5 : w7.frozen? ⟨g + 1, 5, none⟩ = false := (HY.out.next HB7.out).free 5
      have hn1 : g + 1 ≠ c := fun e => hnc e.symm
      go_upto_region 6 with fail
      have hc8 : Blk (((w7.setCell ⟨c, 5, none⟩ (.int .i64 aw)).setCell ⟨c, 6, none⟩ (.int .u32 at1)).setCell ⟨c, 7, none⟩ (.int .u32 4294967295)) c (ccells { C with closed := ⟨aw, at1, 4294967295⟩ } p) 140 := by
        have := ((H7.out.blk.set 5 (.int .i64 aw)).set 6 (.int .u32 at1)).set 7 (.int .u32 4294967295)
        simpa [ccells] using this
      have hY8 : Blk (((w7.setCell ⟨c, 5, none⟩ (.int .i64 aw)).setCell ⟨c, 6, none⟩ (.int .u32 at1)).setCell ⟨c, 7, none⟩ (.int .u32 4294967295)) (g + 1) #[.int .i64 0, .int .u32 0, .int .i64 0, .int .i64 0, .int .u32 0, .int .u32 0] 46 := (((HY.out.next HB7.out).other hn1 _).other hn1 _).other hn1 _
      have ht8 : Turn (fun x => x = c) w (((w7.setCell ⟨c, 5, none⟩ (.int .i64 aw)).setCell ⟨c, 6, none⟩ (.int .u32 at1)).setCell ⟨c, 7, none⟩ (.int .u32 4294967295)) :=
        (((Turn.of (F := fun x => x = c) (HBr.out _ HB7.out)).set (a := ⟨c, 5, none⟩) rfl _).set (a := ⟨c, 6, none⟩) rfl _).set (a := ⟨c, 7, none⟩) rfl _
      have HC8 := Lib.hid hc8
      have HT8 := Lib.hid ht8
      clear y0 f0 y1 f1 y2 f2 y3 f3 y4 f4 y5 f5 c5 c6 c7 g5 g6 g7 t0 t1 t2
      have HYx := Lib.hid hY8
      clear hc8 hY8 ht8
      generalize ((w7.setCell ⟨c, 5, none⟩ (.int .i64 aw)).setCell ⟨c, 6, none⟩ (.int .u32 at1)).setCell ⟨c, 7, none⟩ (.int .u32 4294967295) = w8 at HC8 HT8 HYx ⊢
      have c5 : w8.cell? ⟨c, 5, none⟩ = some (.int .i64 aw) := HC8.out.cell 5
      have c6 : w8.cell? ⟨c, 6, none⟩ = some (.int .u32 at1) := HC8.out.cell 6
      have c7 : w8.cell? ⟨c, 7, none⟩ = some (.int .u32 4294967295) := HC8.out.cell 7
      have y0 : w8.cell? ⟨g + 1, 0, none⟩ = some (.int .i64 0) := HYx.out.cell 0
      have f0 : w8.frozen? ⟨g + 1, 0, none⟩ = false := HYx.out.free 0
      have y1 : w8.cell? ⟨g + 1, 1, none⟩ = some (.int .u32 0) := HYx.out.cell 1
      have f1 : w8.frozen? ⟨g + 1, 1, none⟩ = false := HYx.out.free 1
      have y2 : w8.cell? ⟨g + 1, 2, none⟩ = some (.int .i64 0) := HYx.out.cell 2
      have f2 : w8.frozen? ⟨g + 1, 2, none⟩ = false := HYx.out.free 2
      have y3 : w8.cell? ⟨g + 1, 3, none⟩ = some (.int .i64 0) := HYx.out.cell 3
      have f3 : w8.frozen? ⟨g + 1, 3, none⟩ = false := HYx.out.free 3
      have y4 : w8.cell? ⟨g + 1, 4, none⟩ = some (.int .u32 0) := HYx.out.cell 4
      have f4 : w8.frozen? ⟨g + 1, 4, none⟩ = false := HYx.out.free 4
      have y5 : w8.cell? ⟨g + 1, 5, none⟩ = some (.int .u32 0) := HYx.out.cell 5
      have f5 : w8.frozen? ⟨g + 1, 5, none⟩ = false := HYx.out.free 5
      go_wp2_with fail
      have hY := set6 HYx.out (.int .i64 0) (.int .u32 0) (.int .i64 0) (.int .i64 aw) (.int .u32 at1) (.int .u32 4294967295)
      have z0 : ((((((w8.setCell ⟨g + 1, 0, none⟩ (.int .i64 0)).setCell ⟨g + 1, 1, none⟩ (.int .u32 0)).setCell ⟨g + 1, 2, none⟩ (.int .i64 0)).setCell ⟨g + 1, 3, none⟩ (.int .i64 aw)).setCell ⟨g + 1, 4, none⟩ (.int .u32 at1)).setCell ⟨g + 1, 5, none⟩ (.int .u32 4294967295)).cell? ⟨g + 1, 0, none⟩ = some (.int .i64 0) := hY.cell 0
      have z1 : ((((((w8.setCell ⟨g + 1, 0, none⟩ (.int .i64 0)).setCell ⟨g + 1, 1, none⟩ (.int .u32 0)).setCell ⟨g + 1, 2, none⟩ (.int .i64 0)).setCell ⟨g + 1, 3, none⟩ (.int .i64 aw)).setCell ⟨g + 1, 4, none⟩ (.int .u32 at1)).setCell ⟨g + 1, 5, none⟩ (.int .u32 4294967295)).cell? ⟨g + 1, 1, none⟩ = some (.int .u32 0) := hY.cell 1
      have z2 : ((((((w8.setCell ⟨g + 1, 0, none⟩ (.int .i64 0)).setCell ⟨g + 1, 1, none⟩ (.int .u32 0)).setCell ⟨g + 1, 2, none⟩ (.int .i64 0)).setCell ⟨g + 1, 3, none⟩ (.int .i64 aw)).setCell ⟨g + 1, 4, none⟩ (.int .u32 at1)).setCell ⟨g + 1, 5, none⟩ (.int .u32 4294967295)).cell? ⟨g + 1, 2, none⟩ = some (.int .i64 0) := hY.cell 2
      have z3 : ((((((w8.setCell ⟨g + 1, 0, none⟩ (.int .i64 0)).setCell ⟨g + 1, 1, none⟩ (.int .u32 0)).setCell ⟨g + 1, 2, none⟩ (.int .i64 0)).setCell ⟨g + 1, 3, none⟩ (.int .i64 aw)).setCell ⟨g + 1, 4, none⟩ (.int .u32 at1)).setCell ⟨g + 1, 5, none⟩ (.int .u32 4294967295)).cell? ⟨g + 1, 3, none⟩ = some (.int .i64 aw) := hY.cell 3
      have z4 : ((((((w8.setCell ⟨g + 1, 0, none⟩ (.int .i64 0)).setCell ⟨g + 1, 1, none⟩ (.int .u32 0)).setCell ⟨g + 1, 2, none⟩ (.int .i64 0)).setCell ⟨g + 1, 3, none⟩ (.int .i64 aw)).setCell ⟨g + 1, 4, none⟩ (.int .u32 at1)).setCell ⟨g + 1, 5, none⟩ (.int .u32 4294967295)).cell? ⟨g + 1, 4, none⟩ = some (.int .u32 at1) := hY.cell 4
      have z5 : ((((((w8.setCell ⟨g + 1, 0, none⟩ (.int .i64 0)).setCell ⟨g + 1, 1, none⟩ (.int .u32 0)).setCell ⟨g + 1, 2, none⟩ (.int .i64 0)).setCell ⟨g + 1, 3, none⟩ (.int .i64 aw)).setCell ⟨g + 1, 4, none⟩ (.int .u32 at1)).setCell ⟨g + 1, 5, none⟩ (.int .u32 4294967295)).cell? ⟨g + 1, 5, none⟩ = some (.int .u32 4294967295) := hY.cell 5
      refine bodyPost_ret (v := .agg #[.int .i64 0, .int .u32 0, .int .i64 0, .int .i64 aw, .int .u32 at1, .int .u32 4294967295]) (by simp [results, Tryz.results55, go_sem, z0, z1, z2, z3, z4, z5]) rfl ?_
      rw [HE.out] at Hi ⊢
      exact post_own H.out rfl (turn6 (by omega) HT8.out) (blk_other6 HC8.out hnc) rfl rfl rfl rfl Hi.out
    · have HE : Hid (closeC C ⟨kd, dd, ⟨aw, at1, am⟩, ys, tk, nn, id, ws⟩ = (⟨0, 0, 0, C.closed⟩, C)) := Lib.hid (by
        unfold closeC
        rw [if_neg (by simpa using hr)]
        have e : mostT C.closed (lastT ⟨aw, at1, am⟩) = C.closed := by unfold mostT; rw [if_neg (fun h => hz (HLt.out.2 h))]
        simp only [e])
      clear hi hr
      have y0 : w7.cell? ⟨g + 1, 0, none⟩ = some (.int .i64 0) := (HY.out.next HB7.out).cell 0
      have f0 : w7.frozen? ⟨g + 1, 0, none⟩ = false := (HY.out.next HB7.out).free 0
      have y1 : w7.cell? ⟨g + 1, 1, none⟩ = some (.int .u32 0) := (HY.out.next HB7.out).cell 1
      have f1 : w7.frozen? ⟨g + 1, 1, none⟩ = false := (HY.out.next HB7.out).free 1
      have y2 : w7.cell? ⟨g + 1, 2, none⟩ = some (.int .i64 0) := (HY.out.next HB7.out).cell 2
      have f2 : w7.frozen? ⟨g + 1, 2, none⟩ = false := (HY.out.next HB7.out).free 2
      have y3 : w7.cell? ⟨g + 1, 3, none⟩ = some (.int .i64 0) := (HY.out.next HB7.out).cell 3
      have f3 : w7.frozen? ⟨g + 1, 3, none⟩ = false := (HY.out.next HB7.out).free 3
      have y4 : w7.cell? ⟨g + 1, 4, none⟩ = some (.int .u32 0) := (HY.out.next HB7.out).cell 4
      have f4 : w7.frozen? ⟨g + 1, 4, none⟩ = false := (HY.out.next HB7.out).free 4
      have y5 : w7.cell? ⟨g + 1, 5, none⟩ = some (.int .u32 0) := (HY.out.next HB7.out).cell 5
      have f5 : w7.frozen? ⟨g + 1, 5, none⟩ = false := (HY.out.next HB7.out).free 5
      go_wp2_with fail
      have hY := set6 (HY.out.next HB7.out) (.int .i64 0) (.int .u32 0) (.int .i64 0) (.int .i64 C.closed.wall) (.int .u32 C.closed.tick) (.int .u32 C.closed.mark)
      have z0 : ((((((w7.setCell ⟨g + 1, 0, none⟩ (.int .i64 0)).setCell ⟨g + 1, 1, none⟩ (.int .u32 0)).setCell ⟨g + 1, 2, none⟩ (.int .i64 0)).setCell ⟨g + 1, 3, none⟩ (.int .i64 C.closed.wall)).setCell ⟨g + 1, 4, none⟩ (.int .u32 C.closed.tick)).setCell ⟨g + 1, 5, none⟩ (.int .u32 C.closed.mark)).cell? ⟨g + 1, 0, none⟩ = some (.int .i64 0) := hY.cell 0
      have z1 : ((((((w7.setCell ⟨g + 1, 0, none⟩ (.int .i64 0)).setCell ⟨g + 1, 1, none⟩ (.int .u32 0)).setCell ⟨g + 1, 2, none⟩ (.int .i64 0)).setCell ⟨g + 1, 3, none⟩ (.int .i64 C.closed.wall)).setCell ⟨g + 1, 4, none⟩ (.int .u32 C.closed.tick)).setCell ⟨g + 1, 5, none⟩ (.int .u32 C.closed.mark)).cell? ⟨g + 1, 1, none⟩ = some (.int .u32 0) := hY.cell 1
      have z2 : ((((((w7.setCell ⟨g + 1, 0, none⟩ (.int .i64 0)).setCell ⟨g + 1, 1, none⟩ (.int .u32 0)).setCell ⟨g + 1, 2, none⟩ (.int .i64 0)).setCell ⟨g + 1, 3, none⟩ (.int .i64 C.closed.wall)).setCell ⟨g + 1, 4, none⟩ (.int .u32 C.closed.tick)).setCell ⟨g + 1, 5, none⟩ (.int .u32 C.closed.mark)).cell? ⟨g + 1, 2, none⟩ = some (.int .i64 0) := hY.cell 2
      have z3 : ((((((w7.setCell ⟨g + 1, 0, none⟩ (.int .i64 0)).setCell ⟨g + 1, 1, none⟩ (.int .u32 0)).setCell ⟨g + 1, 2, none⟩ (.int .i64 0)).setCell ⟨g + 1, 3, none⟩ (.int .i64 C.closed.wall)).setCell ⟨g + 1, 4, none⟩ (.int .u32 C.closed.tick)).setCell ⟨g + 1, 5, none⟩ (.int .u32 C.closed.mark)).cell? ⟨g + 1, 3, none⟩ = some (.int .i64 C.closed.wall) := hY.cell 3
      have z4 : ((((((w7.setCell ⟨g + 1, 0, none⟩ (.int .i64 0)).setCell ⟨g + 1, 1, none⟩ (.int .u32 0)).setCell ⟨g + 1, 2, none⟩ (.int .i64 0)).setCell ⟨g + 1, 3, none⟩ (.int .i64 C.closed.wall)).setCell ⟨g + 1, 4, none⟩ (.int .u32 C.closed.tick)).setCell ⟨g + 1, 5, none⟩ (.int .u32 C.closed.mark)).cell? ⟨g + 1, 4, none⟩ = some (.int .u32 C.closed.tick) := hY.cell 4
      have z5 : ((((((w7.setCell ⟨g + 1, 0, none⟩ (.int .i64 0)).setCell ⟨g + 1, 1, none⟩ (.int .u32 0)).setCell ⟨g + 1, 2, none⟩ (.int .i64 0)).setCell ⟨g + 1, 3, none⟩ (.int .i64 C.closed.wall)).setCell ⟨g + 1, 4, none⟩ (.int .u32 C.closed.tick)).setCell ⟨g + 1, 5, none⟩ (.int .u32 C.closed.mark)).cell? ⟨g + 1, 5, none⟩ = some (.int .u32 C.closed.mark) := hY.cell 5
      refine bodyPost_ret (v := .agg #[.int .i64 0, .int .u32 0, .int .i64 0, .int .i64 C.closed.wall, .int .u32 C.closed.tick, .int .u32 C.closed.mark]) (by simp [results, Tryz.results55, go_sem, z0, z1, z2, z3, z4, z5]) rfl ?_
      exact post_same H.out (by rw [HE.out]; rfl) (by rw [HE.out]) (bel6 hg (HBr.out _ HB7.out))
  · have HE : Hid (closeC C ⟨kd, dd, ⟨aw, at1, am⟩, ys, tk, nn, id, ws⟩ = (bad 1, C)) := Lib.hid (if_pos hr)
    have hd : decide (tmR ⟨aw, at1, am⟩) = false := by simpa using hr
    rw [hd] at HR
    clear hd hr
    go_upto_region 2 with (first
      | (go_at_call 73; refine HR.out.mono ?_; rintro e w2 ⟨rfl, hb2⟩; have HB2 := Lib.hid hb2; clear hb2)
      | fail)
    clear x2 x3 x4 HR
    have y0 : w2.cell? ⟨g + 1, 0, none⟩ = some (.int .i64 0) := (HY.out.next HB2.out).cell 0
    have f0 : w2.frozen? ⟨g + 1, 0, none⟩ = false := (HY.out.next HB2.out).free 0
    have y1 : w2.cell? ⟨g + 1, 1, none⟩ = some (.int .u32 0) := (HY.out.next HB2.out).cell 1
    have f1 : w2.frozen? ⟨g + 1, 1, none⟩ = false := (HY.out.next HB2.out).free 1
    have y2 : w2.cell? ⟨g + 1, 2, none⟩ = some (.int .i64 0) := (HY.out.next HB2.out).cell 2
    have f2 : w2.frozen? ⟨g + 1, 2, none⟩ = false := (HY.out.next HB2.out).free 2
    have y3 : w2.cell? ⟨g + 1, 3, none⟩ = some (.int .i64 0) := (HY.out.next HB2.out).cell 3
    have f3 : w2.frozen? ⟨g + 1, 3, none⟩ = false := (HY.out.next HB2.out).free 3
    have y4 : w2.cell? ⟨g + 1, 4, none⟩ = some (.int .u32 0) := (HY.out.next HB2.out).cell 4
    have f4 : w2.frozen? ⟨g + 1, 4, none⟩ = false := (HY.out.next HB2.out).free 4
    have y5 : w2.cell? ⟨g + 1, 5, none⟩ = some (.int .u32 0) := (HY.out.next HB2.out).cell 5
    have f5 : w2.frozen? ⟨g + 1, 5, none⟩ = false := (HY.out.next HB2.out).free 5
    go_wp2_with fail
    have hY := set6 (HY.out.next HB2.out) (.int .i64 1) (.int .u32 0) (.int .i64 0) (.int .i64 0) (.int .u32 0) (.int .u32 0)
    have z0 : ((((((w2.setCell ⟨g + 1, 0, none⟩ (.int .i64 1)).setCell ⟨g + 1, 1, none⟩ (.int .u32 0)).setCell ⟨g + 1, 2, none⟩ (.int .i64 0)).setCell ⟨g + 1, 3, none⟩ (.int .i64 0)).setCell ⟨g + 1, 4, none⟩ (.int .u32 0)).setCell ⟨g + 1, 5, none⟩ (.int .u32 0)).cell? ⟨g + 1, 0, none⟩ = some (.int .i64 1) := hY.cell 0
    have z1 : ((((((w2.setCell ⟨g + 1, 0, none⟩ (.int .i64 1)).setCell ⟨g + 1, 1, none⟩ (.int .u32 0)).setCell ⟨g + 1, 2, none⟩ (.int .i64 0)).setCell ⟨g + 1, 3, none⟩ (.int .i64 0)).setCell ⟨g + 1, 4, none⟩ (.int .u32 0)).setCell ⟨g + 1, 5, none⟩ (.int .u32 0)).cell? ⟨g + 1, 1, none⟩ = some (.int .u32 0) := hY.cell 1
    have z2 : ((((((w2.setCell ⟨g + 1, 0, none⟩ (.int .i64 1)).setCell ⟨g + 1, 1, none⟩ (.int .u32 0)).setCell ⟨g + 1, 2, none⟩ (.int .i64 0)).setCell ⟨g + 1, 3, none⟩ (.int .i64 0)).setCell ⟨g + 1, 4, none⟩ (.int .u32 0)).setCell ⟨g + 1, 5, none⟩ (.int .u32 0)).cell? ⟨g + 1, 2, none⟩ = some (.int .i64 0) := hY.cell 2
    have z3 : ((((((w2.setCell ⟨g + 1, 0, none⟩ (.int .i64 1)).setCell ⟨g + 1, 1, none⟩ (.int .u32 0)).setCell ⟨g + 1, 2, none⟩ (.int .i64 0)).setCell ⟨g + 1, 3, none⟩ (.int .i64 0)).setCell ⟨g + 1, 4, none⟩ (.int .u32 0)).setCell ⟨g + 1, 5, none⟩ (.int .u32 0)).cell? ⟨g + 1, 3, none⟩ = some (.int .i64 0) := hY.cell 3
    have z4 : ((((((w2.setCell ⟨g + 1, 0, none⟩ (.int .i64 1)).setCell ⟨g + 1, 1, none⟩ (.int .u32 0)).setCell ⟨g + 1, 2, none⟩ (.int .i64 0)).setCell ⟨g + 1, 3, none⟩ (.int .i64 0)).setCell ⟨g + 1, 4, none⟩ (.int .u32 0)).setCell ⟨g + 1, 5, none⟩ (.int .u32 0)).cell? ⟨g + 1, 4, none⟩ = some (.int .u32 0) := hY.cell 4
    have z5 : ((((((w2.setCell ⟨g + 1, 0, none⟩ (.int .i64 1)).setCell ⟨g + 1, 1, none⟩ (.int .u32 0)).setCell ⟨g + 1, 2, none⟩ (.int .i64 0)).setCell ⟨g + 1, 3, none⟩ (.int .i64 0)).setCell ⟨g + 1, 4, none⟩ (.int .u32 0)).setCell ⟨g + 1, 5, none⟩ (.int .u32 0)).cell? ⟨g + 1, 5, none⟩ = some (.int .u32 0) := hY.cell 5
    refine bodyPost_ret (v := .agg #[.int .i64 1, .int .u32 0, .int .i64 0, .int .i64 0, .int .u32 0, .int .u32 0]) (by simp [results, Tryz.results55, go_sem, z0, z1, z2, z3, z4, z5]) rfl ?_
    exact post_same H.out (by rw [HE.out]; rfl) (by rw [HE.out]) (bel6 hg (HBr.out _ HB2.out))
end Go.Proofs.YtbaflgddpciadaaGreat
