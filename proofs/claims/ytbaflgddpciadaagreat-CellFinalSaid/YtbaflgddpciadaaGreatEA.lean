/- cut (56). -/
import Derived.Test.YtbaflgddpciadaaGreatE9
set_option linter.unusedVariables false
set_option linter.unusedSimpArgs false
namespace Go.Proofs.YtbaflgddpciadaaGreat
open Go.RowKit Go.Kt Go.Ix Go.Sx Go.Cx
set_option maxRecDepth 100000
variable {F : Nat → Prop} {w w' : World} {c N : Nat} {C : Cl} {p : Cp}
theorem cut_from {G : Nat → Prop} {s N : Nat} {L : List It} (t : Tm) (w : World) (h : St G w s L N) (hN : N ≤ 1000000) (W : World) (hW : Below w.heap.size w W) :
    Calls Tryz.prog 133 #[.pointer (some ⟨s, 0, none⟩), t.val] W fun e w' => e = .returned (.tuple #[]) ∧ ∃ F', St F' w' s (cutL L t) N ∧ (∀ x, F' x → G x ∨ w.heap.size ≤ x) ∧ Turn G w w' :=
  (cut_any t W (h.next hW) hN).mono fun e w' ⟨e1, F', h1, h2, h3⟩ => ⟨e1, F', h1, fun x hx => (h2 x hx).imp id (Nat.le_trans hW.size), (Turn.of (F := G) hW).trans h3 (fun x hx => .inl hx)⟩
theorem own6 (W : World) (g : Nat) {d0 d1 d2 d3 d4 d5 : Value} :
    Turn (fun x => x = g + 1) W ((((((W.setCell ⟨g + 1, 0, none⟩ d0).setCell ⟨g + 1, 1, none⟩ d1).setCell ⟨g + 1, 2, none⟩ d2).setCell ⟨g + 1, 3, none⟩ d3).setCell ⟨g + 1, 4, none⟩ d4).setCell ⟨g + 1, 5, none⟩ d5) :=
  ((((((Turn.refl (fun x => x = g + 1) W).set (a := ⟨g + 1, 0, none⟩) rfl _).set (a := ⟨g + 1, 1, none⟩) rfl _).set (a := ⟨g + 1, 2, none⟩) rfl _).set (a := ⟨g + 1, 3, none⟩) rfl _).set (a := ⟨g + 1, 4, none⟩) rfl _).set (a := ⟨g + 1, 5, none⟩) rfl _
theorem same_litP (a b : Int) : (litP a).sameKey (litP b) = decide (a = b) := by
  unfold litP
  simp [Lit.sameKey]
theorem pin_inj {C : Cl} (h : CInv C) {a b : Pi} (ha : a ∈ C.pins) (hb : b ∈ C.pins) (e : a.id = b.id) : a = b := by
  obtain ⟨i, hi, rfl⟩ := List.getElem_of_mem ha
  obtain ⟨j, hj, rfl⟩ := List.getElem_of_mem hb
  have hp := List.pairwise_iff_getElem.1 h.pins
  rcases Nat.lt_trichotomy i j with h1 | h1 | h1
  · exact absurd e (hp i j hi hj h1)
  · subst h1; rfl
  · exact absurd e.symm (hp j i hj hi h1)
/-- the store was turned, and the cell's own block -/
theorem post_store {F7 : Nat → Prop} {N' : Nat} {z : Rep × Cl} {e : Ending} (h : CeAt F w c C N p) (he : e = .returned (replyV z.1)) (hst : St F7 w' p.s z.2.M N') (hF : ∀ x, F7 x → p.Fs x ∨ w.heap.size ≤ x) (ht : Turn (fun x => x = c ∨ p.Fs x) w w') (hb : Blk w' c (ccells z.2 p) 140)
    (hD : z.2.deeds = C.deeds) (hP : z.2.pins = C.pins) (hB : z.2.book = C.book) (hi : CInv z.2) : DoPost F w c p z N' e w' := by
  have hsub : ∀ x, (x = c ∨ p.Fs x) → F x := fun x hx => by
    rcases hx with rfl | hx
    · exact h.Fc
    · exact h.sub x hx
  have hG : ∀ x, (F x ∨ F7 x) → F x ∨ w.heap.size ≤ x := fun x hx => by
    rcases hx with hx | hx
    · exact .inl hx
    · rcases hF x hx with h1 | h1
      · exact .inl (h.sub x h1)
      · exact .inr h1
  have hno : ∀ x, x < w.heap.size → ¬ p.Fs x → ¬ F7 x := fun x hl hn h7 => by
    rcases hF x h7 with h1 | h1
    · exact hn h1
    · omega
  refine ⟨he, fun x => F x ∨ F7 x, { p with Fs := F7 }, ⟨hb, hst, fun x hx => .inr hx, .inl h.Fc, .inl h.Fd, .inl h.Fp, fun b hb => .inl (h.Fb b hb), hno _ h.blk.lt h.nc, hno _ (h.lt _ h.Fd) h.nd, hno _ (h.lt _ h.Fp) h.np, fun b hb => hno _ (h.lt _ (h.Fb b hb)) (h.nb b hb), h.dp, ?_, ?_, ?_, by rw [hB]; exact h.told, hi, fun x hx => ?_⟩, fun x hx => .inl hx, hG, fun x hx => ?_, ht.mono (fun x hx => hx.elim .inl (fun h => .inr (.inr (.inr (.inr h)))))⟩
  · rw [hD]
    refine h.deeds.keep ht (fun e => ?_) hsub hG
    rcases e with e | e
    · exact h.cd e.symm
    · exact h.nd e
  · rw [hP]
    refine h.pins.keep ht (fun e => ?_)
    rcases e with e | e
    · exact h.cp e.symm
    · exact h.np e
  · refine h.book.keep ht (fun b hb e => ?_) hsub hG
    rcases e with e | e
    · exact h.cb b hb e
    · exact h.nb b hb e
  · rcases hx with hx | hx
    · exact Nat.lt_of_lt_of_le (h.lt x hx) ht.size
    · exact hst.lt x hx
  · rcases hx with hx | hx | hx | hx | hx
    · exact .inl (.inl hx)
    · exact .inl (.inr (.inl hx))
    · exact .inl (.inr (.inr (.inl hx)))
    · exact .inl (.inr (.inr (.inr (.inl hx))))
    · exact (hF x hx).imp (fun h => .inr (.inr (.inr (.inr h)))) id
set_option maxHeartbeats 8000000 in
theorem cutcell_any (m : Cmd) (v : Value) (T : List Wr) (w : World) (h : CeAt F w c C N p) (hm : CmdR w m v T) (hi : CInv (cutCl C m).2) (hN : N ≤ 1000000) :
    Calls Tryz.prog 56 #[.pointer (some ⟨c, 0, none⟩), cmdV m v] w fun e w' => DoPost F w c p (cutCl C m) N e w' := by
  obtain ⟨kd, dd, ⟨aw, at1, am⟩, ys, tk, nn, id, ws⟩ := m
  obtain ⟨va, vc, hve, -⟩ := hm.rd.open
  subst hve
  have H := Lib.hid h
  have HM := Lib.hid hm
  have HX := Lib.hid ((Blk.new w #[.int .i64 kd, .int .u32 dd, .int .i64 aw, .int .u32 at1, .int .u32 am, .bool ys, .string tk, .int .i64 nn, .int .i64 id, .slice va T.length vc] 50).next (below_alloc _ (.cells #[.int .i64 0, .int .u32 0, .int .i64 0, .int .i64 0, .int .u32 0, .int .u32 0] 46)))
  have HY := Lib.hid (Blk.new (w.alloc (.cells #[.int .i64 kd, .int .u32 dd, .int .i64 aw, .int .u32 at1, .int .u32 am, .bool ys, .string tk, .int .i64 nn, .int .i64 id, .slice va T.length vc] 50)) #[.int .i64 0, .int .u32 0, .int .i64 0, .int .i64 0, .int .u32 0, .int .u32 0] 46)
  have HB1 := Lib.hid (bel_alloc (o := .cells #[.int .i64 0, .int .u32 0, .int .i64 0, .int .i64 0, .int .u32 0, .int .u32 0] 46) (below_alloc w (.cells #[.int .i64 kd, .int .u32 dd, .int .i64 aw, .int .u32 at1, .int .u32 am, .bool ys, .string tk, .int .i64 nn, .int .i64 id, .slice va T.length vc] 50)))
  rw [World.size_alloc] at HY
  unfold cmdV
  simp only
  clear h hm
  go_enter Tryz.func56, Tryz.ntmps56
  go_upto_region 1 with fail
  generalize (w.alloc (.cells #[.int .i64 kd, .int .u32 dd, .int .i64 aw, .int .u32 at1, .int .u32 am, .bool ys, .string tk, .int .i64 nn, .int .i64 id, .slice va T.length vc] 50)).alloc (.cells #[.int .i64 0, .int .u32 0, .int .i64 0, .int .i64 0, .int .u32 0, .int .u32 0] 46) = w1 at HX HY HB1 ⊢
  have HBr : Hid (∀ W, Below w1.heap.size w1 W → Below w.heap.size w W) := Lib.hid (fun W hW => bel_trans HB1.out hW)
  have HG : Hid (w.heap.size < w1.heap.size) := Lib.hid HX.out.lt
  generalize hg : w.heap.size = g at HX HY ⊢
  have HR := Lib.hid (str_any ⟨aw, at1, am⟩ w1)
  rw [stR_tm] at HR
  unfold Tm.val at HR
  simp only at HR
  have x2 : w1.cell? ⟨g, 2, none⟩ = some (.int .i64 aw) := (HX.out.next (bel_refl w1)).cell 2
  have x3 : w1.cell? ⟨g, 3, none⟩ = some (.int .u32 at1) := (HX.out.next (bel_refl w1)).cell 3
  have x4 : w1.cell? ⟨g, 4, none⟩ = some (.int .u32 am) := (HX.out.next (bel_refl w1)).cell 4
  by_cases hr : tmR ⟨aw, at1, am⟩
  · have hd : decide (tmR ⟨aw, at1, am⟩) = true := by simpa using hr
    rw [hd] at HR
    clear hd
    have HE1 : Hid (cutCl C ⟨kd, dd, ⟨aw, at1, am⟩, ys, tk, nn, id, ws⟩ = if ¬ C.safe.lt ⟨aw, at1, am⟩ then (⟨0, 0, 0, C.safe⟩, C) else if C.closed.lt ⟨aw, at1, am⟩ then (bad 101, C) else
      if waits C.deeds ⟨aw, at1, am⟩ = true then (bad 102, C) else if C.pins.any (fun p => decide (p.at_.lt ⟨aw, at1, am⟩)) = true then (bad 3, C) else
      (⟨0, 0, 0, ⟨aw, at1, am⟩⟩, { C with safe := ⟨aw, at1, am⟩, M := cutL C.M ⟨aw, at1, am⟩ })) := Lib.hid (if_neg (by simpa using hr))
    clear hr
    go_upto_region 3 with (first
      | (go_at_call 73; refine HR.out.mono ?_; rintro e w2 ⟨rfl, hb2⟩; have HB2 := Lib.hid hb2; clear hb2)
      | fail)
    clear x2 x3 x4 HR
    have H2 := Lib.hid (H.out.next (HBr.out _ HB2.out))
    have HX2 := Lib.hid (HX.out.next HB2.out)
    have hcl : c < w2.heap.size := H2.out.blk.lt
    have hgl : g < w2.heap.size := HX2.out.lt
    have HCm := Lib.hid (fun W => compare_any ⟨aw, at1, am⟩ C.safe W)
    unfold Tm.val at HCm
    simp only at HCm
    have HLt : Hid (cmpT ⟨aw, at1, am⟩ C.safe ≤ 0 ↔ ¬ C.safe.lt ⟨aw, at1, am⟩) := Lib.hid cmpT_le
    generalize cmpT ⟨aw, at1, am⟩ C.safe = z at HCm HLt
    have HKs : Hid (∀ W, Below w2.heap.size w2 W → W.cell? ⟨c, 8, none⟩ = some (.int .i64 C.safe.wall) ∧ W.cell? ⟨c, 9, none⟩ = some (.int .u32 C.safe.tick) ∧ W.cell? ⟨c, 10, none⟩ = some (.int .u32 C.safe.mark) ∧ W.cell? ⟨g, 2, none⟩ = some (.int .i64 aw) ∧ W.cell? ⟨g, 3, none⟩ = some (.int .u32 at1) ∧ W.cell? ⟨g, 4, none⟩ = some (.int .u32 am)) := Lib.hid (fun W hW => ⟨(H2.out.blk.next hW).cell 8, (H2.out.blk.next hW).cell 9, (H2.out.blk.next hW).cell 10, (HX2.out.next hW).cell 2, (HX2.out.next hW).cell 3, (HX2.out.next hW).cell 4⟩)
    have hx0 := bel_refl w2
    obtain ⟨q0, q1, q2, q3, q4, q5⟩ := HKs.out w2 hx0
    go_region_held3 (fun W => W.cell? ⟨c, 8, none⟩ = some (.int .i64 C.safe.wall) ∧ W.cell? ⟨c, 9, none⟩ = some (.int .u32 C.safe.tick) ∧ W.cell? ⟨c, 10, none⟩ = some (.int .u32 C.safe.mark) ∧ W.cell? ⟨g, 2, none⟩ = some (.int .i64 aw) ∧ W.cell? ⟨g, 3, none⟩ = some (.int .u32 at1) ∧ W.cell? ⟨g, 4, none⟩ = some (.int .u32 am))
      (first | (with_reducible exact ⟨q0, q1, q2, q3, q4, q5⟩) | (with_reducible refine HKs.out _ ?_; (repeat (first | assumption | apply bel_alloc | apply bel_drew)); done) | go_keep)
      (first
        | (go_simp; go_at_call 26; refine (HCm.out _).mono ?_; rintro e w3 ⟨rfl, hb3⟩; have hx3 : Below w2.heap.size w2 w3 := bel_trans (by repeat (first | exact bel_refl _ | assumption | apply bel_alloc | apply bel_drew)) hb3; clear hb3))
    clear q0 q1 q2 q3 q4 q5 HKs hx0
    have HB3 := Lib.hid (bel_trans HB2.out hx3)
    clear hx3 hcl hgl HCm H2 HX2
    by_cases hz : z ≤ 0
    · have HE : Hid (cutCl C ⟨kd, dd, ⟨aw, at1, am⟩, ys, tk, nn, id, ws⟩ = (⟨0, 0, 0, C.safe⟩, C)) := Lib.hid (by rw [HE1.out, if_pos (HLt.out.1 hz)])
      have H3 := Lib.hid (H.out.next (HBr.out _ HB3.out))
      have c8 : w3.cell? ⟨c, 8, none⟩ = some (.int .i64 C.safe.wall) := H3.out.blk.cell 8
      have c9 : w3.cell? ⟨c, 9, none⟩ = some (.int .u32 C.safe.tick) := H3.out.blk.cell 9
      have c10 : w3.cell? ⟨c, 10, none⟩ = some (.int .u32 C.safe.mark) := H3.out.blk.cell 10
      clear hi
      go_upto_region 4 with fail
      clear hz
      have y0 : w3.cell? ⟨g + 1, 0, none⟩ = some (.int .i64 0) := (HY.out.next HB3.out).cell 0
      have f0 : w3.frozen? ⟨g + 1, 0, none⟩ = false := (HY.out.next HB3.out).free 0
      have y1 : w3.cell? ⟨g + 1, 1, none⟩ = some (.int .u32 0) := (HY.out.next HB3.out).cell 1
      have f1 : w3.frozen? ⟨g + 1, 1, none⟩ = false := (HY.out.next HB3.out).free 1
      have y2 : w3.cell? ⟨g + 1, 2, none⟩ = some (.int .i64 0) := (HY.out.next HB3.out).cell 2
      have f2 : w3.frozen? ⟨g + 1, 2, none⟩ = false := (HY.out.next HB3.out).free 2
      have y3 : w3.cell? ⟨g + 1, 3, none⟩ = some (.int .i64 0) := (HY.out.next HB3.out).cell 3
      have f3 : w3.frozen? ⟨g + 1, 3, none⟩ = false := (HY.out.next HB3.out).free 3
      have y4 : w3.cell? ⟨g + 1, 4, none⟩ = some (.int .u32 0) := (HY.out.next HB3.out).cell 4
      have f4 : w3.frozen? ⟨g + 1, 4, none⟩ = false := (HY.out.next HB3.out).free 4
      have y5 : w3.cell? ⟨g + 1, 5, none⟩ = some (.int .u32 0) := (HY.out.next HB3.out).cell 5
      have f5 : w3.frozen? ⟨g + 1, 5, none⟩ = false := (HY.out.next HB3.out).free 5
      go_wp2_with fail
      have hY := set6 (HY.out.next HB3.out) (.int .i64 0) (.int .u32 0) (.int .i64 0) (.int .i64 C.safe.wall) (.int .u32 C.safe.tick) (.int .u32 C.safe.mark)
      have z0 : ((((((w3.setCell ⟨g + 1, 0, none⟩ (.int .i64 0)).setCell ⟨g + 1, 1, none⟩ (.int .u32 0)).setCell ⟨g + 1, 2, none⟩ (.int .i64 0)).setCell ⟨g + 1, 3, none⟩ (.int .i64 C.safe.wall)).setCell ⟨g + 1, 4, none⟩ (.int .u32 C.safe.tick)).setCell ⟨g + 1, 5, none⟩ (.int .u32 C.safe.mark)).cell? ⟨g + 1, 0, none⟩ = some (.int .i64 0) := hY.cell 0
      have z1 : ((((((w3.setCell ⟨g + 1, 0, none⟩ (.int .i64 0)).setCell ⟨g + 1, 1, none⟩ (.int .u32 0)).setCell ⟨g + 1, 2, none⟩ (.int .i64 0)).setCell ⟨g + 1, 3, none⟩ (.int .i64 C.safe.wall)).setCell ⟨g + 1, 4, none⟩ (.int .u32 C.safe.tick)).setCell ⟨g + 1, 5, none⟩ (.int .u32 C.safe.mark)).cell? ⟨g + 1, 1, none⟩ = some (.int .u32 0) := hY.cell 1
      have z2 : ((((((w3.setCell ⟨g + 1, 0, none⟩ (.int .i64 0)).setCell ⟨g + 1, 1, none⟩ (.int .u32 0)).setCell ⟨g + 1, 2, none⟩ (.int .i64 0)).setCell ⟨g + 1, 3, none⟩ (.int .i64 C.safe.wall)).setCell ⟨g + 1, 4, none⟩ (.int .u32 C.safe.tick)).setCell ⟨g + 1, 5, none⟩ (.int .u32 C.safe.mark)).cell? ⟨g + 1, 2, none⟩ = some (.int .i64 0) := hY.cell 2
      have z3 : ((((((w3.setCell ⟨g + 1, 0, none⟩ (.int .i64 0)).setCell ⟨g + 1, 1, none⟩ (.int .u32 0)).setCell ⟨g + 1, 2, none⟩ (.int .i64 0)).setCell ⟨g + 1, 3, none⟩ (.int .i64 C.safe.wall)).setCell ⟨g + 1, 4, none⟩ (.int .u32 C.safe.tick)).setCell ⟨g + 1, 5, none⟩ (.int .u32 C.safe.mark)).cell? ⟨g + 1, 3, none⟩ = some (.int .i64 C.safe.wall) := hY.cell 3
      have z4 : ((((((w3.setCell ⟨g + 1, 0, none⟩ (.int .i64 0)).setCell ⟨g + 1, 1, none⟩ (.int .u32 0)).setCell ⟨g + 1, 2, none⟩ (.int .i64 0)).setCell ⟨g + 1, 3, none⟩ (.int .i64 C.safe.wall)).setCell ⟨g + 1, 4, none⟩ (.int .u32 C.safe.tick)).setCell ⟨g + 1, 5, none⟩ (.int .u32 C.safe.mark)).cell? ⟨g + 1, 4, none⟩ = some (.int .u32 C.safe.tick) := hY.cell 4
      have z5 : ((((((w3.setCell ⟨g + 1, 0, none⟩ (.int .i64 0)).setCell ⟨g + 1, 1, none⟩ (.int .u32 0)).setCell ⟨g + 1, 2, none⟩ (.int .i64 0)).setCell ⟨g + 1, 3, none⟩ (.int .i64 C.safe.wall)).setCell ⟨g + 1, 4, none⟩ (.int .u32 C.safe.tick)).setCell ⟨g + 1, 5, none⟩ (.int .u32 C.safe.mark)).cell? ⟨g + 1, 5, none⟩ = some (.int .u32 C.safe.mark) := hY.cell 5
      refine bodyPost_ret (v := .agg #[.int .i64 0, .int .u32 0, .int .i64 0, .int .i64 C.safe.wall, .int .u32 C.safe.tick, .int .u32 C.safe.mark]) (by simp [results, Tryz.results56, go_sem, z0, z1, z2, z3, z4, z5]) rfl ?_
      exact post_same H.out (by rw [HE.out]; rfl) (by rw [HE.out]) (bel6 hg (HBr.out _ HB3.out))
    have HE2 : Hid (cutCl C ⟨kd, dd, ⟨aw, at1, am⟩, ys, tk, nn, id, ws⟩ = if C.closed.lt ⟨aw, at1, am⟩ then (bad 101, C) else
      if waits C.deeds ⟨aw, at1, am⟩ = true then (bad 102, C) else if C.pins.any (fun p => decide (p.at_.lt ⟨aw, at1, am⟩)) = true then (bad 3, C) else
      (⟨0, 0, 0, ⟨aw, at1, am⟩⟩, { C with safe := ⟨aw, at1, am⟩, M := cutL C.M ⟨aw, at1, am⟩ })) := Lib.hid (by rw [HE1.out, if_neg (fun h => hz (HLt.out.2 h))])
    clear HE1 HLt
    go_upto_region 5 with fail
    clear hz
    have H3 := Lib.hid (H.out.next (HBr.out _ HB3.out))
    have HX3 := Lib.hid (HX.out.next HB3.out)
    have hcl : c < w3.heap.size := H3.out.blk.lt
    have hgl : g < w3.heap.size := HX3.out.lt
    have HCm := Lib.hid (fun W => compare_any C.closed ⟨aw, at1, am⟩ W)
    unfold Tm.val at HCm
    simp only at HCm
    have HLt : Hid (cmpT C.closed ⟨aw, at1, am⟩ < 0 ↔ C.closed.lt ⟨aw, at1, am⟩) := Lib.hid cmpT_lt
    generalize cmpT C.closed ⟨aw, at1, am⟩ = z at HCm HLt
    have HKs : Hid (∀ W, Below w3.heap.size w3 W → W.cell? ⟨c, 5, none⟩ = some (.int .i64 C.closed.wall) ∧ W.cell? ⟨c, 6, none⟩ = some (.int .u32 C.closed.tick) ∧ W.cell? ⟨c, 7, none⟩ = some (.int .u32 C.closed.mark) ∧ W.cell? ⟨g, 2, none⟩ = some (.int .i64 aw) ∧ W.cell? ⟨g, 3, none⟩ = some (.int .u32 at1) ∧ W.cell? ⟨g, 4, none⟩ = some (.int .u32 am)) := Lib.hid (fun W hW => ⟨(H3.out.blk.next hW).cell 5, (H3.out.blk.next hW).cell 6, (H3.out.blk.next hW).cell 7, (HX3.out.next hW).cell 2, (HX3.out.next hW).cell 3, (HX3.out.next hW).cell 4⟩)
    have hx0 := bel_refl w3
    obtain ⟨q0, q1, q2, q3, q4, q5⟩ := HKs.out w3 hx0
    go_region_held3 (fun W => W.cell? ⟨c, 5, none⟩ = some (.int .i64 C.closed.wall) ∧ W.cell? ⟨c, 6, none⟩ = some (.int .u32 C.closed.tick) ∧ W.cell? ⟨c, 7, none⟩ = some (.int .u32 C.closed.mark) ∧ W.cell? ⟨g, 2, none⟩ = some (.int .i64 aw) ∧ W.cell? ⟨g, 3, none⟩ = some (.int .u32 at1) ∧ W.cell? ⟨g, 4, none⟩ = some (.int .u32 am))
      (first | (with_reducible exact ⟨q0, q1, q2, q3, q4, q5⟩) | (with_reducible refine HKs.out _ ?_; (repeat (first | assumption | apply bel_alloc | apply bel_drew)); done) | go_keep)
      (first
        | (go_simp; go_at_call 26; refine (HCm.out _).mono ?_; rintro e w4 ⟨rfl, hb4⟩; have hx4 : Below w3.heap.size w3 w4 := bel_trans (by repeat (first | exact bel_refl _ | assumption | apply bel_alloc | apply bel_drew)) hb4; clear hb4))
    clear q0 q1 q2 q3 q4 q5 HKs hx0
    have HB4 := Lib.hid (bel_trans HB3.out hx4)
    clear hx4 hcl hgl HCm H3 HX3 HB3 HB2
    by_cases hz : z < 0
    · have HE : Hid (cutCl C ⟨kd, dd, ⟨aw, at1, am⟩, ys, tk, nn, id, ws⟩ = (bad 101, C)) := Lib.hid (by rw [HE2.out, if_pos (HLt.out.1 hz)])
      clear hi
      go_upto_region 6 with fail
      clear hz
      have y0 : w4.cell? ⟨g + 1, 0, none⟩ = some (.int .i64 0) := (HY.out.next HB4.out).cell 0
      have f0 : w4.frozen? ⟨g + 1, 0, none⟩ = false := (HY.out.next HB4.out).free 0
      have y1 : w4.cell? ⟨g + 1, 1, none⟩ = some (.int .u32 0) := (HY.out.next HB4.out).cell 1
      have f1 : w4.frozen? ⟨g + 1, 1, none⟩ = false := (HY.out.next HB4.out).free 1
      have y2 : w4.cell? ⟨g + 1, 2, none⟩ = some (.int .i64 0) := (HY.out.next HB4.out).cell 2
      have f2 : w4.frozen? ⟨g + 1, 2, none⟩ = false := (HY.out.next HB4.out).free 2
      have y3 : w4.cell? ⟨g + 1, 3, none⟩ = some (.int .i64 0) := (HY.out.next HB4.out).cell 3
      have f3 : w4.frozen? ⟨g + 1, 3, none⟩ = false := (HY.out.next HB4.out).free 3
      have y4 : w4.cell? ⟨g + 1, 4, none⟩ = some (.int .u32 0) := (HY.out.next HB4.out).cell 4
      have f4 : w4.frozen? ⟨g + 1, 4, none⟩ = false := (HY.out.next HB4.out).free 4
      have y5 : w4.cell? ⟨g + 1, 5, none⟩ = some (.int .u32 0) := (HY.out.next HB4.out).cell 5
      have f5 : w4.frozen? ⟨g + 1, 5, none⟩ = false := (HY.out.next HB4.out).free 5
      go_wp2_with fail
      have hY := set6 (HY.out.next HB4.out) (.int .i64 101) (.int .u32 0) (.int .i64 0) (.int .i64 0) (.int .u32 0) (.int .u32 0)
      have z0 : ((((((w4.setCell ⟨g + 1, 0, none⟩ (.int .i64 101)).setCell ⟨g + 1, 1, none⟩ (.int .u32 0)).setCell ⟨g + 1, 2, none⟩ (.int .i64 0)).setCell ⟨g + 1, 3, none⟩ (.int .i64 0)).setCell ⟨g + 1, 4, none⟩ (.int .u32 0)).setCell ⟨g + 1, 5, none⟩ (.int .u32 0)).cell? ⟨g + 1, 0, none⟩ = some (.int .i64 101) := hY.cell 0
      have z1 : ((((((w4.setCell ⟨g + 1, 0, none⟩ (.int .i64 101)).setCell ⟨g + 1, 1, none⟩ (.int .u32 0)).setCell ⟨g + 1, 2, none⟩ (.int .i64 0)).setCell ⟨g + 1, 3, none⟩ (.int .i64 0)).setCell ⟨g + 1, 4, none⟩ (.int .u32 0)).setCell ⟨g + 1, 5, none⟩ (.int .u32 0)).cell? ⟨g + 1, 1, none⟩ = some (.int .u32 0) := hY.cell 1
      have z2 : ((((((w4.setCell ⟨g + 1, 0, none⟩ (.int .i64 101)).setCell ⟨g + 1, 1, none⟩ (.int .u32 0)).setCell ⟨g + 1, 2, none⟩ (.int .i64 0)).setCell ⟨g + 1, 3, none⟩ (.int .i64 0)).setCell ⟨g + 1, 4, none⟩ (.int .u32 0)).setCell ⟨g + 1, 5, none⟩ (.int .u32 0)).cell? ⟨g + 1, 2, none⟩ = some (.int .i64 0) := hY.cell 2
      have z3 : ((((((w4.setCell ⟨g + 1, 0, none⟩ (.int .i64 101)).setCell ⟨g + 1, 1, none⟩ (.int .u32 0)).setCell ⟨g + 1, 2, none⟩ (.int .i64 0)).setCell ⟨g + 1, 3, none⟩ (.int .i64 0)).setCell ⟨g + 1, 4, none⟩ (.int .u32 0)).setCell ⟨g + 1, 5, none⟩ (.int .u32 0)).cell? ⟨g + 1, 3, none⟩ = some (.int .i64 0) := hY.cell 3
      have z4 : ((((((w4.setCell ⟨g + 1, 0, none⟩ (.int .i64 101)).setCell ⟨g + 1, 1, none⟩ (.int .u32 0)).setCell ⟨g + 1, 2, none⟩ (.int .i64 0)).setCell ⟨g + 1, 3, none⟩ (.int .i64 0)).setCell ⟨g + 1, 4, none⟩ (.int .u32 0)).setCell ⟨g + 1, 5, none⟩ (.int .u32 0)).cell? ⟨g + 1, 4, none⟩ = some (.int .u32 0) := hY.cell 4
      have z5 : ((((((w4.setCell ⟨g + 1, 0, none⟩ (.int .i64 101)).setCell ⟨g + 1, 1, none⟩ (.int .u32 0)).setCell ⟨g + 1, 2, none⟩ (.int .i64 0)).setCell ⟨g + 1, 3, none⟩ (.int .i64 0)).setCell ⟨g + 1, 4, none⟩ (.int .u32 0)).setCell ⟨g + 1, 5, none⟩ (.int .u32 0)).cell? ⟨g + 1, 5, none⟩ = some (.int .u32 0) := hY.cell 5
      refine bodyPost_ret (v := .agg #[.int .i64 101, .int .u32 0, .int .i64 0, .int .i64 0, .int .u32 0, .int .u32 0]) (by simp [results, Tryz.results56, go_sem, z0, z1, z2, z3, z4, z5]) rfl ?_
      exact post_same H.out (by rw [HE.out]; rfl) (by rw [HE.out]) (bel6 hg (HBr.out _ HB4.out))
    have HE3 : Hid (cutCl C ⟨kd, dd, ⟨aw, at1, am⟩, ys, tk, nn, id, ws⟩ = if waits C.deeds ⟨aw, at1, am⟩ = true then (bad 102, C) else if C.pins.any (fun p => decide (p.at_.lt ⟨aw, at1, am⟩)) = true then (bad 3, C) else
      (⟨0, 0, 0, ⟨aw, at1, am⟩⟩, { C with safe := ⟨aw, at1, am⟩, M := cutL C.M ⟨aw, at1, am⟩ })) := Lib.hid (by rw [HE2.out, if_neg (fun h => hz (HLt.out.2 h))])
    clear HE2 HLt
    go_upto_region 7 with fail
    clear hz
    have H4 := Lib.hid (H.out.next (HBr.out _ HB4.out))
    have HWt := Lib.hid (waits_any w4 H4.out ⟨aw, at1, am⟩)
    unfold Tm.val at HWt
    simp only at HWt
    have hX4 := HX.out.next HB4.out
    have x2 : w4.cell? ⟨g, 2, none⟩ = some (.int .i64 aw) := hX4.cell 2
    have x3 : w4.cell? ⟨g, 3, none⟩ = some (.int .u32 at1) := hX4.cell 3
    have x4 : w4.cell? ⟨g, 4, none⟩ = some (.int .u32 am) := hX4.cell 4
    clear hX4 H4
    obtain ⟨q, hq⟩ : ∃ q, waits C.deeds ⟨aw, at1, am⟩ = q := ⟨_, rfl⟩
    rw [hq] at HWt HE3
    have HQ := Lib.hid hq
    clear hq
    cases q with
    | true =>
      have HE : Hid (cutCl C ⟨kd, dd, ⟨aw, at1, am⟩, ys, tk, nn, id, ws⟩ = (bad 102, C)) := Lib.hid (by rw [HE3.out, if_pos rfl])
      clear hi
      go_upto_region 8 with (first
        | (go_at_call 75; refine HWt.out.mono ?_; rintro e w5 ⟨rfl, hb5⟩; have HB5 := Lib.hid (bel_trans HB4.out hb5); clear hb5)
        | fail)
      clear x2 x3 x4 HWt
      have y0 : w5.cell? ⟨g + 1, 0, none⟩ = some (.int .i64 0) := (HY.out.next HB5.out).cell 0
      have f0 : w5.frozen? ⟨g + 1, 0, none⟩ = false := (HY.out.next HB5.out).free 0
      have y1 : w5.cell? ⟨g + 1, 1, none⟩ = some (.int .u32 0) := (HY.out.next HB5.out).cell 1
      have f1 : w5.frozen? ⟨g + 1, 1, none⟩ = false := (HY.out.next HB5.out).free 1
      have y2 : w5.cell? ⟨g + 1, 2, none⟩ = some (.int .i64 0) := (HY.out.next HB5.out).cell 2
      have f2 : w5.frozen? ⟨g + 1, 2, none⟩ = false := (HY.out.next HB5.out).free 2
      have y3 : w5.cell? ⟨g + 1, 3, none⟩ = some (.int .i64 0) := (HY.out.next HB5.out).cell 3
      have f3 : w5.frozen? ⟨g + 1, 3, none⟩ = false := (HY.out.next HB5.out).free 3
      have y4 : w5.cell? ⟨g + 1, 4, none⟩ = some (.int .u32 0) := (HY.out.next HB5.out).cell 4
      have f4 : w5.frozen? ⟨g + 1, 4, none⟩ = false := (HY.out.next HB5.out).free 4
      have y5 : w5.cell? ⟨g + 1, 5, none⟩ = some (.int .u32 0) := (HY.out.next HB5.out).cell 5
      have f5 : w5.frozen? ⟨g + 1, 5, none⟩ = false := (HY.out.next HB5.out).free 5
      go_wp2_with fail
      have hY := set6 (HY.out.next HB5.out) (.int .i64 102) (.int .u32 0) (.int .i64 0) (.int .i64 0) (.int .u32 0) (.int .u32 0)
      have z0 : ((((((w5.setCell ⟨g + 1, 0, none⟩ (.int .i64 102)).setCell ⟨g + 1, 1, none⟩ (.int .u32 0)).setCell ⟨g + 1, 2, none⟩ (.int .i64 0)).setCell ⟨g + 1, 3, none⟩ (.int .i64 0)).setCell ⟨g + 1, 4, none⟩ (.int .u32 0)).setCell ⟨g + 1, 5, none⟩ (.int .u32 0)).cell? ⟨g + 1, 0, none⟩ = some (.int .i64 102) := hY.cell 0
      have z1 : ((((((w5.setCell ⟨g + 1, 0, none⟩ (.int .i64 102)).setCell ⟨g + 1, 1, none⟩ (.int .u32 0)).setCell ⟨g + 1, 2, none⟩ (.int .i64 0)).setCell ⟨g + 1, 3, none⟩ (.int .i64 0)).setCell ⟨g + 1, 4, none⟩ (.int .u32 0)).setCell ⟨g + 1, 5, none⟩ (.int .u32 0)).cell? ⟨g + 1, 1, none⟩ = some (.int .u32 0) := hY.cell 1
      have z2 : ((((((w5.setCell ⟨g + 1, 0, none⟩ (.int .i64 102)).setCell ⟨g + 1, 1, none⟩ (.int .u32 0)).setCell ⟨g + 1, 2, none⟩ (.int .i64 0)).setCell ⟨g + 1, 3, none⟩ (.int .i64 0)).setCell ⟨g + 1, 4, none⟩ (.int .u32 0)).setCell ⟨g + 1, 5, none⟩ (.int .u32 0)).cell? ⟨g + 1, 2, none⟩ = some (.int .i64 0) := hY.cell 2
      have z3 : ((((((w5.setCell ⟨g + 1, 0, none⟩ (.int .i64 102)).setCell ⟨g + 1, 1, none⟩ (.int .u32 0)).setCell ⟨g + 1, 2, none⟩ (.int .i64 0)).setCell ⟨g + 1, 3, none⟩ (.int .i64 0)).setCell ⟨g + 1, 4, none⟩ (.int .u32 0)).setCell ⟨g + 1, 5, none⟩ (.int .u32 0)).cell? ⟨g + 1, 3, none⟩ = some (.int .i64 0) := hY.cell 3
      have z4 : ((((((w5.setCell ⟨g + 1, 0, none⟩ (.int .i64 102)).setCell ⟨g + 1, 1, none⟩ (.int .u32 0)).setCell ⟨g + 1, 2, none⟩ (.int .i64 0)).setCell ⟨g + 1, 3, none⟩ (.int .i64 0)).setCell ⟨g + 1, 4, none⟩ (.int .u32 0)).setCell ⟨g + 1, 5, none⟩ (.int .u32 0)).cell? ⟨g + 1, 4, none⟩ = some (.int .u32 0) := hY.cell 4
      have z5 : ((((((w5.setCell ⟨g + 1, 0, none⟩ (.int .i64 102)).setCell ⟨g + 1, 1, none⟩ (.int .u32 0)).setCell ⟨g + 1, 2, none⟩ (.int .i64 0)).setCell ⟨g + 1, 3, none⟩ (.int .i64 0)).setCell ⟨g + 1, 4, none⟩ (.int .u32 0)).setCell ⟨g + 1, 5, none⟩ (.int .u32 0)).cell? ⟨g + 1, 5, none⟩ = some (.int .u32 0) := hY.cell 5
      refine bodyPost_ret (v := .agg #[.int .i64 102, .int .u32 0, .int .i64 0, .int .i64 0, .int .u32 0, .int .u32 0]) (by simp [results, Tryz.results56, go_sem, z0, z1, z2, z3, z4, z5]) rfl ?_
      exact post_same H.out (by rw [HE.out]; rfl) (by rw [HE.out]) (bel6 hg (HBr.out _ HB5.out))
    | false =>
      have HE4 : Hid (cutCl C ⟨kd, dd, ⟨aw, at1, am⟩, ys, tk, nn, id, ws⟩ = if C.pins.any (fun p => decide (p.at_.lt ⟨aw, at1, am⟩)) = true then (bad 3, C) else
        (⟨0, 0, 0, ⟨aw, at1, am⟩⟩, { C with safe := ⟨aw, at1, am⟩, M := cutL C.M ⟨aw, at1, am⟩ })) := Lib.hid (by rw [HE3.out, if_neg (by simp)])
      clear HE3
      go_upto_region 9 with (first
        | (go_at_call 75; refine HWt.out.mono ?_; rintro e w5 ⟨rfl, hb5⟩; have HB5 := Lib.hid (bel_trans HB4.out hb5); clear hb5)
        | fail)
      clear x2 x3 x4 HWt HB4
      have H5 := Lib.hid (H.out.next (HBr.out _ HB5.out))
      have c12 : w5.cell? ⟨c, 12, none⟩ = some (.map (some p.pm)) := H5.out.blk.cell 12
      obtain ⟨D, hD, hsz, hcf⟩ := H5.out.pins.map
      have HcD : Hid (SayD D p.fp) := Lib.hid hcf
      have hown := hD
      clear hD hcf
      go_wp2_with (first
        | (at_range; refine wpList_range_own _ rfl _ 137 rfl 3 149 key3 Tryz.underlying137 _ p.pm C.pins.length D rfl hown ?_; intro w0 hrg0 hg0 hs0)
        | fail)
      have hbel0 : Below w5.heap.size w5 w0 := (Below.refl _ w5).grown hg0 (Nat.le_refl _) (fun b e => by cases e)
      have hleft : Maps.has D = fun k => (p.fp k).isSome := funext fun k => HcD.out.has k
      rw [hleft] at hrg0
      have HBw := Lib.hid hbel0
      have HN0 : Hid (∀ d ∈ C.pins, (fun k => (p.fp k).isSome) (litP d.id) = false → ¬ d.at_.lt ⟨aw, at1, am⟩) := Lib.hid (fun d hd e => by have e' : (p.fp (litP d.id)).isSome = false := e; rw [H5.out.pins.has d hd] at e'; cases e')
      have HL0 : Hid (∀ k, (fun k => (p.fp k).isSome) k = true → (p.fp k).isSome = true) := Lib.hid (fun _ h => h)
      clear hbel0 hleft hown hg0 hs0 c12
      go_frame
      go_loopw [] (fun wr => ∃ (left : Lit → Bool) (cnt : Nat), wr.ranges Tryz.prog 3 anyElem p.pm w5.heap.size C.pins.length D left cnt ∧ Hid (∀ d ∈ C.pins, left (litP d.id) = false → ¬ d.at_.lt ⟨aw, at1, am⟩) ∧ Hid (∀ k, left k = true → (p.fp k).isSome = true) ∧ Hid (Below w5.heap.size w5 wr)) (fun wr => wr.rangeLeft p.pm w5.heap.size)
      case atStart => exact ⟨_, _, hrg0, HN0, HL0, HBw⟩
      case round =>
        clear hrg0 HN0 HL0 HBw
        obtain ⟨left, cnt, hrg, HN, HL, HB⟩ := hrel
        obtain ⟨wo, rfl⟩ : ∃ wo, wo = wr := ⟨_, rfl⟩
        go_wp2_with (first
          | (at_next; refine wpList_next_ranges _ rfl _ rfl 3 key3 anyElem (Value.int .i64) (fun v : Value => v) (fun key kl h => by obtain ⟨x, e, _⟩ := Maps.keyOf_int_inv Tryz.underlying3 h; exact ⟨x, e⟩) (fun v y h => ⟨v, rfl⟩) p.pm w5.heap.size C.pins.length D left cnt rfl hrg ?_ ?_)
          | fail)
        · intro hc0 hl0
          have HE : Hid (cutCl C ⟨kd, dd, ⟨aw, at1, am⟩, ys, tk, nn, id, ws⟩ = (⟨0, 0, 0, ⟨aw, at1, am⟩⟩, { C with safe := ⟨aw, at1, am⟩, M := cutL C.M ⟨aw, at1, am⟩ })) := Lib.hid (by
            rw [HE4.out, if_neg (fun e => by
              rw [List.any_eq_true] at e
              obtain ⟨d, hd, e⟩ := e
              exact HN.out d hd (hl0 _) (by simpa using e))])
          have Hi := Lib.hid hi
          have HBo := Lib.hid (bel_trans HB5.out HB.out)
          clear hl0 hrg hi HE4 HN HL
          have H0 := Lib.hid (H.out.next (HBr.out _ HBo.out))
          have hX0 := HX.out.next HBo.out
          have x2 : wo.cell? ⟨g, 2, none⟩ = some (.int .i64 aw) := hX0.cell 2
          have x3 : wo.cell? ⟨g, 3, none⟩ = some (.int .u32 at1) := hX0.cell 3
          have x4 : wo.cell? ⟨g, 4, none⟩ = some (.int .u32 am) := hX0.cell 4
          have c8 : wo.cell? ⟨c, 8, none⟩ = some (.int .i64 C.safe.wall) := H0.out.blk.cell 8
          have c9 : wo.cell? ⟨c, 9, none⟩ = some (.int .u32 C.safe.tick) := H0.out.blk.cell 9
          have c10 : wo.cell? ⟨c, 10, none⟩ = some (.int .u32 C.safe.mark) := H0.out.blk.cell 10
          have g8 : wo.frozen? ⟨c, 8, none⟩ = false := H0.out.blk.free 8
          have g9 : wo.frozen? ⟨c, 9, none⟩ = false := H0.out.blk.free 9
          have g10 : wo.frozen? ⟨c, 10, none⟩ = false := H0.out.blk.free 10
          have hnc : c ≠ g + 1 := fun e => by have := H.out.blk.lt; omega
          have hng : c ≠ g := fun e => by have := H.out.blk.lt; omega
          clear hX0
          go_upto_region 15 with fail
          have hc8 : Blk (((wo.setCell ⟨c, 8, none⟩ (.int .i64 aw)).setCell ⟨c, 9, none⟩ (.int .u32 at1)).setCell ⟨c, 10, none⟩ (.int .u32 am)) c (ccells { C with safe := ⟨aw, at1, am⟩, M := cutL C.M ⟨aw, at1, am⟩ } p) 140 := by
            have := ((H0.out.blk.set 8 (.int .i64 aw)).set 9 (.int .u32 at1)).set 10 (.int .u32 am)
            simpa [ccells] using this
          have hy8 : Blk (((wo.setCell ⟨c, 8, none⟩ (.int .i64 aw)).setCell ⟨c, 9, none⟩ (.int .u32 at1)).setCell ⟨c, 10, none⟩ (.int .u32 am)) (g + 1) #[.int .i64 0, .int .u32 0, .int .i64 0, .int .i64 0, .int .u32 0, .int .u32 0] 46 := (((HY.out.next HBo.out).other (fun e => hnc e.symm) _).other (fun e => hnc e.symm) _).other (fun e => hnc e.symm) _
          have hx8 : Blk (((wo.setCell ⟨c, 8, none⟩ (.int .i64 aw)).setCell ⟨c, 9, none⟩ (.int .u32 at1)).setCell ⟨c, 10, none⟩ (.int .u32 am)) g #[.int .i64 kd, .int .u32 dd, .int .i64 aw, .int .u32 at1, .int .u32 am, .bool ys, .string tk, .int .i64 nn, .int .i64 id, .slice va T.length vc] 50 := (((HX.out.next HBo.out).other (fun e => hng e.symm) _).other (fun e => hng e.symm) _).other (fun e => hng e.symm) _
          have ht8 : Turn (fun x => x = c) wo (((wo.setCell ⟨c, 8, none⟩ (.int .i64 aw)).setCell ⟨c, 9, none⟩ (.int .u32 at1)).setCell ⟨c, 10, none⟩ (.int .u32 am)) :=
            (((Turn.refl (fun x => x = c) wo).set (a := ⟨c, 8, none⟩) rfl _).set (a := ⟨c, 9, none⟩) rfl _).set (a := ⟨c, 10, none⟩) rfl _
          have HC8 := Lib.hid hc8
          have HY8 := Lib.hid hy8
          have HX8 := Lib.hid hx8
          have HT8 := Lib.hid ht8
          clear x2 x3 x4 c8 c9 c10 g8 g9 g10 hc8 hy8 hx8 ht8
          generalize ((wo.setCell ⟨c, 8, none⟩ (.int .i64 aw)).setCell ⟨c, 9, none⟩ (.int .u32 at1)).setCell ⟨c, 10, none⟩ (.int .u32 am) = w8 at HC8 HY8 HX8 HT8 ⊢
          have HS8 : Hid (St p.Fs w8 p.s C.M N) := Lib.hid (H0.out.st.keep HT8.out (fun x hx e => H0.out.nc (e ▸ hx)))
          have HCut := Lib.hid (fun (W : World) (hW : Below w8.heap.size w8 W) => cut_from ⟨aw, at1, am⟩ w8 HS8.out hN W hW)
          unfold Tm.val at HCut
          simp only at HCut
          have HNg : Hid (¬ p.Fs g ∧ ¬ p.Fs (g + 1)) := Lib.hid ⟨fun e => by have := H.out.lt _ (H.out.sub _ e); omega, fun e => by have := H.out.lt _ (H.out.sub _ e); omega⟩
          have hcl : c < w8.heap.size := HC8.out.lt
          have hgl : g < w8.heap.size := HX8.out.lt
          have HKs : Hid (∀ W, Below w8.heap.size w8 W → W.cell? ⟨c, 1, none⟩ = some (.pointer (some ⟨p.s, 0, none⟩)) ∧ W.cell? ⟨g, 2, none⟩ = some (.int .i64 aw) ∧ W.cell? ⟨g, 3, none⟩ = some (.int .u32 at1) ∧ W.cell? ⟨g, 4, none⟩ = some (.int .u32 am)) := Lib.hid (fun W hW => ⟨(HC8.out.next hW).cell 1, (HX8.out.next hW).cell 2, (HX8.out.next hW).cell 3, (HX8.out.next hW).cell 4⟩)
          have hx0 := bel_refl w8
          obtain ⟨q0, q1, q2, q3⟩ := HKs.out w8 hx0
          go_region_held3 (fun W => W.cell? ⟨c, 1, none⟩ = some (.pointer (some ⟨p.s, 0, none⟩)) ∧ W.cell? ⟨g, 2, none⟩ = some (.int .i64 aw) ∧ W.cell? ⟨g, 3, none⟩ = some (.int .u32 at1) ∧ W.cell? ⟨g, 4, none⟩ = some (.int .u32 am))
            (first | (with_reducible exact ⟨q0, q1, q2, q3⟩) | (with_reducible exact ⟨y0, y1, y2, y3⟩) | (with_reducible refine HKs.out _ ?_; (repeat (first | assumption | apply bel_alloc | apply bel_drew)); done) | go_keep)
            (first
              | (go_simp; go_at_call 133; refine (HCut.out _ (by repeat (first | exact bel_refl _ | assumption | apply bel_alloc | apply bel_drew))).mono ?_; rintro e w9 ⟨rfl, F7, h7, hF7, ht7⟩; have hc9 := blk_keep ht7 HC8.out H.out.nc; have hx9 := blk_keep ht7 HX8.out HNg.out.1; have HC9 := Lib.hid hc9; have HX9 := Lib.hid hx9; have HY9 := Lib.hid (blk_keep ht7 HY8.out HNg.out.2); have HH7 := Lib.hid h7; have HF7 := Lib.hid hF7; have HT9 := Lib.hid ((HT8.out.mono (G := fun x => x = c ∨ p.Fs x) (fun x hx => .inl hx)).trans ht7 (fun x hx => .inl (.inr hx))); have y0 : w9.cell? ⟨c, 1, none⟩ = some (.pointer (some ⟨p.s, 0, none⟩)) := hc9.cell 1; have y1 : w9.cell? ⟨g, 2, none⟩ = some (.int .i64 aw) := hx9.cell 2; have y2 : w9.cell? ⟨g, 3, none⟩ = some (.int .u32 at1) := hx9.cell 3; have y3 : w9.cell? ⟨g, 4, none⟩ = some (.int .u32 am) := hx9.cell 4; clear h7 hF7 ht7 hc9 hx9))
          clear q0 q1 q2 q3 HKs hx0
          clear y0 y1 y2 y3
          have h0 : w9.cell? ⟨c, 8, none⟩ = some (.int .i64 aw) := HC9.out.cell 8
          have h1 : w9.cell? ⟨c, 9, none⟩ = some (.int .u32 at1) := HC9.out.cell 9
          have h2 : w9.cell? ⟨c, 10, none⟩ = some (.int .u32 am) := HC9.out.cell 10
          clear hcl hgl HCut
          have y0 : w9.cell? ⟨g + 1, 0, none⟩ = some (.int .i64 0) := HY9.out.cell 0
          have f0 : w9.frozen? ⟨g + 1, 0, none⟩ = false := HY9.out.free 0
          have y1 : w9.cell? ⟨g + 1, 1, none⟩ = some (.int .u32 0) := HY9.out.cell 1
          have f1 : w9.frozen? ⟨g + 1, 1, none⟩ = false := HY9.out.free 1
          have y2 : w9.cell? ⟨g + 1, 2, none⟩ = some (.int .i64 0) := HY9.out.cell 2
          have f2 : w9.frozen? ⟨g + 1, 2, none⟩ = false := HY9.out.free 2
          have y3 : w9.cell? ⟨g + 1, 3, none⟩ = some (.int .i64 0) := HY9.out.cell 3
          have f3 : w9.frozen? ⟨g + 1, 3, none⟩ = false := HY9.out.free 3
          have y4 : w9.cell? ⟨g + 1, 4, none⟩ = some (.int .u32 0) := HY9.out.cell 4
          have f4 : w9.frozen? ⟨g + 1, 4, none⟩ = false := HY9.out.free 4
          have y5 : w9.cell? ⟨g + 1, 5, none⟩ = some (.int .u32 0) := HY9.out.cell 5
          have f5 : w9.frozen? ⟨g + 1, 5, none⟩ = false := HY9.out.free 5
          go_wp2_with fail
          have hY := set6 HY9.out (.int .i64 0) (.int .u32 0) (.int .i64 0) (.int .i64 aw) (.int .u32 at1) (.int .u32 am)
          have z0 : ((((((w9.setCell ⟨g + 1, 0, none⟩ (.int .i64 0)).setCell ⟨g + 1, 1, none⟩ (.int .u32 0)).setCell ⟨g + 1, 2, none⟩ (.int .i64 0)).setCell ⟨g + 1, 3, none⟩ (.int .i64 aw)).setCell ⟨g + 1, 4, none⟩ (.int .u32 at1)).setCell ⟨g + 1, 5, none⟩ (.int .u32 am)).cell? ⟨g + 1, 0, none⟩ = some (.int .i64 0) := hY.cell 0
          have z1 : ((((((w9.setCell ⟨g + 1, 0, none⟩ (.int .i64 0)).setCell ⟨g + 1, 1, none⟩ (.int .u32 0)).setCell ⟨g + 1, 2, none⟩ (.int .i64 0)).setCell ⟨g + 1, 3, none⟩ (.int .i64 aw)).setCell ⟨g + 1, 4, none⟩ (.int .u32 at1)).setCell ⟨g + 1, 5, none⟩ (.int .u32 am)).cell? ⟨g + 1, 1, none⟩ = some (.int .u32 0) := hY.cell 1
          have z2 : ((((((w9.setCell ⟨g + 1, 0, none⟩ (.int .i64 0)).setCell ⟨g + 1, 1, none⟩ (.int .u32 0)).setCell ⟨g + 1, 2, none⟩ (.int .i64 0)).setCell ⟨g + 1, 3, none⟩ (.int .i64 aw)).setCell ⟨g + 1, 4, none⟩ (.int .u32 at1)).setCell ⟨g + 1, 5, none⟩ (.int .u32 am)).cell? ⟨g + 1, 2, none⟩ = some (.int .i64 0) := hY.cell 2
          have z3 : ((((((w9.setCell ⟨g + 1, 0, none⟩ (.int .i64 0)).setCell ⟨g + 1, 1, none⟩ (.int .u32 0)).setCell ⟨g + 1, 2, none⟩ (.int .i64 0)).setCell ⟨g + 1, 3, none⟩ (.int .i64 aw)).setCell ⟨g + 1, 4, none⟩ (.int .u32 at1)).setCell ⟨g + 1, 5, none⟩ (.int .u32 am)).cell? ⟨g + 1, 3, none⟩ = some (.int .i64 aw) := hY.cell 3
          have z4 : ((((((w9.setCell ⟨g + 1, 0, none⟩ (.int .i64 0)).setCell ⟨g + 1, 1, none⟩ (.int .u32 0)).setCell ⟨g + 1, 2, none⟩ (.int .i64 0)).setCell ⟨g + 1, 3, none⟩ (.int .i64 aw)).setCell ⟨g + 1, 4, none⟩ (.int .u32 at1)).setCell ⟨g + 1, 5, none⟩ (.int .u32 am)).cell? ⟨g + 1, 4, none⟩ = some (.int .u32 at1) := hY.cell 4
          have z5 : ((((((w9.setCell ⟨g + 1, 0, none⟩ (.int .i64 0)).setCell ⟨g + 1, 1, none⟩ (.int .u32 0)).setCell ⟨g + 1, 2, none⟩ (.int .i64 0)).setCell ⟨g + 1, 3, none⟩ (.int .i64 aw)).setCell ⟨g + 1, 4, none⟩ (.int .u32 at1)).setCell ⟨g + 1, 5, none⟩ (.int .u32 am)).cell? ⟨g + 1, 5, none⟩ = some (.int .u32 am) := hY.cell 5
          refine bodyPost_ret (v := .agg #[.int .i64 0, .int .u32 0, .int .i64 0, .int .i64 aw, .int .u32 at1, .int .u32 am]) (by simp [results, Tryz.results56, go_sem, z0, z1, z2, z3, z4, z5]) rfl ?_
          rw [HE.out] at Hi ⊢
          have hB0 := HBr.out _ HBo.out
          refine post_store H.out rfl (HH7.out.keep (G := fun x => x = g + 1) (own6 _ _) (fun x hx e => by
            rcases HF7.out x hx with h | h
            · exact HNg.out.2 (e ▸ h)
            · have := HY8.out.lt; omega)) (fun x hx => (HF7.out x hx).imp (fun h => h) (fun h => Nat.le_trans hB0.size (Nat.le_trans HT8.out.size h))) (turn6 (by omega) ((Turn.of (F := fun x => x = c ∨ p.Fs x) hB0).trans HT9.out (fun x hx => .inl hx))) (blk_other6 HC9.out hnc) rfl rfl rfl Hi.out
        · intro x cv kk yd yp w6 cnt2 hkey hlk hv hat hrg2 hlt hg2 hs2 hen
          obtain ⟨x', ex, hx', -⟩ := Maps.keyOf_int_inv Tryz.underlying3 hkey
          cases ex
          subst hx'
          have hd : Maps.has D (litP x) = true := by rw [HcD.out.has]; exact HL.out _ hlk
          have hfk : p.fp (litP x) = some cv := entry_any HcD.out hd hv hat
          obtain ⟨d, hdm, hid, rfl⟩ := H5.out.pins.all _ _ hfk
          obtain ⟨did, ⟨dw, dt, dm2⟩, du⟩ := d
          have hid' : x = did := by unfold litP at hid; injection hid
          subst hid'
          have hB2 : Below w5.heap.size w5 w6 := HB.out.grown hg2 HB.out.size (fun b e => by injection e with e; omega)
          have HB6 := Lib.hid hB2
          have hmeas : w6.rangeLeft p.pm w5.heap.size < wo.rangeLeft p.pm w5.heap.size := by rw [hrg2.left_eq, hrg.left_eq]; exact hlt
          have HR2 := Lib.hid hrg2
          have HLn : Hid (∀ k, (left k && !k.sameKey (litP x)) = true → (p.fp k).isSome = true) := Lib.hid (fun k h => HL.out k (by simp at h; exact h.1))
          have Hdm := Lib.hid hdm
          unfold pval at hen
          simp only at hen
          clear hd hfk hkey hlk hv hat hrg2 hlt hg2 hs2 hid hdm hrg
          have HD := Lib.hid (Blk.new w6 #[.int .i64 dw, .int .u32 dt, .int .u32 dm2, .int .i64 du] 149)
          have HBd := Lib.hid (below_alloc w6 (.cells #[.int .i64 dw, .int .u32 dt, .int .u32 dm2, .int .i64 du] 149))
          have Hmeas := Lib.hid hmeas
          clear hmeas
          go_upto_region 12 with fail
          generalize w6.alloc (.cells #[.int .i64 dw, .int .u32 dt, .int .u32 dm2, .int .i64 du] 149) = w7 at HD HBd ⊢
          generalize hg9 : w6.heap.size = g9 at HD ⊢
          have HB7 := Lib.hid (bel_trans HB5.out (bel_trans HB6.out HBd.out))
          have HB57 := Lib.hid (bel_trans HB6.out HBd.out)
          have hx3 := HX.out.next HB7.out
          have t0 : w7.cell? ⟨g, 2, none⟩ = some (.int .i64 aw) := hx3.cell 2
          have t1 : w7.cell? ⟨g, 3, none⟩ = some (.int .u32 at1) := hx3.cell 3
          have t2 : w7.cell? ⟨g, 4, none⟩ = some (.int .u32 am) := hx3.cell 4
          have d0 : w7.cell? ⟨g9, 0, none⟩ = some (.int .i64 dw) := HD.out.cell 0
          have d1 : w7.cell? ⟨g9, 1, none⟩ = some (.int .u32 dt) := HD.out.cell 1
          have d2 : w7.cell? ⟨g9, 2, none⟩ = some (.int .u32 dm2) := HD.out.cell 2
          have HR3 : Hid (w7.ranges Tryz.prog 3 anyElem p.pm w5.heap.size C.pins.length D (fun z => left z && !z.sameKey (litP x)) cnt2) := Lib.hid (ranges_keep (G := fun _ => False) HR2.out (Turn.of HBd.out) (fun e => e) (fun e => e))
          clear hx3 hen hg9
          have HCm := Lib.hid (fun W => compare_any ⟨dw, dt, dm2⟩ ⟨aw, at1, am⟩ W)
          unfold Tm.val at HCm
          simp only at HCm
          have HLt : Hid (cmpT ⟨dw, dt, dm2⟩ ⟨aw, at1, am⟩ < 0 ↔ (⟨dw, dt, dm2⟩ : Tm).lt ⟨aw, at1, am⟩) := Lib.hid cmpT_lt
          generalize cmpT ⟨dw, dt, dm2⟩ ⟨aw, at1, am⟩ = z at HCm HLt
          by_cases hz : z < 0
          · have hzb : decide (z < 0) = true := by simpa using hz
            have HE : Hid (cutCl C ⟨kd, dd, ⟨aw, at1, am⟩, ys, tk, nn, id, ws⟩ = (bad 3, C)) := Lib.hid (by rw [HE4.out, if_pos (by rw [List.any_eq_true]; exact ⟨_, Hdm.out, by simpa using HLt.out.1 hz⟩)])
            clear hz hi
            go_upto_region 13 with (first
              | (go_at_call 26; refine (HCm.out _).mono ?_; rintro e w8 ⟨rfl, hb8⟩; have HB8 := Lib.hid (bel_trans HB7.out hb8); clear hb8)
              | fail)
            clear t0 t1 t2 d0 d1 d2 hzb HCm
            have y0 : w8.cell? ⟨g + 1, 0, none⟩ = some (.int .i64 0) := (HY.out.next HB8.out).cell 0
            have f0 : w8.frozen? ⟨g + 1, 0, none⟩ = false := (HY.out.next HB8.out).free 0
            have y1 : w8.cell? ⟨g + 1, 1, none⟩ = some (.int .u32 0) := (HY.out.next HB8.out).cell 1
            have f1 : w8.frozen? ⟨g + 1, 1, none⟩ = false := (HY.out.next HB8.out).free 1
            have y2 : w8.cell? ⟨g + 1, 2, none⟩ = some (.int .i64 0) := (HY.out.next HB8.out).cell 2
            have f2 : w8.frozen? ⟨g + 1, 2, none⟩ = false := (HY.out.next HB8.out).free 2
            have y3 : w8.cell? ⟨g + 1, 3, none⟩ = some (.int .i64 0) := (HY.out.next HB8.out).cell 3
            have f3 : w8.frozen? ⟨g + 1, 3, none⟩ = false := (HY.out.next HB8.out).free 3
            have y4 : w8.cell? ⟨g + 1, 4, none⟩ = some (.int .u32 0) := (HY.out.next HB8.out).cell 4
            have f4 : w8.frozen? ⟨g + 1, 4, none⟩ = false := (HY.out.next HB8.out).free 4
            have y5 : w8.cell? ⟨g + 1, 5, none⟩ = some (.int .u32 0) := (HY.out.next HB8.out).cell 5
            have f5 : w8.frozen? ⟨g + 1, 5, none⟩ = false := (HY.out.next HB8.out).free 5
            go_wp2_with fail
            have hY := set6 (HY.out.next HB8.out) (.int .i64 3) (.int .u32 0) (.int .i64 0) (.int .i64 0) (.int .u32 0) (.int .u32 0)
            have z0 : ((((((w8.setCell ⟨g + 1, 0, none⟩ (.int .i64 3)).setCell ⟨g + 1, 1, none⟩ (.int .u32 0)).setCell ⟨g + 1, 2, none⟩ (.int .i64 0)).setCell ⟨g + 1, 3, none⟩ (.int .i64 0)).setCell ⟨g + 1, 4, none⟩ (.int .u32 0)).setCell ⟨g + 1, 5, none⟩ (.int .u32 0)).cell? ⟨g + 1, 0, none⟩ = some (.int .i64 3) := hY.cell 0
            have z1 : ((((((w8.setCell ⟨g + 1, 0, none⟩ (.int .i64 3)).setCell ⟨g + 1, 1, none⟩ (.int .u32 0)).setCell ⟨g + 1, 2, none⟩ (.int .i64 0)).setCell ⟨g + 1, 3, none⟩ (.int .i64 0)).setCell ⟨g + 1, 4, none⟩ (.int .u32 0)).setCell ⟨g + 1, 5, none⟩ (.int .u32 0)).cell? ⟨g + 1, 1, none⟩ = some (.int .u32 0) := hY.cell 1
            have z2 : ((((((w8.setCell ⟨g + 1, 0, none⟩ (.int .i64 3)).setCell ⟨g + 1, 1, none⟩ (.int .u32 0)).setCell ⟨g + 1, 2, none⟩ (.int .i64 0)).setCell ⟨g + 1, 3, none⟩ (.int .i64 0)).setCell ⟨g + 1, 4, none⟩ (.int .u32 0)).setCell ⟨g + 1, 5, none⟩ (.int .u32 0)).cell? ⟨g + 1, 2, none⟩ = some (.int .i64 0) := hY.cell 2
            have z3 : ((((((w8.setCell ⟨g + 1, 0, none⟩ (.int .i64 3)).setCell ⟨g + 1, 1, none⟩ (.int .u32 0)).setCell ⟨g + 1, 2, none⟩ (.int .i64 0)).setCell ⟨g + 1, 3, none⟩ (.int .i64 0)).setCell ⟨g + 1, 4, none⟩ (.int .u32 0)).setCell ⟨g + 1, 5, none⟩ (.int .u32 0)).cell? ⟨g + 1, 3, none⟩ = some (.int .i64 0) := hY.cell 3
            have z4 : ((((((w8.setCell ⟨g + 1, 0, none⟩ (.int .i64 3)).setCell ⟨g + 1, 1, none⟩ (.int .u32 0)).setCell ⟨g + 1, 2, none⟩ (.int .i64 0)).setCell ⟨g + 1, 3, none⟩ (.int .i64 0)).setCell ⟨g + 1, 4, none⟩ (.int .u32 0)).setCell ⟨g + 1, 5, none⟩ (.int .u32 0)).cell? ⟨g + 1, 4, none⟩ = some (.int .u32 0) := hY.cell 4
            have z5 : ((((((w8.setCell ⟨g + 1, 0, none⟩ (.int .i64 3)).setCell ⟨g + 1, 1, none⟩ (.int .u32 0)).setCell ⟨g + 1, 2, none⟩ (.int .i64 0)).setCell ⟨g + 1, 3, none⟩ (.int .i64 0)).setCell ⟨g + 1, 4, none⟩ (.int .u32 0)).setCell ⟨g + 1, 5, none⟩ (.int .u32 0)).cell? ⟨g + 1, 5, none⟩ = some (.int .u32 0) := hY.cell 5
            refine bodyPost_ret (v := .agg #[.int .i64 3, .int .u32 0, .int .i64 0, .int .i64 0, .int .u32 0, .int .u32 0]) (by simp [results, Tryz.results56, go_sem, z0, z1, z2, z3, z4, z5]) rfl ?_
            exact post_same H.out (by rw [HE.out]; rfl) (by rw [HE.out]) (bel6 hg (HBr.out _ HB8.out))
          · have hzb : decide (z < 0) = false := by simpa using hz
            have HNn : Hid (∀ d ∈ C.pins, (left (litP d.id) && !(litP d.id).sameKey (litP x)) = false → ¬ d.at_.lt ⟨aw, at1, am⟩) := Lib.hid (fun d hd e => by
              rw [same_litP] at e
              by_cases hi : d.id = x
              · have := pin_inj H5.out.inv hd Hdm.out hi
                rw [this]; exact fun e => hz (HLt.out.2 e)
              · simp [hi] at e
                exact HN.out d hd e)
            clear hz
            go_wp2_with (first
              | (go_at_call 26; refine (HCm.out _).mono ?_; rintro e w8 ⟨rfl, hb8⟩; have HB8 := Lib.hid hb8; clear hb8)
              | fail)
            go_roundw
            case rel => exact ⟨_, cnt2, ranges_keep (G := fun _ => False) HR3.out (Turn.of HB8.out) (fun e => e) (fun e => e), HNn, HLn, Lib.hid (bel_trans HB57.out HB8.out)⟩
            case measure => rw [World.ranges.left_eq (ranges_keep (G := fun _ => False) HR3.out (Turn.of HB8.out) (fun e => e) (fun e => e)), ← HR2.out.left_eq]; exact Hmeas.out
  · have HE : Hid (cutCl C ⟨kd, dd, ⟨aw, at1, am⟩, ys, tk, nn, id, ws⟩ = (bad 1, C)) := Lib.hid (if_pos hr)
    have hd : decide (tmR ⟨aw, at1, am⟩) = false := by simpa using hr
    rw [hd] at HR
    clear hd hr
    go_upto_region 2 with (first
      | (go_at_call 73; refine HR.out.mono ?_; rintro e w2 ⟨rfl, hb2⟩; have HB2 := Lib.hid hb2; clear hb2)
      | fail)
    clear x2 x3 x4 HR
    have y0 : w2.cell? ⟨g + 1, 0, none⟩ = some (.int .i64 0) := (HY.out.next HB2.out).cell 0
    have f0 : w2.frozen? ⟨g + 1, 0, none⟩ = false := (HY.out.next HB2.out).free 0
    have y1 : w2.cell? ⟨g + 1, 1, none⟩ = some (.int .u32 0) := (HY.out.next HB2.out).cell 1
    have f1 : w2.frozen? ⟨g + 1, 1, none⟩ = false := (HY.out.next HB2.out).free 1
    have y2 : w2.cell? ⟨g + 1, 2, none⟩ = some (.int .i64 0) := (HY.out.next HB2.out).cell 2
    have f2 : w2.frozen? ⟨g + 1, 2, none⟩ = false := (HY.out.next HB2.out).free 2
    have y3 : w2.cell? ⟨g + 1, 3, none⟩ = some (.int .i64 0) := (HY.out.next HB2.out).cell 3
    have f3 : w2.frozen? ⟨g + 1, 3, none⟩ = false := (HY.out.next HB2.out).free 3
    have y4 : w2.cell? ⟨g + 1, 4, none⟩ = some (.int .u32 0) := (HY.out.next HB2.out).cell 4
    have f4 : w2.frozen? ⟨g + 1, 4, none⟩ = false := (HY.out.next HB2.out).free 4
    have y5 : w2.cell? ⟨g + 1, 5, none⟩ = some (.int .u32 0) := (HY.out.next HB2.out).cell 5
    have f5 : w2.frozen? ⟨g + 1, 5, none⟩ = false := (HY.out.next HB2.out).free 5
    go_wp2_with fail
    have hY := set6 (HY.out.next HB2.out) (.int .i64 1) (.int .u32 0) (.int .i64 0) (.int .i64 0) (.int .u32 0) (.int .u32 0)
    have z0 : ((((((w2.setCell ⟨g + 1, 0, none⟩ (.int .i64 1)).setCell ⟨g + 1, 1, none⟩ (.int .u32 0)).setCell ⟨g + 1, 2, none⟩ (.int .i64 0)).setCell ⟨g + 1, 3, none⟩ (.int .i64 0)).setCell ⟨g + 1, 4, none⟩ (.int .u32 0)).setCell ⟨g + 1, 5, none⟩ (.int .u32 0)).cell? ⟨g + 1, 0, none⟩ = some (.int .i64 1) := hY.cell 0
    have z1 : ((((((w2.setCell ⟨g + 1, 0, none⟩ (.int .i64 1)).setCell ⟨g + 1, 1, none⟩ (.int .u32 0)).setCell ⟨g + 1, 2, none⟩ (.int .i64 0)).setCell ⟨g + 1, 3, none⟩ (.int .i64 0)).setCell ⟨g + 1, 4, none⟩ (.int .u32 0)).setCell ⟨g + 1, 5, none⟩ (.int .u32 0)).cell? ⟨g + 1, 1, none⟩ = some (.int .u32 0) := hY.cell 1
    have z2 : ((((((w2.setCell ⟨g + 1, 0, none⟩ (.int .i64 1)).setCell ⟨g + 1, 1, none⟩ (.int .u32 0)).setCell ⟨g + 1, 2, none⟩ (.int .i64 0)).setCell ⟨g + 1, 3, none⟩ (.int .i64 0)).setCell ⟨g + 1, 4, none⟩ (.int .u32 0)).setCell ⟨g + 1, 5, none⟩ (.int .u32 0)).cell? ⟨g + 1, 2, none⟩ = some (.int .i64 0) := hY.cell 2
    have z3 : ((((((w2.setCell ⟨g + 1, 0, none⟩ (.int .i64 1)).setCell ⟨g + 1, 1, none⟩ (.int .u32 0)).setCell ⟨g + 1, 2, none⟩ (.int .i64 0)).setCell ⟨g + 1, 3, none⟩ (.int .i64 0)).setCell ⟨g + 1, 4, none⟩ (.int .u32 0)).setCell ⟨g + 1, 5, none⟩ (.int .u32 0)).cell? ⟨g + 1, 3, none⟩ = some (.int .i64 0) := hY.cell 3
    have z4 : ((((((w2.setCell ⟨g + 1, 0, none⟩ (.int .i64 1)).setCell ⟨g + 1, 1, none⟩ (.int .u32 0)).setCell ⟨g + 1, 2, none⟩ (.int .i64 0)).setCell ⟨g + 1, 3, none⟩ (.int .i64 0)).setCell ⟨g + 1, 4, none⟩ (.int .u32 0)).setCell ⟨g + 1, 5, none⟩ (.int .u32 0)).cell? ⟨g + 1, 4, none⟩ = some (.int .u32 0) := hY.cell 4
    have z5 : ((((((w2.setCell ⟨g + 1, 0, none⟩ (.int .i64 1)).setCell ⟨g + 1, 1, none⟩ (.int .u32 0)).setCell ⟨g + 1, 2, none⟩ (.int .i64 0)).setCell ⟨g + 1, 3, none⟩ (.int .i64 0)).setCell ⟨g + 1, 4, none⟩ (.int .u32 0)).setCell ⟨g + 1, 5, none⟩ (.int .u32 0)).cell? ⟨g + 1, 5, none⟩ = some (.int .u32 0) := hY.cell 5
    refine bodyPost_ret (v := .agg #[.int .i64 1, .int .u32 0, .int .i64 0, .int .i64 0, .int .u32 0, .int .u32 0]) (by simp [results, Tryz.results56, go_sem, z0, z1, z2, z3, z4, z5]) rfl ?_
    exact post_same H.out (by rw [HE.out]; rfl) (by rw [HE.out]) (bel6 hg (HBr.out _ HB2.out))
end Go.Proofs.YtbaflgddpciadaaGreat
