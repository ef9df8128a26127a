/- resolve (54). -/
import Derived.Test.YtbaflgddpciadaaGreatEF
set_option linter.unusedVariables false
set_option linter.unusedSimpArgs false
namespace Go.Proofs.YtbaflgddpciadaaGreat
open Go.RowKit Go.Kt Go.Ix Go.Sx Go.Cx
set_option maxRecDepth 100000
variable {F : Nat → Prop} {w w' : World} {c N : Nat} {C : Cl} {p : Cp}
def newD (m : Cmd) : Dd := if m.yes = true then ⟨m.deed, 2, m.at_, []⟩ else ⟨m.deed, 3, t0, []⟩
noncomputable def resZ (C : Cl) (m : Cmd) (ws : List Wp) : Rep × Cl := ((newD m).told, { C with deeds := putD C.deeds (newD m), M := if m.yes = true then layC C.hor m.at_ C.M ws else C.M })
theorem res_told {m : Cmd} {d : Dd} (h : findD C.deeds m.deed = some d) (hs : d.state ≠ 1) : resolveC C m = (d.told, C) := by unfold resolveC; simp only; rw [h]; simp only; rw [if_pos hs]
theorem res_zero {m : Cmd} {d : Dd} {ok : Bool} (hf : FoundD C.deeds m.deed ok d) (hs : ok = true → d.state = 1) (h0 : m.deed = 0) : resolveC C m = (bad 1, C) := by
  unfold resolveC; simp only
  rcases hf with ⟨rfl, h⟩ | ⟨rfl, h, -⟩
  · rw [h]; simp only; rw [if_neg (fun e => e (hs rfl)), if_pos h0]
  · rw [h]; simp only; rw [if_pos h0]
theorem res_none {m : Cmd} {d : Dd} {ok : Bool} (hf : FoundD C.deeds m.deed ok d) (ho : ok = false) (h0 : m.deed ≠ 0) (hy : m.yes = true) : resolveC C m = (bad 6, C) := by
  unfold resolveC; simp only
  rcases hf with ⟨rfl, h⟩ | ⟨rfl, h, -⟩
  · cases ho
  · rw [h]; simp only; rw [if_neg h0, if_pos hy]
theorem res_full {m : Cmd} {d : Dd} {ok : Bool} (hf : FoundD C.deeds m.deed ok d) (ho : ok = false) (h0 : m.deed ≠ 0) (hy : ¬ m.yes = true) (hl : 1024 ≤ C.deeds.length) : resolveC C m = (bad 4, C) := by
  unfold resolveC; simp only
  rcases hf with ⟨rfl, h⟩ | ⟨rfl, h, -⟩
  · cases ho
  · rw [h]; simp only; rw [if_neg h0, if_neg hy, if_pos hl]
theorem res_arg {m : Cmd} {d : Dd} {ok : Bool} (hf : FoundD C.deeds m.deed ok d) (hs : ok = true → d.state = 1) (h0 : m.deed ≠ 0) (hn : ¬ (ok = false ∧ m.yes = true)) (hb : m.yes = true ∧ (¬ (tmR m.at_ ∧ m.at_.mark = m.deed) ∨ m.at_.lt d.at_)) : resolveC C m = (bad 1, C) := by
  unfold resolveC; simp only
  rcases hf with ⟨rfl, h⟩ | ⟨rfl, h, -⟩
  · rw [h]; simp only; rw [if_neg (fun e => e (hs rfl)), if_neg h0, if_pos hb]
  · exact absurd ⟨rfl, hb.1⟩ hn
theorem res_fin {m : Cmd} {d : Dd} {ok : Bool} (hf : FoundD C.deeds m.deed ok d) (hs : ok = true → d.state = 1) (h0 : m.deed ≠ 0) (hn : ¬ (ok = false ∧ m.yes = true)) (hl : ¬ (ok = false ∧ 1024 ≤ C.deeds.length)) (hb : ¬ (m.yes = true ∧ (¬ (tmR m.at_ ∧ m.at_.mark = m.deed) ∨ m.at_.lt d.at_))) : resolveC C m = resZ C m d.ws := by
  unfold resolveC resZ newD; simp only
  rcases hf with ⟨rfl, h⟩ | ⟨rfl, h, rfl⟩
  · rw [h]; simp only; rw [if_neg (fun e => e (hs rfl)), if_neg h0, if_neg hb]
  · rw [h]; simp only; rw [if_neg h0, if_neg (fun e => hn ⟨rfl, e⟩), if_neg (fun e => hl ⟨rfl, e⟩), if_neg hb]
theorem held_new {D : List Dd} (hr : RiseD D) {d d' : Dd} {ok : Bool} (hf : FoundD D d'.id ok d) (hw : d'.ws = []) : (heldD (putD D d') : Int) = (heldD D : Int) - d.ws.length := by
  rcases hf with ⟨-, h⟩ | ⟨-, h, e⟩
  · have := putD_sum_old hr h (fun x => x.ws.length)
    rw [hw] at this
    unfold heldD
    simp only [List.length_nil] at this
    omega
  · have := putD_sum_new hr h (fun x => x.ws.length)
    rw [hw] at this
    rw [e]
    unfold heldD
    simp only [List.length_nil] at this ⊢
    omega
theorem lay_snoc {hor : Int} {t : Tm} {L : Its} {ws : List Wp} {k : Nat} {x : Wp} (hx : ws[k]? = some x) : layC hor t L (ws.take (k + 1)) = if hor ≤ x.t then (putP (layC hor t L (ws.take k)) x t).2 else layC hor t L (ws.take k) := by
  unfold layC
  rw [List.take_add_one, hx, Option.toList_some, List.foldl_append]
  rfl
theorem post_res {F7 : Nat → Prop} {N' : Nat} {fd' : Lit → Option Value} {z : Rep × Cl} {e : Ending} (h : CeAt F w c C N p) (he : e = .returned (replyV z.1)) (hst : St F7 w' p.s z.2.M N') (hF : ∀ x, F7 x → p.Fs x ∨ w.heap.size ≤ x) (ht : Turn (fun x => x = c ∨ x = p.dm ∨ p.Fs x) w w')
    (hD : DeedsAt (fun x => F x ∨ F7 x) w' p.dm z.2.deeds fd') (hb : Blk w' c (ccells z.2 p) 140) (hP : z.2.pins = C.pins) (hB : z.2.book = C.book) (hi : CInv z.2) : DoPost F w c p z N' e w' := by
  have hsub : ∀ x, (x = c ∨ x = p.dm ∨ p.Fs x) → F x := fun x hx => by
    rcases hx with rfl | rfl | hx
    · exact h.Fc
    · exact h.Fd
    · exact h.sub x hx
  have hG : ∀ x, (F x ∨ F7 x) → F x ∨ w.heap.size ≤ x := fun x hx => by
    rcases hx with hx | hx
    · exact .inl hx
    · exact (hF x hx).imp (h.sub x) id
  have hno : ∀ x, x < w.heap.size → ¬ p.Fs x → ¬ F7 x := fun x hl hn h7 => by
    rcases hF x h7 with h1 | h1
    · exact hn h1
    · omega
  refine ⟨he, fun x => F x ∨ F7 x, { p with Fs := F7, fd := fd' }, ⟨hb, hst, fun x hx => .inr hx, .inl h.Fc, .inl h.Fd, .inl h.Fp, fun b hb => .inl (h.Fb b hb), hno _ h.blk.lt h.nc, hno _ (h.lt _ h.Fd) h.nd, hno _ (h.lt _ h.Fp) h.np, fun b hb => hno _ (h.lt _ (h.Fb b hb)) (h.nb b hb), h.dp, hD, ?_, ?_, by rw [hB]; exact h.told, hi, fun x hx => ?_⟩, fun x hx => .inl hx, hG, fun x hx => ?_, ht.mono (fun x hx => hx.elim .inl (fun h => h.elim (fun h => .inr (.inl h)) (fun h => .inr (.inr (.inr (.inr h))))))⟩
  · rw [hP]
    refine h.pins.keep ht (fun e => ?_)
    rcases e with e | e | e
    · exact h.cp e.symm
    · exact h.dp e.symm
    · exact h.np e
  · refine h.book.keep ht (fun b hb e => ?_) hsub hG
    rcases e with e | e | e
    · exact h.cb b hb e
    · exact h.bd b hb e
    · exact h.nb b hb e
  · rcases hx with hx | hx
    · exact Nat.lt_of_lt_of_le (h.lt x hx) ht.size
    · exact hst.lt x hx
  · rcases hx with hx | hx | hx | hx | hx
    · exact .inl (.inl hx)
    · exact .inl (.inr (.inl hx))
    · exact .inl (.inr (.inr (.inl hx)))
    · exact .inl (.inr (.inr (.inr (.inl hx))))
    · exact (hF x hx).imp (fun h => .inr (.inr (.inr (.inr h)))) id
theorem res_end {w9 w11 w13 : World} {F7 : Nat → Prop} {N' n g : Nat} {x : Int} {d' d : Dd} {ok : Bool} {M' : Its} {d0 d1 d2 d3 d4 d5 : Value} {z : Rep × Cl} {e : Ending} (h : CeAt F w c C N p) (hg : w.heap.size ≤ g) (hf : FoundD C.deeds d'.id ok d) (hw : d'.ws = []) (hst : St F7 w9 p.s M' N') (hF7 : ∀ y, F7 y → p.Fs y ∨ w.heap.size ≤ y) (hgF : ¬ F7 (g + 1))
    (ht9 : Turn (fun y => y = c ∨ p.Fs y) w w9) (hc9 : Blk w9 c ((ccells C p).setIfInBounds 3 (.int .i64 x)) 140) (hx : x = (heldD C.deeds : Int) - d.ws.length) (hm : MapIs Tryz.prog 24 w11 p.dm (upd p.fd (litD d'.id) (dval d' (.slice none 0 0))) n) (hn : n = if (p.fd (litD d'.id)).isSome then C.deeds.length else C.deeds.length + 1)
    (hg11 : w9.drew.grownBy w11 (some p.dm)) (h13 : Below w11.heap.size w11 w13) (he : e = .returned (replyV z.1)) (hz : z.2 = { C with deeds := putD C.deeds d', M := M' }) (hi : CInv z.2) : DoPost F w c p z N' e (((((((w13.setCell ⟨g + 1, 0, none⟩ d0).setCell ⟨g + 1, 1, none⟩ d1).setCell ⟨g + 1, 2, none⟩ d2).setCell ⟨g + 1, 3, none⟩ d3).setCell ⟨g + 1, 4, none⟩ d4).setCell ⟨g + 1, 5, none⟩ d5)) := by
  subst hx
  have hcl := h.blk.lt
  have hdl := h.lt _ h.Fd
  have t11 : Turn (fun y => y = c ∨ y = p.dm ∨ p.Fs y) w w11 := ((ht9.next (bel_drew (bel_refl w9))).mono (fun y hy => hy.imp id .inr)).trans (Turn.grown (F := fun y => y = p.dm) hg11 (fun b e => by injection e with e; exact e.symm)) (fun y hy => .inl (.inr (.inl hy)))
  have tZ := turn6 (g := g) hg (t11.next h13) (d0 := d0) (d1 := d1) (d2 := d2) (d3 := d3) (d4 := d4) (d5 := d5)
  have hsub : ∀ y, (y = c ∨ y = p.dm ∨ p.Fs y) → F y := fun y hy => by
    rcases hy with rfl | rfl | hy
    · exact h.Fc
    · exact h.Fd
    · exact h.sub y hy
  have k11 : Turn (fun y => y = g + 1) w11 (((((((w13.setCell ⟨g + 1, 0, none⟩ d0).setCell ⟨g + 1, 1, none⟩ d1).setCell ⟨g + 1, 2, none⟩ d2).setCell ⟨g + 1, 3, none⟩ d3).setCell ⟨g + 1, 4, none⟩ d4).setCell ⟨g + 1, 5, none⟩ d5)) := (Turn.of (F := fun y => y = g + 1) h13).trans (own6 w13 g) (fun y hy => .inl hy)
  have k9 : Turn (fun y => y = p.dm ∨ y = g + 1) w9 (((((((w13.setCell ⟨g + 1, 0, none⟩ d0).setCell ⟨g + 1, 1, none⟩ d1).setCell ⟨g + 1, 2, none⟩ d2).setCell ⟨g + 1, 3, none⟩ d3).setCell ⟨g + 1, 4, none⟩ d4).setCell ⟨g + 1, 5, none⟩ d5)) := ((Turn.of (bel_drew (bel_refl w9))).trans (Turn.grown (F := fun y => y = p.dm ∨ y = g + 1) hg11 (fun b e => by injection e with e; exact .inl e.symm)) (fun y hy => .inl hy)).trans k11 (fun y hy => .inl (.inr hy))
  have hG : ∀ y, (F y ∨ F7 y) → F y ∨ w.heap.size ≤ y := fun y hy => by
    rcases hy with hy | hy
    · exact .inl hy
    · exact (hF7 y hy).imp (h.sub y) id
  have hst' : St F7 (((((((w13.setCell ⟨g + 1, 0, none⟩ d0).setCell ⟨g + 1, 1, none⟩ d1).setCell ⟨g + 1, 2, none⟩ d2).setCell ⟨g + 1, 3, none⟩ d3).setCell ⟨g + 1, 4, none⟩ d4).setCell ⟨g + 1, 5, none⟩ d5)) p.s M' N' := hst.keep k9 (fun y hy e => by
    rcases e with rfl | rfl
    · rcases hF7 _ hy with h1 | h1
      · exact h.nd h1
      · omega
    · exact hgF hy)
  have hD : DeedsAt (fun y => F y ∨ F7 y) (((((((w13.setCell ⟨g + 1, 0, none⟩ d0).setCell ⟨g + 1, 1, none⟩ d1).setCell ⟨g + 1, 2, none⟩ d2).setCell ⟨g + 1, 3, none⟩ d3).setCell ⟨g + 1, 4, none⟩ d4).setCell ⟨g + 1, 5, none⟩ d5)) p.dm (putD C.deeds d') (upd p.fd (litD d'.id) (dval d' (.slice none 0 0))) := DeedsAt.put2 h.deeds h.inv.rise (map_keep k11 hm (fun e => by omega)) hn (by rw [hw]; exact RdB.nil _ _) (tZ.mono hsub) hG
  have hcZ := blk_keep k9 hc9 (fun e => by
    rcases e with e | e
    · exact h.cd e
    · omega)
  refine post_res (F7 := F7) h he (by rw [hz]; exact hst') hF7 tZ (by rw [hz]; exact hD) ?_ (by rw [hz]) (by rw [hz]) hi
  rw [hz]
  have hh := held_new h.inv.rise hf hw
  simpa [ccells, hh] using hcZ
theorem turn5 {H : Nat → Prop} {W : World} {g : Nat} (hg : w.heap.size ≤ g) (h : Turn H w W) {d0 d1 d2 d3 d4 : Value} : Turn H w (((((W.setCell ⟨g, 0, none⟩ d0).setCell ⟨g, 1, none⟩ d1).setCell ⟨g, 2, none⟩ d2).setCell ⟨g, 3, none⟩ d3).setCell ⟨g, 4, none⟩ d4) := by
  have h1 : Turn (fun x => x = g) W (((((W.setCell ⟨g, 0, none⟩ d0).setCell ⟨g, 1, none⟩ d1).setCell ⟨g, 2, none⟩ d2).setCell ⟨g, 3, none⟩ d3).setCell ⟨g, 4, none⟩ d4) :=
    (((((Turn.refl (fun x => x = g) W).set (a := ⟨g, 0, none⟩) rfl _).set (a := ⟨g, 1, none⟩) rfl _).set (a := ⟨g, 2, none⟩) rfl _).set (a := ⟨g, 3, none⟩) rfl _).set (a := ⟨g, 4, none⟩) rfl _
  exact h.trans h1 (fun x hx => .inr (by omega))
theorem own5 (W : World) (g : Nat) {d0 d1 d2 d3 d4 : Value} : Turn (fun x => x = g) W (((((W.setCell ⟨g, 0, none⟩ d0).setCell ⟨g, 1, none⟩ d1).setCell ⟨g, 2, none⟩ d2).setCell ⟨g, 3, none⟩ d3).setCell ⟨g, 4, none⟩ d4) :=
  (((((Turn.refl (fun x => x = g) W).set (a := ⟨g, 0, none⟩) rfl _).set (a := ⟨g, 1, none⟩) rfl _).set (a := ⟨g, 2, none⟩) rfl _).set (a := ⟨g, 3, none⟩) rfl _).set (a := ⟨g, 4, none⟩) rfl _
theorem put_from {G : Nat → Prop} {s N : Nat} {L : List It} (m : Wr) (t : Tm) (w : World) (h : St G w s L N) (hN : N ≤ 1000000) (hv : RdP w m.sv m.st) (hf : Fit m.st) (hx : m.x.size ≤ maxLen) (W : World) (hW : Below w.heap.size w W) :
    Calls Tryz.prog 131 #[.pointer (some ⟨s, 0, none⟩), wagg m, t.val] W fun e w' => e = .returned (.int .i64 (putS L m t).1) ∧ ∃ F', St F' w' s (putS L m t).2 (N + 1) ∧ (∀ x, F' x → G x ∨ w.heap.size ≤ x) ∧ Turn G w w' :=
  (put_any m t W (h.next hW) hN (hv.below hW) hf hx).mono fun e w' ⟨e1, F', h1, h2, h3⟩ => ⟨e1, F', h1, fun x hx => (h2 x hx).imp id (Nat.le_trans hW.size), (Turn.of (F := G) hW).trans h3 (fun x hx => .inl hx)⟩
set_option maxHeartbeats 16000000 in
theorem resolvec_any (m : Cmd) (v : Value) (T : List Wr) (w : World) (h : CeAt F w c C N p) (hm : CmdR w m v T) (hi : CInv (resolveC C m).2) (hN : N + 64 ≤ 1000000) :
    Calls Tryz.prog 54 #[.pointer (some ⟨c, 0, none⟩), cmdV m v] w fun e w' => DoPost F w c p (resolveC C m) (N + 64) e w' := by
  obtain ⟨kd, dd, ⟨aw, at1, am⟩, ys, tk, nn, id, ws⟩ := m
  obtain ⟨va, vc, hve, -⟩ := hm.rd.open
  subst hve
  have H := Lib.hid h
  have HM := Lib.hid hm
  have HX := Lib.hid ((Blk.new w #[.int .i64 kd, .int .u32 dd, .int .i64 aw, .int .u32 at1, .int .u32 am, .bool ys, .string tk, .int .i64 nn, .int .i64 id, .slice va T.length vc] 50).next (below_alloc _ (.cells #[.int .i64 0, .int .u32 0, .int .i64 0, .int .i64 0, .int .u32 0, .int .u32 0] 46)))
  have HY := Lib.hid (Blk.new (w.alloc (.cells #[.int .i64 kd, .int .u32 dd, .int .i64 aw, .int .u32 at1, .int .u32 am, .bool ys, .string tk, .int .i64 nn, .int .i64 id, .slice va T.length vc] 50)) #[.int .i64 0, .int .u32 0, .int .i64 0, .int .i64 0, .int .u32 0, .int .u32 0] 46)
  have HB1 := Lib.hid (bel_alloc (o := .cells #[.int .i64 0, .int .u32 0, .int .i64 0, .int .i64 0, .int .u32 0, .int .u32 0] 46) (below_alloc w (.cells #[.int .i64 kd, .int .u32 dd, .int .i64 aw, .int .u32 at1, .int .u32 am, .bool ys, .string tk, .int .i64 nn, .int .i64 id, .slice va T.length vc] 50)))
  rw [World.size_alloc] at HY
  unfold cmdV
  simp only
  clear h hm
  go_enter Tryz.func54, Tryz.ntmps54
  go_upto_region 1 with fail
  generalize (w.alloc (.cells #[.int .i64 kd, .int .u32 dd, .int .i64 aw, .int .u32 at1, .int .u32 am, .bool ys, .string tk, .int .i64 nn, .int .i64 id, .slice va T.length vc] 50)).alloc (.cells #[.int .i64 0, .int .u32 0, .int .i64 0, .int .i64 0, .int .u32 0, .int .u32 0] 46) = w1 at HX HY HB1 ⊢
  have HBr : Hid (∀ W, Below w1.heap.size w1 W → Below w.heap.size w W) := Lib.hid (fun W hW => bel_trans HB1.out hW)
  have HG : Hid (w.heap.size < w1.heap.size) := Lib.hid HX.out.lt
  generalize hg : w.heap.size = g at HX HY ⊢
  have HYf : Hid (∀ W, Below w1.heap.size w1 W → W.cell? ⟨g + 1, 0, none⟩ = some (.int .i64 0) ∧ W.frozen? ⟨g + 1, 0, none⟩ = false ∧ W.cell? ⟨g + 1, 1, none⟩ = some (.int .u32 0) ∧ W.frozen? ⟨g + 1, 1, none⟩ = false ∧ W.cell? ⟨g + 1, 2, none⟩ = some (.int .i64 0) ∧ W.frozen? ⟨g + 1, 2, none⟩ = false ∧ W.cell? ⟨g + 1, 3, none⟩ = some (.int .i64 0) ∧ W.frozen? ⟨g + 1, 3, none⟩ = false ∧ W.cell? ⟨g + 1, 4, none⟩ = some (.int .u32 0) ∧ W.frozen? ⟨g + 1, 4, none⟩ = false ∧ W.cell? ⟨g + 1, 5, none⟩ = some (.int .u32 0) ∧ W.frozen? ⟨g + 1, 5, none⟩ = false) := Lib.hid (fun W hW => ⟨(HY.out.next hW).cell 0, (HY.out.next hW).free 0, (HY.out.next hW).cell 1, (HY.out.next hW).free 1, (HY.out.next hW).cell 2, (HY.out.next hW).free 2, (HY.out.next hW).cell 3, (HY.out.next hW).free 3, (HY.out.next hW).cell 4, (HY.out.next hW).free 4, (HY.out.next hW).cell 5, (HY.out.next hW).free 5⟩)
  have H1 := Lib.hid (H.out.next (HBr.out _ (bel_refl w1)))
  have hddr : 0 ≤ dd ∧ dd ≤ 4294967295 := ⟨HM.out.ok.1, HM.out.ok.2.1⟩
  obtain ⟨ok, d, sl, hf, hsl, hfd, hlk⟩ := H1.out.deeds.lookup H1.out.inv.rise hddr
  have HF := Lib.hid hf
  have HSl := Lib.hid hsl
  have HFd := Lib.hid hfd
  have HId : Hid (d.id = dd) := Lib.hid hf.id
  obtain ⟨di, ds, ⟨dw, dt, dm⟩, dws⟩ := d
  obtain ⟨sa, sc, rfl⟩ := hsl.open
  obtain ⟨ln, hln⟩ : ∃ n, dws.length = n := ⟨_, rfl⟩
  have HLn := Lib.hid hln
  unfold dval at hlk
  simp only [hln] at hlk
  have hlk1 : (Instr.lookup 136 (.map (some p.dm)) (.int .u32 dd) true).run Tryz.prog ((w1.alloc (.cells #[.int .i64 0, .int .i64 0, .int .u32 0, .int .u32 0, .slice none 0 0] 181)).drew) = .ok (.tuple #[.agg #[.int .i64 ds, .int .i64 dw, .int .u32 dt, .int .u32 dm, .slice sa ln sc], .bool ok]) ((w1.alloc (.cells #[.int .i64 0, .int .i64 0, .int .u32 0, .int .u32 0, .slice none 0 0] 181)).drew) := hlk _ (bel_drew (below_alloc w1 _))
  have hlk2 : (Instr.lookup 136 (.map (some p.dm)) (.int .u32 dd) true).run Tryz.prog w1.drew = .ok (.tuple #[.agg #[.int .i64 ds, .int .i64 dw, .int .u32 dt, .int .u32 dm, .slice sa ln sc], .bool ok]) w1.drew := hlk _ (bel_drew (bel_refl w1))
  clear hlk hf hsl hfd hln
  have c2 : w1.cell? ⟨c, 2, none⟩ = some (.map (some p.dm)) := H1.out.blk.cell 2
  have hgl : g < w1.heap.size := HX.out.lt
  have hcl : c < w1.heap.size := H1.out.blk.lt
  have x1 : w1.cell? ⟨g, 1, none⟩ = some (.int .u32 dd) := (HX.out.next (bel_refl w1)).cell 1
  go_cut [5, 6] (fun pv ov wd => pv = .pointer (some ⟨w1.heap.size, 0, none⟩) ∧ ov = .bool ok ∧ Hid (Blk wd w1.heap.size #[.int .i64 ds, .int .i64 dw, .int .u32 dt, .int .u32 dm, .slice sa ln sc] 181 ∧ Below w1.heap.size w1 wd))
  case first =>
    go_region
    all_goals go_wp2_with fail
    all_goals go_meet
    all_goals exact ⟨rfl, rfl, Lib.hid ⟨by first | exact new_drew _ _ _ | exact drew_new _ _ _ | exact Blk.new _ _ _, by repeat (first | exact bel_refl _ | apply bel_alloc | apply bel_drew | apply bel_drewN)⟩⟩
  case rest =>
    obtain ⟨rfl, rfl, HQ⟩ := hcut
    obtain ⟨w2, rfl⟩ : ∃ w2, w2 = wc := ⟨_, rfl⟩
    have HBc := Lib.hid HQ.out.2
    have HQb := Lib.hid HQ.out.1
    clear HQ
    have hg5l : g + 1 < w1.heap.size := HY.out.lt
    generalize hg5 : w1.heap.size = g5 at HQb hg5l ⊢
    have HX2 := Lib.hid (HX.out.next HBc.out)
    clear hlk1 hlk2 c2 x1 hgl hcl
    by_cases hA : ok = true ∧ ds ≠ 1
    · obtain ⟨rfl, hs⟩ := hA
      have HE : Hid (resolveC C ⟨kd, dd, ⟨aw, at1, am⟩, ys, tk, nn, id, ws⟩ = (⟨0, di, ds, ⟨dw, dt, dm⟩⟩, C)) := Lib.hid (by
        rcases HF.out with ⟨-, h⟩ | ⟨h, -⟩
        · exact res_told (m := ⟨kd, dd, ⟨aw, at1, am⟩, ys, tk, nn, id, ws⟩) h hs
        · cases h)
      obtain rfl : di = dd := HId.out
      have hsb : (ds == 1) = false := bne_of hs
      have HTl := Lib.hid (fun W => dtold_any ⟨di, ds, ⟨dw, dt, dm⟩, dws⟩ sa ln sc W)
      unfold replyV replyA dval Dd.told at HTl
      simp only at HTl
      clear hi hs
      have x1 : w2.cell? ⟨g, 1, none⟩ = some (.int .u32 di) := HX2.out.cell 1
      have v0 : w2.cell? ⟨g5, 0, none⟩ = some (.int .i64 ds) := HQb.out.cell 0
      have v1 : w2.cell? ⟨g5, 1, none⟩ = some (.int .i64 dw) := HQb.out.cell 1
      have v2 : w2.cell? ⟨g5, 2, none⟩ = some (.int .u32 dt) := HQb.out.cell 2
      have v3 : w2.cell? ⟨g5, 3, none⟩ = some (.int .u32 dm) := HQb.out.cell 3
      have v4 : w2.cell? ⟨g5, 4, none⟩ = some (.slice sa ln sc) := HQb.out.cell 4
      go_wp2_with (first
        | (go_at_call 89; refine (HTl.out _).mono ?_; rintro e w8 ⟨rfl, hb8⟩; have HB8 := Lib.hid (bel_trans HBc.out hb8); clear hb8; obtain ⟨y0, f0, y1, f1, y2, f2, y3, f3, y4, f4, y5, f5⟩ := HYf.out w8 HB8.out)
        | fail)
      have hY := set6 (HY.out.next HB8.out) (.int .i64 0) (.int .u32 di) (.int .i64 ds) (.int .i64 dw) (.int .u32 dt) (.int .u32 dm)
      have z0 : ((((((w8.setCell ⟨g + 1, 0, none⟩ (.int .i64 0)).setCell ⟨g + 1, 1, none⟩ (.int .u32 di)).setCell ⟨g + 1, 2, none⟩ (.int .i64 ds)).setCell ⟨g + 1, 3, none⟩ (.int .i64 dw)).setCell ⟨g + 1, 4, none⟩ (.int .u32 dt)).setCell ⟨g + 1, 5, none⟩ (.int .u32 dm)).cell? ⟨g + 1, 0, none⟩ = some (.int .i64 0) := hY.cell 0
      have z1 : ((((((w8.setCell ⟨g + 1, 0, none⟩ (.int .i64 0)).setCell ⟨g + 1, 1, none⟩ (.int .u32 di)).setCell ⟨g + 1, 2, none⟩ (.int .i64 ds)).setCell ⟨g + 1, 3, none⟩ (.int .i64 dw)).setCell ⟨g + 1, 4, none⟩ (.int .u32 dt)).setCell ⟨g + 1, 5, none⟩ (.int .u32 dm)).cell? ⟨g + 1, 1, none⟩ = some (.int .u32 di) := hY.cell 1
      have z2 : ((((((w8.setCell ⟨g + 1, 0, none⟩ (.int .i64 0)).setCell ⟨g + 1, 1, none⟩ (.int .u32 di)).setCell ⟨g + 1, 2, none⟩ (.int .i64 ds)).setCell ⟨g + 1, 3, none⟩ (.int .i64 dw)).setCell ⟨g + 1, 4, none⟩ (.int .u32 dt)).setCell ⟨g + 1, 5, none⟩ (.int .u32 dm)).cell? ⟨g + 1, 2, none⟩ = some (.int .i64 ds) := hY.cell 2
      have z3 : ((((((w8.setCell ⟨g + 1, 0, none⟩ (.int .i64 0)).setCell ⟨g + 1, 1, none⟩ (.int .u32 di)).setCell ⟨g + 1, 2, none⟩ (.int .i64 ds)).setCell ⟨g + 1, 3, none⟩ (.int .i64 dw)).setCell ⟨g + 1, 4, none⟩ (.int .u32 dt)).setCell ⟨g + 1, 5, none⟩ (.int .u32 dm)).cell? ⟨g + 1, 3, none⟩ = some (.int .i64 dw) := hY.cell 3
      have z4 : ((((((w8.setCell ⟨g + 1, 0, none⟩ (.int .i64 0)).setCell ⟨g + 1, 1, none⟩ (.int .u32 di)).setCell ⟨g + 1, 2, none⟩ (.int .i64 ds)).setCell ⟨g + 1, 3, none⟩ (.int .i64 dw)).setCell ⟨g + 1, 4, none⟩ (.int .u32 dt)).setCell ⟨g + 1, 5, none⟩ (.int .u32 dm)).cell? ⟨g + 1, 4, none⟩ = some (.int .u32 dt) := hY.cell 4
      have z5 : ((((((w8.setCell ⟨g + 1, 0, none⟩ (.int .i64 0)).setCell ⟨g + 1, 1, none⟩ (.int .u32 di)).setCell ⟨g + 1, 2, none⟩ (.int .i64 ds)).setCell ⟨g + 1, 3, none⟩ (.int .i64 dw)).setCell ⟨g + 1, 4, none⟩ (.int .u32 dt)).setCell ⟨g + 1, 5, none⟩ (.int .u32 dm)).cell? ⟨g + 1, 5, none⟩ = some (.int .u32 dm) := hY.cell 5
      refine bodyPost_ret (v := .agg #[.int .i64 0, .int .u32 di, .int .i64 ds, .int .i64 dw, .int .u32 dt, .int .u32 dm]) (by simp [results, Tryz.results54, go_sem, z0, z1, z2, z3, z4, z5]) rfl ?_
      exact post_same (H.out.more (Nat.le_add_right N 64)) (by rw [HE.out]; rfl) (by rw [HE.out]) (bel6 hg (HBr.out _ HB8.out))
    have HS : Hid (ok = true → ds = 1) := Lib.hid (fun h => Classical.byContradiction fun e => hA ⟨h, e⟩)
    clear hA
    go_upto_region 2 with fail
    go_cut [19] (fun b wd => b = .bool false ∧ wd = w2)
    case first =>
      cases ok with
      | true =>
        obtain rfl : ds = 1 := HS.out rfl
        have v0 : w2.cell? ⟨g5, 0, none⟩ = some (.int .i64 1) := HQb.out.cell 0
        go_wp2_with fail
        go_meet
        case rel => exact ⟨rfl, rfl⟩
      | false =>
        go_wp2_with fail
        go_meet
        case rel => exact ⟨rfl, rfl⟩
    case rest =>
      obtain ⟨rfl, rfl⟩ := hcut
      try (obtain ⟨w2, rfl⟩ : ∃ w2, w2 = wc := ⟨_, rfl⟩)
      have HFd2 : Hid (FoundD C.deeds dd ok ⟨di, ds, ⟨dw, dt, dm⟩, dws⟩ ∧ (ok = true → (⟨di, ds, ⟨dw, dt, dm⟩, dws⟩ : Dd).state = 1)) := Lib.hid ⟨HF.out, HS.out⟩
      have x1 : w2.cell? ⟨g, 1, none⟩ = some (.int .u32 dd) := HX2.out.cell 1
      by_cases h0 : dd = 0
      · have HE : Hid (resolveC C ⟨kd, dd, ⟨aw, at1, am⟩, ys, tk, nn, id, ws⟩ = (bad 1, C)) := Lib.hid (res_zero (m := ⟨kd, dd, ⟨aw, at1, am⟩, ys, tk, nn, id, ws⟩) HFd2.out.1 HFd2.out.2 h0)
        have h0b : (dd == 0) = true := by rw [h0]; rfl
        clear hi h0
        go_upto_region 5 with fail
        clear x1 h0b
        have y0 : w2.cell? ⟨g + 1, 0, none⟩ = some (.int .i64 0) := (HY.out.next HBc.out).cell 0
        have f0 : w2.frozen? ⟨g + 1, 0, none⟩ = false := (HY.out.next HBc.out).free 0
        have y1 : w2.cell? ⟨g + 1, 1, none⟩ = some (.int .u32 0) := (HY.out.next HBc.out).cell 1
        have f1 : w2.frozen? ⟨g + 1, 1, none⟩ = false := (HY.out.next HBc.out).free 1
        have y2 : w2.cell? ⟨g + 1, 2, none⟩ = some (.int .i64 0) := (HY.out.next HBc.out).cell 2
        have f2 : w2.frozen? ⟨g + 1, 2, none⟩ = false := (HY.out.next HBc.out).free 2
        have y3 : w2.cell? ⟨g + 1, 3, none⟩ = some (.int .i64 0) := (HY.out.next HBc.out).cell 3
        have f3 : w2.frozen? ⟨g + 1, 3, none⟩ = false := (HY.out.next HBc.out).free 3
        have y4 : w2.cell? ⟨g + 1, 4, none⟩ = some (.int .u32 0) := (HY.out.next HBc.out).cell 4
        have f4 : w2.frozen? ⟨g + 1, 4, none⟩ = false := (HY.out.next HBc.out).free 4
        have y5 : w2.cell? ⟨g + 1, 5, none⟩ = some (.int .u32 0) := (HY.out.next HBc.out).cell 5
        have f5 : w2.frozen? ⟨g + 1, 5, none⟩ = false := (HY.out.next HBc.out).free 5
        go_wp2_with fail
        have hY := set6 (HY.out.next HBc.out) (.int .i64 1) (.int .u32 0) (.int .i64 0) (.int .i64 0) (.int .u32 0) (.int .u32 0)
        have z0 : ((((((w2.setCell ⟨g + 1, 0, none⟩ (.int .i64 1)).setCell ⟨g + 1, 1, none⟩ (.int .u32 0)).setCell ⟨g + 1, 2, none⟩ (.int .i64 0)).setCell ⟨g + 1, 3, none⟩ (.int .i64 0)).setCell ⟨g + 1, 4, none⟩ (.int .u32 0)).setCell ⟨g + 1, 5, none⟩ (.int .u32 0)).cell? ⟨g + 1, 0, none⟩ = some (.int .i64 1) := hY.cell 0
        have z1 : ((((((w2.setCell ⟨g + 1, 0, none⟩ (.int .i64 1)).setCell ⟨g + 1, 1, none⟩ (.int .u32 0)).setCell ⟨g + 1, 2, none⟩ (.int .i64 0)).setCell ⟨g + 1, 3, none⟩ (.int .i64 0)).setCell ⟨g + 1, 4, none⟩ (.int .u32 0)).setCell ⟨g + 1, 5, none⟩ (.int .u32 0)).cell? ⟨g + 1, 1, none⟩ = some (.int .u32 0) := hY.cell 1
        have z2 : ((((((w2.setCell ⟨g + 1, 0, none⟩ (.int .i64 1)).setCell ⟨g + 1, 1, none⟩ (.int .u32 0)).setCell ⟨g + 1, 2, none⟩ (.int .i64 0)).setCell ⟨g + 1, 3, none⟩ (.int .i64 0)).setCell ⟨g + 1, 4, none⟩ (.int .u32 0)).setCell ⟨g + 1, 5, none⟩ (.int .u32 0)).cell? ⟨g + 1, 2, none⟩ = some (.int .i64 0) := hY.cell 2
        have z3 : ((((((w2.setCell ⟨g + 1, 0, none⟩ (.int .i64 1)).setCell ⟨g + 1, 1, none⟩ (.int .u32 0)).setCell ⟨g + 1, 2, none⟩ (.int .i64 0)).setCell ⟨g + 1, 3, none⟩ (.int .i64 0)).setCell ⟨g + 1, 4, none⟩ (.int .u32 0)).setCell ⟨g + 1, 5, none⟩ (.int .u32 0)).cell? ⟨g + 1, 3, none⟩ = some (.int .i64 0) := hY.cell 3
        have z4 : ((((((w2.setCell ⟨g + 1, 0, none⟩ (.int .i64 1)).setCell ⟨g + 1, 1, none⟩ (.int .u32 0)).setCell ⟨g + 1, 2, none⟩ (.int .i64 0)).setCell ⟨g + 1, 3, none⟩ (.int .i64 0)).setCell ⟨g + 1, 4, none⟩ (.int .u32 0)).setCell ⟨g + 1, 5, none⟩ (.int .u32 0)).cell? ⟨g + 1, 4, none⟩ = some (.int .u32 0) := hY.cell 4
        have z5 : ((((((w2.setCell ⟨g + 1, 0, none⟩ (.int .i64 1)).setCell ⟨g + 1, 1, none⟩ (.int .u32 0)).setCell ⟨g + 1, 2, none⟩ (.int .i64 0)).setCell ⟨g + 1, 3, none⟩ (.int .i64 0)).setCell ⟨g + 1, 4, none⟩ (.int .u32 0)).setCell ⟨g + 1, 5, none⟩ (.int .u32 0)).cell? ⟨g + 1, 5, none⟩ = some (.int .u32 0) := hY.cell 5
        refine bodyPost_ret (v := .agg #[.int .i64 1, .int .u32 0, .int .i64 0, .int .i64 0, .int .u32 0, .int .u32 0]) (by simp [results, Tryz.results54, go_sem, z0, z1, z2, z3, z4, z5]) rfl ?_
        exact post_same (H.out.more (Nat.le_add_right N 64)) (by rw [HE.out]; rfl) (by rw [HE.out]) (bel6 hg (HBr.out _ HBc.out))
      have h0b : (dd == 0) = false := bne_of h0
      have H0 := Lib.hid h0
      clear h0
      go_upto_region 6 with fail
      clear x1
      have x5 : w2.cell? ⟨g, 5, none⟩ = some (.bool ys) := HX2.out.cell 5
      by_cases hB : ok = false ∧ ys = true
      · have HE : Hid (resolveC C ⟨kd, dd, ⟨aw, at1, am⟩, ys, tk, nn, id, ws⟩ = (bad 6, C)) := Lib.hid (res_none (m := ⟨kd, dd, ⟨aw, at1, am⟩, ys, tk, nn, id, ws⟩) HFd2.out.1 hB.1 H0.out hB.2)
        obtain ⟨rfl, rfl⟩ := hB
        clear hi
        go_upto_region 7 with fail
        clear x5
        have y0 : w2.cell? ⟨g + 1, 0, none⟩ = some (.int .i64 0) := (HY.out.next HBc.out).cell 0
        have f0 : w2.frozen? ⟨g + 1, 0, none⟩ = false := (HY.out.next HBc.out).free 0
        have y1 : w2.cell? ⟨g + 1, 1, none⟩ = some (.int .u32 0) := (HY.out.next HBc.out).cell 1
        have f1 : w2.frozen? ⟨g + 1, 1, none⟩ = false := (HY.out.next HBc.out).free 1
        have y2 : w2.cell? ⟨g + 1, 2, none⟩ = some (.int .i64 0) := (HY.out.next HBc.out).cell 2
        have f2 : w2.frozen? ⟨g + 1, 2, none⟩ = false := (HY.out.next HBc.out).free 2
        have y3 : w2.cell? ⟨g + 1, 3, none⟩ = some (.int .i64 0) := (HY.out.next HBc.out).cell 3
        have f3 : w2.frozen? ⟨g + 1, 3, none⟩ = false := (HY.out.next HBc.out).free 3
        have y4 : w2.cell? ⟨g + 1, 4, none⟩ = some (.int .u32 0) := (HY.out.next HBc.out).cell 4
        have f4 : w2.frozen? ⟨g + 1, 4, none⟩ = false := (HY.out.next HBc.out).free 4
        have y5 : w2.cell? ⟨g + 1, 5, none⟩ = some (.int .u32 0) := (HY.out.next HBc.out).cell 5
        have f5 : w2.frozen? ⟨g + 1, 5, none⟩ = false := (HY.out.next HBc.out).free 5
        go_wp2_with fail
        have hY := set6 (HY.out.next HBc.out) (.int .i64 6) (.int .u32 0) (.int .i64 0) (.int .i64 0) (.int .u32 0) (.int .u32 0)
        have z0 : ((((((w2.setCell ⟨g + 1, 0, none⟩ (.int .i64 6)).setCell ⟨g + 1, 1, none⟩ (.int .u32 0)).setCell ⟨g + 1, 2, none⟩ (.int .i64 0)).setCell ⟨g + 1, 3, none⟩ (.int .i64 0)).setCell ⟨g + 1, 4, none⟩ (.int .u32 0)).setCell ⟨g + 1, 5, none⟩ (.int .u32 0)).cell? ⟨g + 1, 0, none⟩ = some (.int .i64 6) := hY.cell 0
        have z1 : ((((((w2.setCell ⟨g + 1, 0, none⟩ (.int .i64 6)).setCell ⟨g + 1, 1, none⟩ (.int .u32 0)).setCell ⟨g + 1, 2, none⟩ (.int .i64 0)).setCell ⟨g + 1, 3, none⟩ (.int .i64 0)).setCell ⟨g + 1, 4, none⟩ (.int .u32 0)).setCell ⟨g + 1, 5, none⟩ (.int .u32 0)).cell? ⟨g + 1, 1, none⟩ = some (.int .u32 0) := hY.cell 1
        have z2 : ((((((w2.setCell ⟨g + 1, 0, none⟩ (.int .i64 6)).setCell ⟨g + 1, 1, none⟩ (.int .u32 0)).setCell ⟨g + 1, 2, none⟩ (.int .i64 0)).setCell ⟨g + 1, 3, none⟩ (.int .i64 0)).setCell ⟨g + 1, 4, none⟩ (.int .u32 0)).setCell ⟨g + 1, 5, none⟩ (.int .u32 0)).cell? ⟨g + 1, 2, none⟩ = some (.int .i64 0) := hY.cell 2
        have z3 : ((((((w2.setCell ⟨g + 1, 0, none⟩ (.int .i64 6)).setCell ⟨g + 1, 1, none⟩ (.int .u32 0)).setCell ⟨g + 1, 2, none⟩ (.int .i64 0)).setCell ⟨g + 1, 3, none⟩ (.int .i64 0)).setCell ⟨g + 1, 4, none⟩ (.int .u32 0)).setCell ⟨g + 1, 5, none⟩ (.int .u32 0)).cell? ⟨g + 1, 3, none⟩ = some (.int .i64 0) := hY.cell 3
        have z4 : ((((((w2.setCell ⟨g + 1, 0, none⟩ (.int .i64 6)).setCell ⟨g + 1, 1, none⟩ (.int .u32 0)).setCell ⟨g + 1, 2, none⟩ (.int .i64 0)).setCell ⟨g + 1, 3, none⟩ (.int .i64 0)).setCell ⟨g + 1, 4, none⟩ (.int .u32 0)).setCell ⟨g + 1, 5, none⟩ (.int .u32 0)).cell? ⟨g + 1, 4, none⟩ = some (.int .u32 0) := hY.cell 4
        have z5 : ((((((w2.setCell ⟨g + 1, 0, none⟩ (.int .i64 6)).setCell ⟨g + 1, 1, none⟩ (.int .u32 0)).setCell ⟨g + 1, 2, none⟩ (.int .i64 0)).setCell ⟨g + 1, 3, none⟩ (.int .i64 0)).setCell ⟨g + 1, 4, none⟩ (.int .u32 0)).setCell ⟨g + 1, 5, none⟩ (.int .u32 0)).cell? ⟨g + 1, 5, none⟩ = some (.int .u32 0) := hY.cell 5
        refine bodyPost_ret (v := .agg #[.int .i64 6, .int .u32 0, .int .i64 0, .int .i64 0, .int .u32 0, .int .u32 0]) (by simp [results, Tryz.results54, go_sem, z0, z1, z2, z3, z4, z5]) rfl ?_
        exact post_same (H.out.more (Nat.le_add_right N 64)) (by rw [HE.out]; rfl) (by rw [HE.out]) (bel6 hg (HBr.out _ HBc.out))
      have HBn := Lib.hid hB
      go_cut [35] (fun b wd => b = .bool false ∧ wd = w2)
      case first =>
        cases ok with
        | true =>
          clear hB
          go_wp2_with fail
          go_meet
          case rel => exact ⟨rfl, rfl⟩
        | false =>
          cases ys with
          | true => exact absurd ⟨rfl, rfl⟩ hB
          | false =>
            clear hB
            go_wp2_with fail
            go_meet
            case rel => exact ⟨rfl, rfl⟩
      case rest =>
        obtain ⟨rfl, rfl⟩ := hcut
        try (obtain ⟨w2, rfl⟩ : ∃ w2, w2 = wc := ⟨_, rfl⟩)
        clear hB
        have H2 := Lib.hid (H.out.next (HBr.out _ HBc.out))
        have c2 : w2.cell? ⟨c, 2, none⟩ = some (.map (some p.dm)) := H2.out.blk.cell 2
        have hml : (Builtin.len_ #[136] 3 #[.map (some p.dm)]).run Tryz.prog w2 = .ok (.int .i64 (C.deeds.length : Int)) w2 := (H2.out.deeds.map).len Tryz.underlying136 3
        go_upto_region 8 with fail
        by_cases hC : ok = false ∧ 1024 ≤ C.deeds.length
        · obtain ⟨rfl, hl⟩ := hC
          have hyn : ys = false := by
            cases ys with
            | true => exact absurd ⟨rfl, rfl⟩ HBn.out
            | false => rfl
          have HE : Hid (resolveC C ⟨kd, dd, ⟨aw, at1, am⟩, ys, tk, nn, id, ws⟩ = (bad 4, C)) := Lib.hid (res_full (m := ⟨kd, dd, ⟨aw, at1, am⟩, ys, tk, nn, id, ws⟩) HFd2.out.1 rfl H0.out (by simp only [hyn]; simp) hl)
          have e1 : decide ((1024 : Int) ≤ (C.deeds.length : Int)) = true := by simp; omega
          clear hi hl hyn
          go_upto_region 9 with fail
          clear x5 c2 hml e1
          have y0 : w2.cell? ⟨g + 1, 0, none⟩ = some (.int .i64 0) := (HY.out.next HBc.out).cell 0
          have f0 : w2.frozen? ⟨g + 1, 0, none⟩ = false := (HY.out.next HBc.out).free 0
          have y1 : w2.cell? ⟨g + 1, 1, none⟩ = some (.int .u32 0) := (HY.out.next HBc.out).cell 1
          have f1 : w2.frozen? ⟨g + 1, 1, none⟩ = false := (HY.out.next HBc.out).free 1
          have y2 : w2.cell? ⟨g + 1, 2, none⟩ = some (.int .i64 0) := (HY.out.next HBc.out).cell 2
          have f2 : w2.frozen? ⟨g + 1, 2, none⟩ = false := (HY.out.next HBc.out).free 2
          have y3 : w2.cell? ⟨g + 1, 3, none⟩ = some (.int .i64 0) := (HY.out.next HBc.out).cell 3
          have f3 : w2.frozen? ⟨g + 1, 3, none⟩ = false := (HY.out.next HBc.out).free 3
          have y4 : w2.cell? ⟨g + 1, 4, none⟩ = some (.int .u32 0) := (HY.out.next HBc.out).cell 4
          have f4 : w2.frozen? ⟨g + 1, 4, none⟩ = false := (HY.out.next HBc.out).free 4
          have y5 : w2.cell? ⟨g + 1, 5, none⟩ = some (.int .u32 0) := (HY.out.next HBc.out).cell 5
          have f5 : w2.frozen? ⟨g + 1, 5, none⟩ = false := (HY.out.next HBc.out).free 5
          go_wp2_with fail
          have hY := set6 (HY.out.next HBc.out) (.int .i64 4) (.int .u32 0) (.int .i64 0) (.int .i64 0) (.int .u32 0) (.int .u32 0)
          have z0 : ((((((w2.setCell ⟨g + 1, 0, none⟩ (.int .i64 4)).setCell ⟨g + 1, 1, none⟩ (.int .u32 0)).setCell ⟨g + 1, 2, none⟩ (.int .i64 0)).setCell ⟨g + 1, 3, none⟩ (.int .i64 0)).setCell ⟨g + 1, 4, none⟩ (.int .u32 0)).setCell ⟨g + 1, 5, none⟩ (.int .u32 0)).cell? ⟨g + 1, 0, none⟩ = some (.int .i64 4) := hY.cell 0
          have z1 : ((((((w2.setCell ⟨g + 1, 0, none⟩ (.int .i64 4)).setCell ⟨g + 1, 1, none⟩ (.int .u32 0)).setCell ⟨g + 1, 2, none⟩ (.int .i64 0)).setCell ⟨g + 1, 3, none⟩ (.int .i64 0)).setCell ⟨g + 1, 4, none⟩ (.int .u32 0)).setCell ⟨g + 1, 5, none⟩ (.int .u32 0)).cell? ⟨g + 1, 1, none⟩ = some (.int .u32 0) := hY.cell 1
          have z2 : ((((((w2.setCell ⟨g + 1, 0, none⟩ (.int .i64 4)).setCell ⟨g + 1, 1, none⟩ (.int .u32 0)).setCell ⟨g + 1, 2, none⟩ (.int .i64 0)).setCell ⟨g + 1, 3, none⟩ (.int .i64 0)).setCell ⟨g + 1, 4, none⟩ (.int .u32 0)).setCell ⟨g + 1, 5, none⟩ (.int .u32 0)).cell? ⟨g + 1, 2, none⟩ = some (.int .i64 0) := hY.cell 2
          have z3 : ((((((w2.setCell ⟨g + 1, 0, none⟩ (.int .i64 4)).setCell ⟨g + 1, 1, none⟩ (.int .u32 0)).setCell ⟨g + 1, 2, none⟩ (.int .i64 0)).setCell ⟨g + 1, 3, none⟩ (.int .i64 0)).setCell ⟨g + 1, 4, none⟩ (.int .u32 0)).setCell ⟨g + 1, 5, none⟩ (.int .u32 0)).cell? ⟨g + 1, 3, none⟩ = some (.int .i64 0) := hY.cell 3
          have z4 : ((((((w2.setCell ⟨g + 1, 0, none⟩ (.int .i64 4)).setCell ⟨g + 1, 1, none⟩ (.int .u32 0)).setCell ⟨g + 1, 2, none⟩ (.int .i64 0)).setCell ⟨g + 1, 3, none⟩ (.int .i64 0)).setCell ⟨g + 1, 4, none⟩ (.int .u32 0)).setCell ⟨g + 1, 5, none⟩ (.int .u32 0)).cell? ⟨g + 1, 4, none⟩ = some (.int .u32 0) := hY.cell 4
          have z5 : ((((((w2.setCell ⟨g + 1, 0, none⟩ (.int .i64 4)).setCell ⟨g + 1, 1, none⟩ (.int .u32 0)).setCell ⟨g + 1, 2, none⟩ (.int .i64 0)).setCell ⟨g + 1, 3, none⟩ (.int .i64 0)).setCell ⟨g + 1, 4, none⟩ (.int .u32 0)).setCell ⟨g + 1, 5, none⟩ (.int .u32 0)).cell? ⟨g + 1, 5, none⟩ = some (.int .u32 0) := hY.cell 5
          refine bodyPost_ret (v := .agg #[.int .i64 4, .int .u32 0, .int .i64 0, .int .i64 0, .int .u32 0, .int .u32 0]) (by simp [results, Tryz.results54, go_sem, z0, z1, z2, z3, z4, z5]) rfl ?_
          exact post_same (H.out.more (Nat.le_add_right N 64)) (by rw [HE.out]; rfl) (by rw [HE.out]) (bel6 hg (HBr.out _ HBc.out))
        have HCn := Lib.hid hC
        go_cut [43] (fun b wd => b = .bool false ∧ wd = w2)
        case first =>
          cases ok with
          | true =>
            clear hC
            go_wp2_with fail
            go_meet
            case rel => exact ⟨rfl, rfl⟩
          | false =>
            have e1 : decide ((1024 : Int) ≤ (C.deeds.length : Int)) = false := by
              have : ¬ 1024 ≤ C.deeds.length := fun h => hC ⟨rfl, h⟩
              simp; omega
            clear hC
            go_wp2_with fail
            go_meet
            case rel => exact ⟨rfl, rfl⟩
        case rest =>
          obtain ⟨rfl, rfl⟩ := hcut
          try (obtain ⟨w2, rfl⟩ : ∃ w2, w2 = wc := ⟨_, rfl⟩)
          clear hC c2 hml x5
          go_upto_region 10 with fail
          cases ys with
          | false =>
            have x5 : w2.cell? ⟨g, 5, none⟩ = some (.bool false) := HX2.out.cell 5
            have HE : Hid (resolveC C ⟨kd, dd, ⟨aw, at1, am⟩, false, tk, nn, id, ws⟩ = resZ C ⟨kd, dd, ⟨aw, at1, am⟩, false, tk, nn, id, ws⟩ dws) := Lib.hid (res_fin (m := ⟨kd, dd, ⟨aw, at1, am⟩, false, tk, nn, id, ws⟩) HFd2.out.1 HFd2.out.2 H0.out HBn.out HCn.out (fun h => by cases h.1))
            go_upto_region 12 with fail
            clear x5
            have HKW := Lib.hid (H.out.next (HBr.out _ HBc.out))
            have hcw : c < w.heap.size := H.out.blk.lt
            have hdmw : p.dm < w.heap.size := H.out.lt _ H.out.Fd
            have hg5c : g5 ≠ c := by have := HG.out; omega
            have hgcc : g ≠ c := by omega
            have hgc1 : g + 1 ≠ c := by omega
            have c3 : w2.cell? ⟨c, 3, none⟩ = some (.int .i64 (heldD C.deeds : Int)) := HKW.out.blk.cell 3
            have fc3 : w2.frozen? ⟨c, 3, none⟩ = false := HKW.out.blk.free 3
            have v4 : w2.cell? ⟨g5, 4, none⟩ = some (.slice sa ln sc) := HQb.out.cell 4
            have hn3 : IntKind.i64.wrap ((heldD C.deeds : Int) - (ln : Int)) = (heldD C.deeds : Int) - (ln : Int) := by
              have h1 := held_new (d := ⟨di, ds, ⟨dw, dt, dm⟩, dws⟩) (d' := ⟨dd, 3, t0, []⟩) H.out.inv.rise HFd2.out.1 rfl
              have h2 := H.out.inv.full
              have h3 := HLn.out
              simp only at h1
              rw [IntKind.wrap_i64]
              omega
            go_wp2_with fail
            go_region
            clear c3 fc3 v4 hn3
            have HT5 : Hid (Turn (fun y => y = c) w (w2.setCell ⟨c, 3, none⟩ (.int .i64 ((heldD C.deeds : Int) - (ln : Int)))).drew) := Lib.hid (((Turn.of (F := fun y => y = c) (HBr.out _ HBc.out)).set (a := ⟨c, 3, none⟩) rfl _).next (bel_drew (bel_refl _)))
            have HT15 : Hid (Turn F w1 (w2.setCell ⟨c, 3, none⟩ (.int .i64 ((heldD C.deeds : Int) - (ln : Int)))).drew) := Lib.hid (((Turn.of (F := F) HBc.out).set (a := ⟨c, 3, none⟩) H.out.Fc _).next (bel_drew (bel_refl _)))
            have HC5 : Hid (Blk (w2.setCell ⟨c, 3, none⟩ (.int .i64 ((heldD C.deeds : Int) - (ln : Int)))).drew c ((ccells C p).setIfInBounds 3 (.int .i64 ((heldD C.deeds : Int) - (ln : Int)))) 140) := Lib.hid ((HKW.out.blk.set 3 (.int .i64 ((heldD C.deeds : Int) - (ln : Int)))).next (bel_drew (bel_refl _)))
            have HQ5 : Hid (Blk (w2.setCell ⟨c, 3, none⟩ (.int .i64 ((heldD C.deeds : Int) - (ln : Int)))).drew g5 #[.int .i64 ds, .int .i64 dw, .int .u32 dt, .int .u32 dm, .slice sa ln sc] 181) := Lib.hid ((HQb.out.other hg5c _).next (bel_drew (bel_refl _)))
            have HX5 : Hid (Blk (w2.setCell ⟨c, 3, none⟩ (.int .i64 ((heldD C.deeds : Int) - (ln : Int)))).drew g #[.int .i64 kd, .int .u32 dd, .int .i64 aw, .int .u32 at1, .int .u32 am, .bool false, .string tk, .int .i64 nn, .int .i64 id, .slice va T.length vc] 50) := Lib.hid (((HX.out.next HBc.out).other hgcc _).next (bel_drew (bel_refl _)))
            have HY5 : Hid (Blk (w2.setCell ⟨c, 3, none⟩ (.int .i64 ((heldD C.deeds : Int) - (ln : Int)))).drew (g + 1) #[.int .i64 0, .int .u32 0, .int .i64 0, .int .i64 0, .int .u32 0, .int .u32 0] 46) := Lib.hid (((HY.out.next HBc.out).other hgc1 _).next (bel_drew (bel_refl _)))
            generalize (w2.setCell ⟨c, 3, none⟩ (.int .i64 ((heldD C.deeds : Int) - (ln : Int)))).drew = w5 at HT5 HT15 HC5 HQ5 HX5 HY5 ⊢
            have HSt5 : Hid (St p.Fs w5 p.s C.M N) := Lib.hid (H.out.st.keep HT5.out (fun x hx e => H.out.nc (e ▸ hx)))
            have HNg : Hid (¬ p.Fs g ∧ ¬ p.Fs (g + 1) ∧ ¬ p.Fs g5) := Lib.hid ⟨fun e => by have := H.out.lt _ (H.out.sub _ e); omega, fun e => by have := H.out.lt _ (H.out.sub _ e); omega, fun e => by have := H.out.lt _ (H.out.sub _ e); have := HG.out; omega⟩
            have hgl5 : g5 < w5.heap.size ∧ g < w5.heap.size ∧ g + 1 < w5.heap.size ∧ c < w5.heap.size := ⟨HQ5.out.lt, HX5.out.lt, HY5.out.lt, HC5.out.lt⟩
            have Hgl5 := Lib.hid hgl5
            clear hgl5
            have x5 : w5.cell? ⟨g, 5, none⟩ = some (.bool false) := HX5.out.cell 5
            have v0 : w5.cell? ⟨g5, 0, none⟩ = some (.int .i64 ds) := HQ5.out.cell 0
            have u0 : w5.frozen? ⟨g5, 0, none⟩ = false := HQ5.out.free 0
            have v1 : w5.cell? ⟨g5, 1, none⟩ = some (.int .i64 dw) := HQ5.out.cell 1
            have u1 : w5.frozen? ⟨g5, 1, none⟩ = false := HQ5.out.free 1
            have v2 : w5.cell? ⟨g5, 2, none⟩ = some (.int .u32 dt) := HQ5.out.cell 2
            have u2 : w5.frozen? ⟨g5, 2, none⟩ = false := HQ5.out.free 2
            have v3 : w5.cell? ⟨g5, 3, none⟩ = some (.int .u32 dm) := HQ5.out.cell 3
            have u3 : w5.frozen? ⟨g5, 3, none⟩ = false := HQ5.out.free 3
            have v4 : w5.cell? ⟨g5, 4, none⟩ = some (.slice sa ln sc) := HQ5.out.cell 4
            have u4 : w5.frozen? ⟨g5, 4, none⟩ = false := HQ5.out.free 4
            go_upto_region 22 with fail
            clear x5
            clear v0 u0 v1 u1 v2 u2 v3 u3 v4 u4
            have HTw : Hid (Turn (fun y => y = c ∨ p.Fs y) w (((((w5.setCell ⟨g5, 0, none⟩ (.int .i64 3)).setCell ⟨g5, 1, none⟩ (.int .i64 0)).setCell ⟨g5, 2, none⟩ (.int .u32 0)).setCell ⟨g5, 3, none⟩ (.int .u32 0)).setCell ⟨g5, 4, none⟩ (.slice none 0 0))) := Lib.hid (turn5 (by have := HG.out; omega) (HT5.out.mono (fun y hy => .inl hy)))
            have HCw : Hid (Blk (((((w5.setCell ⟨g5, 0, none⟩ (.int .i64 3)).setCell ⟨g5, 1, none⟩ (.int .i64 0)).setCell ⟨g5, 2, none⟩ (.int .u32 0)).setCell ⟨g5, 3, none⟩ (.int .u32 0)).setCell ⟨g5, 4, none⟩ (.slice none 0 0)) c ((ccells C p).setIfInBounds 3 (.int .i64 ((heldD C.deeds : Int) - (ln : Int)))) 140) := Lib.hid (blk_keep (own5 w5 g5) HC5.out (fun e => hg5c e.symm))
            have HQw : Hid (Blk (((((w5.setCell ⟨g5, 0, none⟩ (.int .i64 3)).setCell ⟨g5, 1, none⟩ (.int .i64 0)).setCell ⟨g5, 2, none⟩ (.int .u32 0)).setCell ⟨g5, 3, none⟩ (.int .u32 0)).setCell ⟨g5, 4, none⟩ (.slice none 0 0)) g5 #[.int .i64 3, .int .i64 0, .int .u32 0, .int .u32 0, .slice none 0 0] 181) := Lib.hid (set5d HQ5.out _ _ _ _ _)
            have HXw : Hid (Blk (((((w5.setCell ⟨g5, 0, none⟩ (.int .i64 3)).setCell ⟨g5, 1, none⟩ (.int .i64 0)).setCell ⟨g5, 2, none⟩ (.int .u32 0)).setCell ⟨g5, 3, none⟩ (.int .u32 0)).setCell ⟨g5, 4, none⟩ (.slice none 0 0)) g #[.int .i64 kd, .int .u32 dd, .int .i64 aw, .int .u32 at1, .int .u32 am, .bool false, .string tk, .int .i64 nn, .int .i64 id, .slice va T.length vc] 50) := Lib.hid (blk_keep (own5 w5 g5) HX5.out (fun e => by have := HG.out; have := HX.out.lt; omega))
            have HYw : Hid (Blk (((((w5.setCell ⟨g5, 0, none⟩ (.int .i64 3)).setCell ⟨g5, 1, none⟩ (.int .i64 0)).setCell ⟨g5, 2, none⟩ (.int .u32 0)).setCell ⟨g5, 3, none⟩ (.int .u32 0)).setCell ⟨g5, 4, none⟩ (.slice none 0 0)) (g + 1) #[.int .i64 0, .int .u32 0, .int .i64 0, .int .i64 0, .int .u32 0, .int .u32 0] 46) := Lib.hid (blk_keep (own5 w5 g5) HY5.out (fun e => by omega))
            have HSw : Hid (St p.Fs (((((w5.setCell ⟨g5, 0, none⟩ (.int .i64 3)).setCell ⟨g5, 1, none⟩ (.int .i64 0)).setCell ⟨g5, 2, none⟩ (.int .u32 0)).setCell ⟨g5, 3, none⟩ (.int .u32 0)).setCell ⟨g5, 4, none⟩ (.slice none 0 0)) p.s C.M N) := Lib.hid (HSt5.out.keep (own5 w5 g5) (fun x hx e => HNg.out.2.2 (e ▸ hx)))
            have HFw : Hid (∀ y, p.Fs y → p.Fs y ∨ w.heap.size ≤ y) := Lib.hid (fun y h => .inl h)
            have HGw : Hid (¬ p.Fs (g + 1)) := Lib.hid HNg.out.2.1
            generalize (((((w5.setCell ⟨g5, 0, none⟩ (.int .i64 3)).setCell ⟨g5, 1, none⟩ (.int .i64 0)).setCell ⟨g5, 2, none⟩ (.int .u32 0)).setCell ⟨g5, 3, none⟩ (.int .u32 0)).setCell ⟨g5, 4, none⟩ (.slice none 0 0)) = w9 at HTw HCw HQw HXw HYw HSw ⊢
            have HDd : Hid (MapIs Tryz.prog 24 w9.drew p.dm p.fd C.deeds.length) := Lib.hid (map_keep (HTw.out.next (bel_drew (bel_refl _))) H.out.deeds.map (fun e => by
              rcases e with e | e
              · exact H.out.cd e.symm
              · exact H.out.nd e))
            obtain ⟨w14, hr14, hm14, hg14⟩ := HDd.out.put key24 Tryz.underlying136 (by have := H.out.inv.ndeed; simp only [maxLen]; omega) (dval ⟨dd, 3, ⟨0, 0, 0⟩, []⟩ (.slice none 0 0)) (keyOf24 hddr) trivial
            have HM14 := Lib.hid hm14
            have HG14 := Lib.hid hg14
            have hd5 : g5 ≠ p.dm := by have := HG.out; omega
            have hd0 : g ≠ p.dm := by omega
            have hd1 : g + 1 ≠ p.dm := by omega
            have HQ14 := Lib.hid ((HQw.out.next (bel_drew (bel_refl _))).grown hg14 (fun e => hd5 (by injection e with e; exact e.symm)))
            have HX14 := Lib.hid ((HXw.out.next (bel_drew (bel_refl _))).grown hg14 (fun e => hd0 (by injection e with e; exact e.symm)))
            have HY14 := Lib.hid ((HYw.out.next (bel_drew (bel_refl _))).grown hg14 (fun e => hd1 (by injection e with e; exact e.symm)))
            clear hm14 hg14
            unfold dval at hr14
            simp only at hr14
            have c2 : w9.cell? ⟨c, 2, none⟩ = some (.map (some p.dm)) := by simpa [ccells] using HCw.out.cell 2
            have x1 : w9.cell? ⟨g, 1, none⟩ = some (.int .u32 dd) := HXw.out.cell 1
            have k0 : w9.cell? ⟨g5, 0, none⟩ = some (.int .i64 3) := HQw.out.cell 0
            have k1 : w9.cell? ⟨g5, 1, none⟩ = some (.int .i64 0) := HQw.out.cell 1
            have k2 : w9.cell? ⟨g5, 2, none⟩ = some (.int .u32 0) := HQw.out.cell 2
            have k3 : w9.cell? ⟨g5, 3, none⟩ = some (.int .u32 0) := HQw.out.cell 3
            have k4 : w9.cell? ⟨g5, 4, none⟩ = some (.slice none 0 0) := HQw.out.cell 4
            go_upto_region 22 with fail
            go_region
            clear c2 x1 k0 k1 k2 k3 k4 hr14
            have HTl := Lib.hid (fun W => dtold_any ⟨dd, 3, ⟨0, 0, 0⟩, []⟩ none 0 0 W)
            unfold replyV replyA dval Dd.told at HTl
            simp only at HTl
            have x1 : w14.cell? ⟨g, 1, none⟩ = some (.int .u32 dd) := HX14.out.cell 1
            have k0 : w14.cell? ⟨g5, 0, none⟩ = some (.int .i64 3) := HQ14.out.cell 0
            have k1 : w14.cell? ⟨g5, 1, none⟩ = some (.int .i64 0) := HQ14.out.cell 1
            have k2 : w14.cell? ⟨g5, 2, none⟩ = some (.int .u32 0) := HQ14.out.cell 2
            have k3 : w14.cell? ⟨g5, 3, none⟩ = some (.int .u32 0) := HQ14.out.cell 3
            have k4 : w14.cell? ⟨g5, 4, none⟩ = some (.slice none 0 0) := HQ14.out.cell 4
            have HYf14 : Hid (∀ W, Below w14.heap.size w14 W → W.cell? ⟨g + 1, 0, none⟩ = some (.int .i64 0) ∧ W.frozen? ⟨g + 1, 0, none⟩ = false ∧ W.cell? ⟨g + 1, 1, none⟩ = some (.int .u32 0) ∧ W.frozen? ⟨g + 1, 1, none⟩ = false ∧ W.cell? ⟨g + 1, 2, none⟩ = some (.int .i64 0) ∧ W.frozen? ⟨g + 1, 2, none⟩ = false ∧ W.cell? ⟨g + 1, 3, none⟩ = some (.int .i64 0) ∧ W.frozen? ⟨g + 1, 3, none⟩ = false ∧ W.cell? ⟨g + 1, 4, none⟩ = some (.int .u32 0) ∧ W.frozen? ⟨g + 1, 4, none⟩ = false ∧ W.cell? ⟨g + 1, 5, none⟩ = some (.int .u32 0) ∧ W.frozen? ⟨g + 1, 5, none⟩ = false) := Lib.hid (fun W hW => ⟨(HY14.out.next hW).cell 0, (HY14.out.next hW).free 0, (HY14.out.next hW).cell 1, (HY14.out.next hW).free 1, (HY14.out.next hW).cell 2, (HY14.out.next hW).free 2, (HY14.out.next hW).cell 3, (HY14.out.next hW).free 3, (HY14.out.next hW).cell 4, (HY14.out.next hW).free 4, (HY14.out.next hW).cell 5, (HY14.out.next hW).free 5⟩)
            have Hi := Lib.hid hi
            clear hi
            go_wp2_with (first
              | (go_at_call 89; refine (HTl.out _).mono ?_; rintro e w16 ⟨rfl, hb16⟩; have HB16 := Lib.hid hb16; clear hb16; obtain ⟨y0, f0, y1, f1, y2, f2, y3, f3, y4, f4, y5, f5⟩ := HYf14.out w16 HB16.out)
              | fail)
            have hY := set6 (HY14.out.next HB16.out) (.int .i64 0) (.int .u32 dd) (.int .i64 3) (.int .i64 0) (.int .u32 0) (.int .u32 0)
            have z0 : ((((((w16.setCell ⟨g + 1, 0, none⟩ (.int .i64 0)).setCell ⟨g + 1, 1, none⟩ (.int .u32 dd)).setCell ⟨g + 1, 2, none⟩ (.int .i64 3)).setCell ⟨g + 1, 3, none⟩ (.int .i64 0)).setCell ⟨g + 1, 4, none⟩ (.int .u32 0)).setCell ⟨g + 1, 5, none⟩ (.int .u32 0)).cell? ⟨g + 1, 0, none⟩ = some (.int .i64 0) := hY.cell 0
            have z1 : ((((((w16.setCell ⟨g + 1, 0, none⟩ (.int .i64 0)).setCell ⟨g + 1, 1, none⟩ (.int .u32 dd)).setCell ⟨g + 1, 2, none⟩ (.int .i64 3)).setCell ⟨g + 1, 3, none⟩ (.int .i64 0)).setCell ⟨g + 1, 4, none⟩ (.int .u32 0)).setCell ⟨g + 1, 5, none⟩ (.int .u32 0)).cell? ⟨g + 1, 1, none⟩ = some (.int .u32 dd) := hY.cell 1
            have z2 : ((((((w16.setCell ⟨g + 1, 0, none⟩ (.int .i64 0)).setCell ⟨g + 1, 1, none⟩ (.int .u32 dd)).setCell ⟨g + 1, 2, none⟩ (.int .i64 3)).setCell ⟨g + 1, 3, none⟩ (.int .i64 0)).setCell ⟨g + 1, 4, none⟩ (.int .u32 0)).setCell ⟨g + 1, 5, none⟩ (.int .u32 0)).cell? ⟨g + 1, 2, none⟩ = some (.int .i64 3) := hY.cell 2
            have z3 : ((((((w16.setCell ⟨g + 1, 0, none⟩ (.int .i64 0)).setCell ⟨g + 1, 1, none⟩ (.int .u32 dd)).setCell ⟨g + 1, 2, none⟩ (.int .i64 3)).setCell ⟨g + 1, 3, none⟩ (.int .i64 0)).setCell ⟨g + 1, 4, none⟩ (.int .u32 0)).setCell ⟨g + 1, 5, none⟩ (.int .u32 0)).cell? ⟨g + 1, 3, none⟩ = some (.int .i64 0) := hY.cell 3
            have z4 : ((((((w16.setCell ⟨g + 1, 0, none⟩ (.int .i64 0)).setCell ⟨g + 1, 1, none⟩ (.int .u32 dd)).setCell ⟨g + 1, 2, none⟩ (.int .i64 3)).setCell ⟨g + 1, 3, none⟩ (.int .i64 0)).setCell ⟨g + 1, 4, none⟩ (.int .u32 0)).setCell ⟨g + 1, 5, none⟩ (.int .u32 0)).cell? ⟨g + 1, 4, none⟩ = some (.int .u32 0) := hY.cell 4
            have z5 : ((((((w16.setCell ⟨g + 1, 0, none⟩ (.int .i64 0)).setCell ⟨g + 1, 1, none⟩ (.int .u32 dd)).setCell ⟨g + 1, 2, none⟩ (.int .i64 3)).setCell ⟨g + 1, 3, none⟩ (.int .i64 0)).setCell ⟨g + 1, 4, none⟩ (.int .u32 0)).setCell ⟨g + 1, 5, none⟩ (.int .u32 0)).cell? ⟨g + 1, 5, none⟩ = some (.int .u32 0) := hY.cell 5
            refine bodyPost_ret (v := .agg #[.int .i64 0, .int .u32 dd, .int .i64 3, .int .i64 0, .int .u32 0, .int .u32 0]) (by simp [results, Tryz.results54, go_sem, z0, z1, z2, z3, z4, z5]) rfl ?_
            exact res_end (d := ⟨di, ds, ⟨dw, dt, dm⟩, dws⟩) (d' := ⟨dd, 3, ⟨0, 0, 0⟩, []⟩) (M' := C.M) H.out (Nat.le_of_eq hg) HFd2.out.1 rfl (HSw.out.more (Nat.le_add_right N 64)) HFw.out HGw.out HTw.out HCw.out (by rw [← HLn.out]) HM14.out rfl HG14.out HB16.out (by rw [HE.out]; rfl) (by rw [HE.out]; rfl) Hi.out
          | true =>
            have x1 : w2.cell? ⟨g, 1, none⟩ = some (.int .u32 dd) := (HX.out.next HBc.out).cell 1
            have x2 : w2.cell? ⟨g, 2, none⟩ = some (.int .i64 aw) := (HX.out.next HBc.out).cell 2
            have x3 : w2.cell? ⟨g, 3, none⟩ = some (.int .u32 at1) := (HX.out.next HBc.out).cell 3
            have x4 : w2.cell? ⟨g, 4, none⟩ = some (.int .u32 am) := (HX.out.next HBc.out).cell 4
            have x5 : w2.cell? ⟨g, 5, none⟩ = some (.bool true) := (HX.out.next HBc.out).cell 5
            have HR := Lib.hid (fun W => str_any ⟨aw, at1, am⟩ W)
            unfold Tm.val at HR
            simp only [stR_tm] at HR
            by_cases hr : tmR ⟨aw, at1, am⟩
            · have hd : decide (tmR ⟨aw, at1, am⟩) = true := by simpa using hr
              rw [hd] at HR
              clear hd
              by_cases hm : am = dd
              · have hmb : (am == dd) = true := by simp [hm]
                have hmb2 : (am != dd) = false := by simp [hm]
                have HCm := Lib.hid (fun W => compare_any ⟨aw, at1, am⟩ ⟨dw, dt, dm⟩ W)
                unfold Tm.val at HCm
                simp only at HCm
                have HLt : Hid (cmpT ⟨aw, at1, am⟩ ⟨dw, dt, dm⟩ < 0 ↔ (⟨aw, at1, am⟩ : Tm).lt ⟨dw, dt, dm⟩) := Lib.hid cmpT_lt
                generalize cmpT ⟨aw, at1, am⟩ ⟨dw, dt, dm⟩ = z at HCm HLt
                by_cases hz : z < 0
                · have HE : Hid (resolveC C ⟨kd, dd, ⟨aw, at1, am⟩, true, tk, nn, id, ws⟩ = (bad 1, C)) := Lib.hid (res_arg (m := ⟨kd, dd, ⟨aw, at1, am⟩, true, tk, nn, id, ws⟩) HFd2.out.1 HFd2.out.2 H0.out HBn.out ⟨rfl, .inr (HLt.out.1 hz)⟩)
                  clear hi hr hm
                  go_upto_region 11 with (first
                    | (go_at_call 73; refine (HR.out _).mono ?_; rintro e w3 ⟨rfl, hb3⟩; have HB3 := Lib.hid (bel_trans HBc.out hb3); have HB23 := Lib.hid hb3; clear hb3; have X1 : w3.cell? ⟨g, 1, none⟩ = some (.int .u32 dd) := (HX.out.next HB3.out).cell 1; have X2 : w3.cell? ⟨g, 2, none⟩ = some (.int .i64 aw) := (HX.out.next HB3.out).cell 2; have X3 : w3.cell? ⟨g, 3, none⟩ = some (.int .u32 at1) := (HX.out.next HB3.out).cell 3; have X4 : w3.cell? ⟨g, 4, none⟩ = some (.int .u32 am) := (HX.out.next HB3.out).cell 4; have hq3 := HQb.out.next HB23.out; have V1 : w3.cell? ⟨g5, 1, none⟩ = some (.int .i64 dw) := hq3.cell 1; have V2 : w3.cell? ⟨g5, 2, none⟩ = some (.int .u32 dt) := hq3.cell 2; have V3 : w3.cell? ⟨g5, 3, none⟩ = some (.int .u32 dm) := hq3.cell 3; clear hq3)
                    | (go_at_call 26; refine (HCm.out _).mono ?_; rintro e w4 ⟨rfl, hb4⟩; have HQ4 := Lib.hid (HQb.out.next (bel_trans HB23.out hb4)); have HB4 := Lib.hid (bel_trans HB3.out hb4); clear hb4)
                    | fail)
                  clear x1 x2 x3 x4 x5 X1 X2 X3 X4 V1 V2 V3
                  have y0 : w4.cell? ⟨g + 1, 0, none⟩ = some (.int .i64 0) := (HY.out.next HB4.out).cell 0
                  have f0 : w4.frozen? ⟨g + 1, 0, none⟩ = false := (HY.out.next HB4.out).free 0
                  have y1 : w4.cell? ⟨g + 1, 1, none⟩ = some (.int .u32 0) := (HY.out.next HB4.out).cell 1
                  have f1 : w4.frozen? ⟨g + 1, 1, none⟩ = false := (HY.out.next HB4.out).free 1
                  have y2 : w4.cell? ⟨g + 1, 2, none⟩ = some (.int .i64 0) := (HY.out.next HB4.out).cell 2
                  have f2 : w4.frozen? ⟨g + 1, 2, none⟩ = false := (HY.out.next HB4.out).free 2
                  have y3 : w4.cell? ⟨g + 1, 3, none⟩ = some (.int .i64 0) := (HY.out.next HB4.out).cell 3
                  have f3 : w4.frozen? ⟨g + 1, 3, none⟩ = false := (HY.out.next HB4.out).free 3
                  have y4 : w4.cell? ⟨g + 1, 4, none⟩ = some (.int .u32 0) := (HY.out.next HB4.out).cell 4
                  have f4 : w4.frozen? ⟨g + 1, 4, none⟩ = false := (HY.out.next HB4.out).free 4
                  have y5 : w4.cell? ⟨g + 1, 5, none⟩ = some (.int .u32 0) := (HY.out.next HB4.out).cell 5
                  have f5 : w4.frozen? ⟨g + 1, 5, none⟩ = false := (HY.out.next HB4.out).free 5
                  go_wp2_with fail
                  have hY := set6 (HY.out.next HB4.out) (.int .i64 1) (.int .u32 0) (.int .i64 0) (.int .i64 0) (.int .u32 0) (.int .u32 0)
                  have z0 : ((((((w4.setCell ⟨g + 1, 0, none⟩ (.int .i64 1)).setCell ⟨g + 1, 1, none⟩ (.int .u32 0)).setCell ⟨g + 1, 2, none⟩ (.int .i64 0)).setCell ⟨g + 1, 3, none⟩ (.int .i64 0)).setCell ⟨g + 1, 4, none⟩ (.int .u32 0)).setCell ⟨g + 1, 5, none⟩ (.int .u32 0)).cell? ⟨g + 1, 0, none⟩ = some (.int .i64 1) := hY.cell 0
                  have z1 : ((((((w4.setCell ⟨g + 1, 0, none⟩ (.int .i64 1)).setCell ⟨g + 1, 1, none⟩ (.int .u32 0)).setCell ⟨g + 1, 2, none⟩ (.int .i64 0)).setCell ⟨g + 1, 3, none⟩ (.int .i64 0)).setCell ⟨g + 1, 4, none⟩ (.int .u32 0)).setCell ⟨g + 1, 5, none⟩ (.int .u32 0)).cell? ⟨g + 1, 1, none⟩ = some (.int .u32 0) := hY.cell 1
                  have z2 : ((((((w4.setCell ⟨g + 1, 0, none⟩ (.int .i64 1)).setCell ⟨g + 1, 1, none⟩ (.int .u32 0)).setCell ⟨g + 1, 2, none⟩ (.int .i64 0)).setCell ⟨g + 1, 3, none⟩ (.int .i64 0)).setCell ⟨g + 1, 4, none⟩ (.int .u32 0)).setCell ⟨g + 1, 5, none⟩ (.int .u32 0)).cell? ⟨g + 1, 2, none⟩ = some (.int .i64 0) := hY.cell 2
                  have z3 : ((((((w4.setCell ⟨g + 1, 0, none⟩ (.int .i64 1)).setCell ⟨g + 1, 1, none⟩ (.int .u32 0)).setCell ⟨g + 1, 2, none⟩ (.int .i64 0)).setCell ⟨g + 1, 3, none⟩ (.int .i64 0)).setCell ⟨g + 1, 4, none⟩ (.int .u32 0)).setCell ⟨g + 1, 5, none⟩ (.int .u32 0)).cell? ⟨g + 1, 3, none⟩ = some (.int .i64 0) := hY.cell 3
                  have z4 : ((((((w4.setCell ⟨g + 1, 0, none⟩ (.int .i64 1)).setCell ⟨g + 1, 1, none⟩ (.int .u32 0)).setCell ⟨g + 1, 2, none⟩ (.int .i64 0)).setCell ⟨g + 1, 3, none⟩ (.int .i64 0)).setCell ⟨g + 1, 4, none⟩ (.int .u32 0)).setCell ⟨g + 1, 5, none⟩ (.int .u32 0)).cell? ⟨g + 1, 4, none⟩ = some (.int .u32 0) := hY.cell 4
                  have z5 : ((((((w4.setCell ⟨g + 1, 0, none⟩ (.int .i64 1)).setCell ⟨g + 1, 1, none⟩ (.int .u32 0)).setCell ⟨g + 1, 2, none⟩ (.int .i64 0)).setCell ⟨g + 1, 3, none⟩ (.int .i64 0)).setCell ⟨g + 1, 4, none⟩ (.int .u32 0)).setCell ⟨g + 1, 5, none⟩ (.int .u32 0)).cell? ⟨g + 1, 5, none⟩ = some (.int .u32 0) := hY.cell 5
                  refine bodyPost_ret (v := .agg #[.int .i64 1, .int .u32 0, .int .i64 0, .int .i64 0, .int .u32 0, .int .u32 0]) (by simp [results, Tryz.results54, go_sem, z0, z1, z2, z3, z4, z5]) rfl ?_
                  exact post_same (H.out.more (Nat.le_add_right N 64)) (by rw [HE.out]; rfl) (by rw [HE.out]) (bel6 hg (HBr.out _ HB4.out))
                have HE : Hid (resolveC C ⟨kd, dd, ⟨aw, at1, am⟩, true, tk, nn, id, ws⟩ = resZ C ⟨kd, dd, ⟨aw, at1, am⟩, true, tk, nn, id, ws⟩ dws) := Lib.hid (res_fin (m := ⟨kd, dd, ⟨aw, at1, am⟩, true, tk, nn, id, ws⟩) HFd2.out.1 HFd2.out.2 H0.out HBn.out HCn.out (fun h => by
                  rcases h.2 with h | h
                  · exact h ⟨hr, hm⟩
                  · exact hz (HLt.out.2 h)))
                have HRa : Hid (tmR ⟨aw, at1, am⟩ ∧ am = dd) := Lib.hid ⟨hr, hm⟩
                clear hr hm
                go_upto_region 12 with (first
                  | (go_at_call 73; refine (HR.out _).mono ?_; rintro e w3 ⟨rfl, hb3⟩; have HB3 := Lib.hid (bel_trans HBc.out hb3); have HB23 := Lib.hid hb3; clear hb3; have X1 : w3.cell? ⟨g, 1, none⟩ = some (.int .u32 dd) := (HX.out.next HB3.out).cell 1; have X2 : w3.cell? ⟨g, 2, none⟩ = some (.int .i64 aw) := (HX.out.next HB3.out).cell 2; have X3 : w3.cell? ⟨g, 3, none⟩ = some (.int .u32 at1) := (HX.out.next HB3.out).cell 3; have X4 : w3.cell? ⟨g, 4, none⟩ = some (.int .u32 am) := (HX.out.next HB3.out).cell 4; have hq3 := HQb.out.next HB23.out; have V1 : w3.cell? ⟨g5, 1, none⟩ = some (.int .i64 dw) := hq3.cell 1; have V2 : w3.cell? ⟨g5, 2, none⟩ = some (.int .u32 dt) := hq3.cell 2; have V3 : w3.cell? ⟨g5, 3, none⟩ = some (.int .u32 dm) := hq3.cell 3; clear hq3)
                  | (go_at_call 26; refine (HCm.out _).mono ?_; rintro e w4 ⟨rfl, hb4⟩; have HQ4 := Lib.hid (HQb.out.next (bel_trans HB23.out hb4)); have HB4 := Lib.hid (bel_trans HB3.out hb4); clear hb4)
                  | fail)
                clear x1 x2 x3 x4 x5 X1 X2 X3 X4 V1 V2 V3
                clear hz hmb hmb2
                have HKW := Lib.hid (H.out.next (HBr.out _ HB4.out))
                have hcw : c < w.heap.size := H.out.blk.lt
                have hdmw : p.dm < w.heap.size := H.out.lt _ H.out.Fd
                have hg5c : g5 ≠ c := by have := HG.out; omega
                have hgcc : g ≠ c := by omega
                have hgc1 : g + 1 ≠ c := by omega
                have c3 : w4.cell? ⟨c, 3, none⟩ = some (.int .i64 (heldD C.deeds : Int)) := HKW.out.blk.cell 3
                have fc3 : w4.frozen? ⟨c, 3, none⟩ = false := HKW.out.blk.free 3
                have v4 : w4.cell? ⟨g5, 4, none⟩ = some (.slice sa ln sc) := HQ4.out.cell 4
                have hn3 : IntKind.i64.wrap ((heldD C.deeds : Int) - (ln : Int)) = (heldD C.deeds : Int) - (ln : Int) := by
                  have h1 := held_new (d := ⟨di, ds, ⟨dw, dt, dm⟩, dws⟩) (d' := ⟨dd, 3, t0, []⟩) H.out.inv.rise HFd2.out.1 rfl
                  have h2 := H.out.inv.full
                  have h3 := HLn.out
                  simp only at h1
                  rw [IntKind.wrap_i64]
                  omega
                go_wp2_with fail
                go_region
                clear c3 fc3 v4 hn3
                have HT5 : Hid (Turn (fun y => y = c) w (w4.setCell ⟨c, 3, none⟩ (.int .i64 ((heldD C.deeds : Int) - (ln : Int)))).drew) := Lib.hid (((Turn.of (F := fun y => y = c) (HBr.out _ HB4.out)).set (a := ⟨c, 3, none⟩) rfl _).next (bel_drew (bel_refl _)))
                have HT15 : Hid (Turn F w1 (w4.setCell ⟨c, 3, none⟩ (.int .i64 ((heldD C.deeds : Int) - (ln : Int)))).drew) := Lib.hid (((Turn.of (F := F) HB4.out).set (a := ⟨c, 3, none⟩) H.out.Fc _).next (bel_drew (bel_refl _)))
                have HC5 : Hid (Blk (w4.setCell ⟨c, 3, none⟩ (.int .i64 ((heldD C.deeds : Int) - (ln : Int)))).drew c ((ccells C p).setIfInBounds 3 (.int .i64 ((heldD C.deeds : Int) - (ln : Int)))) 140) := Lib.hid ((HKW.out.blk.set 3 (.int .i64 ((heldD C.deeds : Int) - (ln : Int)))).next (bel_drew (bel_refl _)))
                have HQ5 : Hid (Blk (w4.setCell ⟨c, 3, none⟩ (.int .i64 ((heldD C.deeds : Int) - (ln : Int)))).drew g5 #[.int .i64 ds, .int .i64 dw, .int .u32 dt, .int .u32 dm, .slice sa ln sc] 181) := Lib.hid ((HQ4.out.other hg5c _).next (bel_drew (bel_refl _)))
                have HX5 : Hid (Blk (w4.setCell ⟨c, 3, none⟩ (.int .i64 ((heldD C.deeds : Int) - (ln : Int)))).drew g #[.int .i64 kd, .int .u32 dd, .int .i64 aw, .int .u32 at1, .int .u32 am, .bool true, .string tk, .int .i64 nn, .int .i64 id, .slice va T.length vc] 50) := Lib.hid (((HX.out.next HB4.out).other hgcc _).next (bel_drew (bel_refl _)))
                have HY5 : Hid (Blk (w4.setCell ⟨c, 3, none⟩ (.int .i64 ((heldD C.deeds : Int) - (ln : Int)))).drew (g + 1) #[.int .i64 0, .int .u32 0, .int .i64 0, .int .i64 0, .int .u32 0, .int .u32 0] 46) := Lib.hid (((HY.out.next HB4.out).other hgc1 _).next (bel_drew (bel_refl _)))
                generalize (w4.setCell ⟨c, 3, none⟩ (.int .i64 ((heldD C.deeds : Int) - (ln : Int)))).drew = w5 at HT5 HT15 HC5 HQ5 HX5 HY5 ⊢
                have HSt5 : Hid (St p.Fs w5 p.s C.M N) := Lib.hid (H.out.st.keep HT5.out (fun x hx e => H.out.nc (e ▸ hx)))
                have HNg : Hid (¬ p.Fs g ∧ ¬ p.Fs (g + 1) ∧ ¬ p.Fs g5) := Lib.hid ⟨fun e => by have := H.out.lt _ (H.out.sub _ e); omega, fun e => by have := H.out.lt _ (H.out.sub _ e); omega, fun e => by have := H.out.lt _ (H.out.sub _ e); have := HG.out; omega⟩
                have hgl5 : g5 < w5.heap.size ∧ g < w5.heap.size ∧ g + 1 < w5.heap.size ∧ c < w5.heap.size := ⟨HQ5.out.lt, HX5.out.lt, HY5.out.lt, HC5.out.lt⟩
                have Hgl5 := Lib.hid hgl5
                clear hgl5
                have x5 : w5.cell? ⟨g, 5, none⟩ = some (.bool true) := HX5.out.cell 5
                have v4 : w5.cell? ⟨g5, 4, none⟩ = some (.slice sa ln sc) := HQ5.out.cell 4
                have HBt2 : Hid (Batch dws) := Lib.hid (by
                  rcases HFd2.out.1 with ⟨ho, h⟩ | ⟨ho, -⟩
                  · rcases (H.out.inv.deed _ (findD_some h).1).2.1 with ⟨-, h2⟩ | ⟨h2, -⟩
                    · exact h2
                    · have := HFd2.out.2 ho
                      simp only at this h2
                      omega
                  · exact absurd ⟨ho, by simp⟩ HBn.out)
                obtain ⟨TT, hTT, hTTp⟩ := HSl.out
                have HTT := Lib.hid hTT
                have HTp := Lib.hid hTTp
                have HTl2 : Hid (TT.length = dws.length) := Lib.hid (by rw [← HTp.out, List.length_map])
                have HL64 : Hid (ln ≤ 64) := Lib.hid (by rw [← HLn.out]; exact HBt2.out.2.1)
                have HSt0 : Hid (St p.Fs w5 p.s (layC C.hor ⟨aw, at1, am⟩ C.M (dws.take 0)) (N + 0)) := Lib.hid HSt5.out
                have HTk0 : Hid ((∀ y, p.Fs y → p.Fs y ∨ w5.heap.size ≤ y) ∧ Turn p.Fs w5 w5) := Lib.hid ⟨fun y h => .inl h, Turn.refl _ _⟩
                clear hTT hTTp
                go_upto_region 15 with fail
                clear x5 v4
                go_loopw [96] (fun iv wr => ∃ (k : Nat) (Fk : Nat → Prop), k ≤ ln ∧ iv = .int .i64 k ∧ Hid (St Fk wr p.s (layC C.hor ⟨aw, at1, am⟩ C.M (dws.take k)) (N + k)) ∧ Hid ((∀ y, Fk y → p.Fs y ∨ w5.heap.size ≤ y) ∧ Turn p.Fs w5 wr)) (fun iv _ => ln - (intOf iv).toNat)
                case atStart => exact ⟨0, _, by omega, rfl, HSt0, HTk0⟩
                case round =>
                  clear HSt0 HTk0
                  obtain ⟨k, Fk, hk, rfl, HSt, HTk⟩ := hrel
                  have HCr := Lib.hid (blk_keep HTk.out.2 HC5.out H.out.nc)
                  have HXr := Lib.hid (blk_keep HTk.out.2 HX5.out HNg.out.1)
                  have HQr := Lib.hid (blk_keep HTk.out.2 HQ5.out HNg.out.2.2)
                  have HYr := Lib.hid (blk_keep HTk.out.2 HY5.out HNg.out.2.1)
                  have HFkn : Hid (¬ Fk c ∧ ¬ Fk g ∧ ¬ Fk (g + 1) ∧ ¬ Fk g5) := Lib.hid (by
                    have h1 := Hgl5.out
                    have h2 := HNg.out
                    refine ⟨fun e => ?_, fun e => ?_, fun e => ?_, fun e => ?_⟩ <;> (rcases HTk.out.1 _ e with h | h)
                    · exact H.out.nc h
                    · omega
                    · exact h2.1 h
                    · omega
                    · exact h2.2.1 h
                    · omega
                    · exact h2.2.2 h
                    · omega)
                  by_cases hlt : k < ln
                  · have Hlt := Lib.hid hlt
                    obtain ⟨x, hx⟩ : ∃ x, TT[k]? = some x := ⟨TT[k]'(by have := HTl2.out; have := HLn.out; omega), List.getElem?_eq_getElem _⟩
                    have HSn : Hid (∀ t L, layC C.hor t L (dws.take (k + 1)) = if C.hor ≤ x.pl.t then (putP (layC C.hor t L (dws.take k)) x.pl t).2 else layC C.hor t L (dws.take k)) := Lib.hid (fun t L => lay_snoc (by rw [← HTp.out, List.getElem?_map, hx]; rfl))
                    have HRx : Hid (RightWp x.pl) := Lib.hid (HBt2.out.2.2.1 _ (by rw [← HTp.out]; exact List.mem_map_of_mem (List.mem_of_getElem? hx)))
                    have hrd : RdBT F wr (.slice sa dws.length sc) TT := HTT.out.keep (HT15.out.trans HTk.out.2 (fun y hy => .inl (H.out.sub y hy))) (fun _ h => .inl h)
                    have HSv := Lib.hid (hrd.sets x (List.mem_of_getElem? hx)).1
                    obtain ⟨a', c', e', -, -, hc⟩ := hrd.rd.open
                    injection e' with e1 e2 e3
                    subst e1 e3
                    obtain ⟨b, o, hsa, hbl, c0, c1, c2, c3, c4⟩ := hc k x hx
                    subst hsa
                    obtain ⟨va2, vc2, hsv, -⟩ := HSv.out.open
                    obtain ⟨st, xt, xk, xn, xx, sv⟩ := x
                    simp only at c0 c1 c2 c3 c4 hsv
                    subst hsv
                    have hk1 : (0 : Int) ≤ (k : Int) := by omega
                    have hk2 : (k : Int) < (ln : Int) := by omega
                    have HX8 := Lib.hid (Blk.new wr #[.slice va2 st.length vc2, .int .i64 xt, .int .i64 xk, .int .i64 xn, .string xx] 87)
                    have HBx8 := Lib.hid (below_alloc wr (.cells #[.slice va2 st.length vc2, .int .i64 xt, .int .i64 xk, .int .i64 xn, .string xx] 87))
                    have HFx : Hid (¬ Fk wr.heap.size) := Lib.hid (fun e => by have := HSt.out.lt _ e; omega)
                    clear hc hrd e2 hx hlt
                    go_upto_region 17 with fail
                    clear c0 c1 c2 c3 c4
                    generalize wr.alloc (.cells #[.slice va2 st.length vc2, .int .i64 xt, .int .i64 xk, .int .i64 xn, .string xx] 87) = w8 at HX8 HBx8 ⊢
                    generalize wr.heap.size = g8 at HX8 HFx ⊢
                    have c11 : w8.cell? ⟨c, 11, none⟩ = some (.int .i64 C.hor) := by simpa [ccells] using (HCr.out.next HBx8.out).cell 11
                    have b1 : w8.cell? ⟨g8, 1, none⟩ = some (.int .i64 xt) := HX8.out.cell 1
                    by_cases hh : C.hor ≤ xt
                    · have hhb : decide (C.hor ≤ xt) = true := by simpa using hh
                      have HLy : Hid (∀ t L, layC C.hor t L (dws.take (k + 1)) = (putS (layC C.hor t L (dws.take k)) ⟨st, xt, xk, xn, xx, .slice va2 st.length vc2⟩ t).2) := Lib.hid (fun t L => (HSn.out t L).trans (if_pos hh))
                      clear hh
                      go_quiet (fail)
                      have HBx9 := Lib.hid (bel_drewN HBx8.out nq)
                      have HX9 := Lib.hid (HX8.out.next (bel_drewN (bel_refl w8) nq))
                      clear c11 b1 hhb
                      generalize w8.drewN nq = w9 at HBx9 HX9 ⊢
                      have HC9 := Lib.hid (HCr.out.next HBx9.out)
                      have HXc9 := Lib.hid (HXr.out.next HBx9.out)
                      have HSt9 := Lib.hid (HSt.out.next HBx9.out)
                      have HPut := Lib.hid (fun (W : World) (hW : Below w9.heap.size w9 W) => put_from ⟨st, xt, xk, xn, xx, .slice va2 st.length vc2⟩ ⟨aw, at1, am⟩ w9 HSt9.out (by have := HL64.out; have := Hlt.out; omega) (HSv.out.below HBx9.out) (right_fit HRx.out.1) (by have := HRx.out.2.2.2.2.2.2.1; simp only [Wr.pl] at this; simp only [maxLen]; omega) W hW)
                      unfold Tm.val wagg at HPut
                      simp only at HPut
                      have hcl : c < w9.heap.size := HC9.out.lt
                      have hgl : g < w9.heap.size := HXc9.out.lt
                      have hg8l : g8 < w9.heap.size := HX9.out.lt
                      have HKs : Hid (∀ W, Below w9.heap.size w9 W → W.cell? ⟨c, 1, none⟩ = some (.pointer (some ⟨p.s, 0, none⟩)) ∧ W.cell? ⟨g, 2, none⟩ = some (.int .i64 aw) ∧ W.cell? ⟨g, 3, none⟩ = some (.int .u32 at1) ∧ W.cell? ⟨g, 4, none⟩ = some (.int .u32 am) ∧ W.cell? ⟨g8, 0, none⟩ = some (.slice va2 st.length vc2) ∧ W.cell? ⟨g8, 1, none⟩ = some (.int .i64 xt) ∧ W.cell? ⟨g8, 2, none⟩ = some (.int .i64 xk) ∧ W.cell? ⟨g8, 3, none⟩ = some (.int .i64 xn) ∧ W.cell? ⟨g8, 4, none⟩ = some (.string xx)) := Lib.hid (fun W hW => ⟨by simpa [ccells] using (HC9.out.next hW).cell 1, (HXc9.out.next hW).cell 2, (HXc9.out.next hW).cell 3, (HXc9.out.next hW).cell 4, (HX9.out.next hW).cell 0, (HX9.out.next hW).cell 1, (HX9.out.next hW).cell 2, (HX9.out.next hW).cell 3, (HX9.out.next hW).cell 4⟩)
                      have hx0 := bel_refl w9
                      obtain ⟨q0, q1, q2, q3, q4, q5, q6, q7, q8⟩ := HKs.out w9 hx0
                      go_wp2_with fail
                      go_region_held3 (fun W => W.cell? ⟨c, 1, none⟩ = some (.pointer (some ⟨p.s, 0, none⟩)) ∧ W.cell? ⟨g, 2, none⟩ = some (.int .i64 aw) ∧ W.cell? ⟨g, 3, none⟩ = some (.int .u32 at1) ∧ W.cell? ⟨g, 4, none⟩ = some (.int .u32 am) ∧ W.cell? ⟨g8, 0, none⟩ = some (.slice va2 st.length vc2) ∧ W.cell? ⟨g8, 1, none⟩ = some (.int .i64 xt) ∧ W.cell? ⟨g8, 2, none⟩ = some (.int .i64 xk) ∧ W.cell? ⟨g8, 3, none⟩ = some (.int .i64 xn) ∧ W.cell? ⟨g8, 4, none⟩ = some (.string xx))
                        (first | (with_reducible exact ⟨q0, q1, q2, q3, q4, q5, q6, q7, q8⟩) | (with_reducible exact ⟨y0, y1, y2, y3, y4, y5, y6, y7, y8⟩) | (with_reducible refine HKs.out _ ?_; (repeat (first | assumption | apply bel_alloc | apply bel_drew)); done) | go_keep)
                        (first
                          | (go_simp; go_at_call 131; refine (HPut.out _ (by repeat (first | exact bel_refl _ | assumption | apply bel_alloc | apply bel_drew))).mono ?_; rintro e w10 ⟨rfl, F7, h7, hF7, ht7⟩; have hc9 := blk_keep ht7 HC9.out HFkn.out.1; have hx9 := blk_keep ht7 HXc9.out HFkn.out.2.1; have hb9 := blk_keep ht7 HX9.out HFx.out; have HH7 := Lib.hid h7; have HF7 := Lib.hid hF7; have HT10 := Lib.hid ((HTk.out.2.next HBx9.out).trans ht7 HTk.out.1); have y0 : w10.cell? ⟨c, 1, none⟩ = some (.pointer (some ⟨p.s, 0, none⟩)) := (by simpa [ccells] using hc9.cell 1); have y1 : w10.cell? ⟨g, 2, none⟩ = some (.int .i64 aw) := hx9.cell 2; have y2 : w10.cell? ⟨g, 3, none⟩ = some (.int .u32 at1) := hx9.cell 3; have y3 : w10.cell? ⟨g, 4, none⟩ = some (.int .u32 am) := hx9.cell 4; have y4 : w10.cell? ⟨g8, 0, none⟩ = some (.slice va2 st.length vc2) := hb9.cell 0; have y5 : w10.cell? ⟨g8, 1, none⟩ = some (.int .i64 xt) := hb9.cell 1; have y6 : w10.cell? ⟨g8, 2, none⟩ = some (.int .i64 xk) := hb9.cell 2; have y7 : w10.cell? ⟨g8, 3, none⟩ = some (.int .i64 xn) := hb9.cell 3; have y8 : w10.cell? ⟨g8, 4, none⟩ = some (.string xx) := hb9.cell 4; clear h7 hF7 ht7 hc9 hx9 hb9))
                      clear q0 q1 q2 q3 q4 q5 q6 q7 q8 HKs hx0 hcl hgl hg8l HPut
                      clear y0 y1 y2 y3 y4 y5 y6 y7 y8
                      go_wp2_with fail
                      go_roundw
                      case rel => exact ⟨k + 1, F7, Hlt.out, by have h1 := Hlt.out; have h2 := HL64.out; rw [IntWalk.wrap64_in _ ⟨by omega, by omega⟩]; rfl, Lib.hid (by rw [HLy.out, ← Nat.add_assoc]; exact HH7.out), Lib.hid ⟨fun y hy => by
                        rcases HF7.out y hy with h | h
                        · exact HTk.out.1 y h
                        · exact .inr (Nat.le_trans HTk.out.2.size (Nat.le_trans HBx9.out.size h)), HT10.out⟩⟩
                      case measure => have h1 := Hlt.out; have h2 := HL64.out; rw [IntWalk.wrap64_in _ ⟨by omega, by omega⟩]; simp [intOf]; omega
                    · have hhb : decide (C.hor ≤ xt) = false := by simpa using hh
                      have HLy : Hid (∀ t L, layC C.hor t L (dws.take (k + 1)) = layC C.hor t L (dws.take k)) := Lib.hid (fun t L => (HSn.out t L).trans (if_neg hh))
                      clear hh
                      go_quiet (fail)
                      have HBx9 := Lib.hid (bel_drewN HBx8.out nq)
                      go_wp2_with fail
                      clear c11 b1 hhb
                      go_roundw
                      case rel => exact ⟨k + 1, Fk, Hlt.out, by have h1 := Hlt.out; have h2 := HL64.out; rw [IntWalk.wrap64_in _ ⟨by omega, by omega⟩]; rfl, Lib.hid (by rw [HLy.out, ← Nat.add_assoc]; exact (HSt.out.next HBx9.out).more (Nat.le_succ _)), Lib.hid ⟨HTk.out.1, HTk.out.2.next HBx9.out⟩⟩
                      case measure => have h1 := Hlt.out; have h2 := HL64.out; rw [IntWalk.wrap64_in _ ⟨by omega, by omega⟩]; simp [intOf]; omega
                  · obtain rfl : ln = k := by omega
                    have HLk : Hid (layC C.hor ⟨aw, at1, am⟩ C.M (dws.take ln) = layC C.hor ⟨aw, at1, am⟩ C.M dws) := Lib.hid (by rw [List.take_of_length_le (Nat.le_of_eq HLn.out)])
                    have x2 : wr.cell? ⟨g, 2, none⟩ = some (.int .i64 aw) := HXr.out.cell 2
                    have x3 : wr.cell? ⟨g, 3, none⟩ = some (.int .u32 at1) := HXr.out.cell 3
                    have x4 : wr.cell? ⟨g, 4, none⟩ = some (.int .u32 am) := HXr.out.cell 4
                    have hgg5 : g ≠ g5 := by have := HG.out; have := HX.out.lt; omega
                    have v0 : wr.cell? ⟨g5, 0, none⟩ = some (.int .i64 ds) := HQr.out.cell 0
                    have u0 : wr.frozen? ⟨g5, 0, none⟩ = false := HQr.out.free 0
                    have v1 : wr.cell? ⟨g5, 1, none⟩ = some (.int .i64 dw) := HQr.out.cell 1
                    have u1 : wr.frozen? ⟨g5, 1, none⟩ = false := HQr.out.free 1
                    have v2 : wr.cell? ⟨g5, 2, none⟩ = some (.int .u32 dt) := HQr.out.cell 2
                    have u2 : wr.frozen? ⟨g5, 2, none⟩ = false := HQr.out.free 2
                    have v3 : wr.cell? ⟨g5, 3, none⟩ = some (.int .u32 dm) := HQr.out.cell 3
                    have u3 : wr.frozen? ⟨g5, 3, none⟩ = false := HQr.out.free 3
                    have v4 : wr.cell? ⟨g5, 4, none⟩ = some (.slice sa ln sc) := HQr.out.cell 4
                    have u4 : wr.frozen? ⟨g5, 4, none⟩ = false := HQr.out.free 4
                    go_upto_region 22 with fail
                    clear x2 x3 x4
                    clear v0 u0 v1 u1 v2 u2 v3 u3 v4 u4
                    have HTw : Hid (Turn (fun y => y = c ∨ p.Fs y) w (((((wr.setCell ⟨g5, 0, none⟩ (.int .i64 2)).setCell ⟨g5, 1, none⟩ (.int .i64 aw)).setCell ⟨g5, 2, none⟩ (.int .u32 at1)).setCell ⟨g5, 3, none⟩ (.int .u32 am)).setCell ⟨g5, 4, none⟩ (.slice none 0 0))) := Lib.hid (turn5 (by have := HG.out; omega) ((HT5.out.mono (G := fun y => y = c ∨ p.Fs y) (fun y hy => .inl hy)).trans HTk.out.2 (fun y hy => .inl (.inr hy))))
                    have HCw : Hid (Blk (((((wr.setCell ⟨g5, 0, none⟩ (.int .i64 2)).setCell ⟨g5, 1, none⟩ (.int .i64 aw)).setCell ⟨g5, 2, none⟩ (.int .u32 at1)).setCell ⟨g5, 3, none⟩ (.int .u32 am)).setCell ⟨g5, 4, none⟩ (.slice none 0 0)) c ((ccells C p).setIfInBounds 3 (.int .i64 ((heldD C.deeds : Int) - (ln : Int)))) 140) := Lib.hid (blk_keep (own5 wr g5) HCr.out (fun e => hg5c e.symm))
                    have HQw : Hid (Blk (((((wr.setCell ⟨g5, 0, none⟩ (.int .i64 2)).setCell ⟨g5, 1, none⟩ (.int .i64 aw)).setCell ⟨g5, 2, none⟩ (.int .u32 at1)).setCell ⟨g5, 3, none⟩ (.int .u32 am)).setCell ⟨g5, 4, none⟩ (.slice none 0 0)) g5 #[.int .i64 2, .int .i64 aw, .int .u32 at1, .int .u32 am, .slice none 0 0] 181) := Lib.hid (set5d HQr.out _ _ _ _ _)
                    have HXw : Hid (Blk (((((wr.setCell ⟨g5, 0, none⟩ (.int .i64 2)).setCell ⟨g5, 1, none⟩ (.int .i64 aw)).setCell ⟨g5, 2, none⟩ (.int .u32 at1)).setCell ⟨g5, 3, none⟩ (.int .u32 am)).setCell ⟨g5, 4, none⟩ (.slice none 0 0)) g #[.int .i64 kd, .int .u32 dd, .int .i64 aw, .int .u32 at1, .int .u32 am, .bool true, .string tk, .int .i64 nn, .int .i64 id, .slice va T.length vc] 50) := Lib.hid (blk_keep (own5 wr g5) HXr.out (fun e => hgg5 e))
                    have HYw : Hid (Blk (((((wr.setCell ⟨g5, 0, none⟩ (.int .i64 2)).setCell ⟨g5, 1, none⟩ (.int .i64 aw)).setCell ⟨g5, 2, none⟩ (.int .u32 at1)).setCell ⟨g5, 3, none⟩ (.int .u32 am)).setCell ⟨g5, 4, none⟩ (.slice none 0 0)) (g + 1) #[.int .i64 0, .int .u32 0, .int .i64 0, .int .i64 0, .int .u32 0, .int .u32 0] 46) := Lib.hid (blk_keep (own5 wr g5) HYr.out (fun e => by omega))
                    have HSw : Hid (St Fk (((((wr.setCell ⟨g5, 0, none⟩ (.int .i64 2)).setCell ⟨g5, 1, none⟩ (.int .i64 aw)).setCell ⟨g5, 2, none⟩ (.int .u32 at1)).setCell ⟨g5, 3, none⟩ (.int .u32 am)).setCell ⟨g5, 4, none⟩ (.slice none 0 0)) p.s (layC C.hor ⟨aw, at1, am⟩ C.M dws) (N + 64)) := Lib.hid (by rw [← HLk.out]; exact (HSt.out.keep (own5 wr g5) (fun x hx e => HFkn.out.2.2.2 (e ▸ hx))).more (by have := HL64.out; omega))
                    have HFw : Hid (∀ y, Fk y → p.Fs y ∨ w.heap.size ≤ y) := Lib.hid (fun y h => (HTk.out.1 y h).imp (fun q => q) (Nat.le_trans HT5.out.size))
                    have HGw : Hid (¬ Fk (g + 1)) := Lib.hid HFkn.out.2.2.1
                    generalize (((((wr.setCell ⟨g5, 0, none⟩ (.int .i64 2)).setCell ⟨g5, 1, none⟩ (.int .i64 aw)).setCell ⟨g5, 2, none⟩ (.int .u32 at1)).setCell ⟨g5, 3, none⟩ (.int .u32 am)).setCell ⟨g5, 4, none⟩ (.slice none 0 0)) = w9 at HTw HCw HQw HXw HYw HSw ⊢
                    have HDd : Hid (MapIs Tryz.prog 24 w9.drew p.dm p.fd C.deeds.length) := Lib.hid (map_keep (HTw.out.next (bel_drew (bel_refl _))) H.out.deeds.map (fun e => by
                      rcases e with e | e
                      · exact H.out.cd e.symm
                      · exact H.out.nd e))
                    obtain ⟨w14, hr14, hm14, hg14⟩ := HDd.out.put key24 Tryz.underlying136 (by have := H.out.inv.ndeed; simp only [maxLen]; omega) (dval ⟨dd, 2, ⟨aw, at1, am⟩, []⟩ (.slice none 0 0)) (keyOf24 hddr) trivial
                    have HM14 := Lib.hid hm14
                    have HG14 := Lib.hid hg14
                    have hd5 : g5 ≠ p.dm := by have := HG.out; omega
                    have hd0 : g ≠ p.dm := by omega
                    have hd1 : g + 1 ≠ p.dm := by omega
                    have HQ14 := Lib.hid ((HQw.out.next (bel_drew (bel_refl _))).grown hg14 (fun e => hd5 (by injection e with e; exact e.symm)))
                    have HX14 := Lib.hid ((HXw.out.next (bel_drew (bel_refl _))).grown hg14 (fun e => hd0 (by injection e with e; exact e.symm)))
                    have HY14 := Lib.hid ((HYw.out.next (bel_drew (bel_refl _))).grown hg14 (fun e => hd1 (by injection e with e; exact e.symm)))
                    clear hm14 hg14
                    unfold dval at hr14
                    simp only at hr14
                    have c2 : w9.cell? ⟨c, 2, none⟩ = some (.map (some p.dm)) := by simpa [ccells] using HCw.out.cell 2
                    have x1 : w9.cell? ⟨g, 1, none⟩ = some (.int .u32 dd) := HXw.out.cell 1
                    have k0 : w9.cell? ⟨g5, 0, none⟩ = some (.int .i64 2) := HQw.out.cell 0
                    have k1 : w9.cell? ⟨g5, 1, none⟩ = some (.int .i64 aw) := HQw.out.cell 1
                    have k2 : w9.cell? ⟨g5, 2, none⟩ = some (.int .u32 at1) := HQw.out.cell 2
                    have k3 : w9.cell? ⟨g5, 3, none⟩ = some (.int .u32 am) := HQw.out.cell 3
                    have k4 : w9.cell? ⟨g5, 4, none⟩ = some (.slice none 0 0) := HQw.out.cell 4
                    go_upto_region 22 with fail
                    go_region
                    clear c2 x1 k0 k1 k2 k3 k4 hr14
                    have HTl := Lib.hid (fun W => dtold_any ⟨dd, 2, ⟨aw, at1, am⟩, []⟩ none 0 0 W)
                    unfold replyV replyA dval Dd.told at HTl
                    simp only at HTl
                    have x1 : w14.cell? ⟨g, 1, none⟩ = some (.int .u32 dd) := HX14.out.cell 1
                    have k0 : w14.cell? ⟨g5, 0, none⟩ = some (.int .i64 2) := HQ14.out.cell 0
                    have k1 : w14.cell? ⟨g5, 1, none⟩ = some (.int .i64 aw) := HQ14.out.cell 1
                    have k2 : w14.cell? ⟨g5, 2, none⟩ = some (.int .u32 at1) := HQ14.out.cell 2
                    have k3 : w14.cell? ⟨g5, 3, none⟩ = some (.int .u32 am) := HQ14.out.cell 3
                    have k4 : w14.cell? ⟨g5, 4, none⟩ = some (.slice none 0 0) := HQ14.out.cell 4
                    have HYf14 : Hid (∀ W, Below w14.heap.size w14 W → W.cell? ⟨g + 1, 0, none⟩ = some (.int .i64 0) ∧ W.frozen? ⟨g + 1, 0, none⟩ = false ∧ W.cell? ⟨g + 1, 1, none⟩ = some (.int .u32 0) ∧ W.frozen? ⟨g + 1, 1, none⟩ = false ∧ W.cell? ⟨g + 1, 2, none⟩ = some (.int .i64 0) ∧ W.frozen? ⟨g + 1, 2, none⟩ = false ∧ W.cell? ⟨g + 1, 3, none⟩ = some (.int .i64 0) ∧ W.frozen? ⟨g + 1, 3, none⟩ = false ∧ W.cell? ⟨g + 1, 4, none⟩ = some (.int .u32 0) ∧ W.frozen? ⟨g + 1, 4, none⟩ = false ∧ W.cell? ⟨g + 1, 5, none⟩ = some (.int .u32 0) ∧ W.frozen? ⟨g + 1, 5, none⟩ = false) := Lib.hid (fun W hW => ⟨(HY14.out.next hW).cell 0, (HY14.out.next hW).free 0, (HY14.out.next hW).cell 1, (HY14.out.next hW).free 1, (HY14.out.next hW).cell 2, (HY14.out.next hW).free 2, (HY14.out.next hW).cell 3, (HY14.out.next hW).free 3, (HY14.out.next hW).cell 4, (HY14.out.next hW).free 4, (HY14.out.next hW).cell 5, (HY14.out.next hW).free 5⟩)
                    have Hi := Lib.hid hi
                    clear hi
                    go_wp2_with (first
                      | (go_at_call 89; refine (HTl.out _).mono ?_; rintro e w16 ⟨rfl, hb16⟩; have HB16 := Lib.hid hb16; clear hb16; obtain ⟨y0, f0, y1, f1, y2, f2, y3, f3, y4, f4, y5, f5⟩ := HYf14.out w16 HB16.out)
                      | fail)
                    have hY := set6 (HY14.out.next HB16.out) (.int .i64 0) (.int .u32 dd) (.int .i64 2) (.int .i64 aw) (.int .u32 at1) (.int .u32 am)
                    have z0 : ((((((w16.setCell ⟨g + 1, 0, none⟩ (.int .i64 0)).setCell ⟨g + 1, 1, none⟩ (.int .u32 dd)).setCell ⟨g + 1, 2, none⟩ (.int .i64 2)).setCell ⟨g + 1, 3, none⟩ (.int .i64 aw)).setCell ⟨g + 1, 4, none⟩ (.int .u32 at1)).setCell ⟨g + 1, 5, none⟩ (.int .u32 am)).cell? ⟨g + 1, 0, none⟩ = some (.int .i64 0) := hY.cell 0
                    have z1 : ((((((w16.setCell ⟨g + 1, 0, none⟩ (.int .i64 0)).setCell ⟨g + 1, 1, none⟩ (.int .u32 dd)).setCell ⟨g + 1, 2, none⟩ (.int .i64 2)).setCell ⟨g + 1, 3, none⟩ (.int .i64 aw)).setCell ⟨g + 1, 4, none⟩ (.int .u32 at1)).setCell ⟨g + 1, 5, none⟩ (.int .u32 am)).cell? ⟨g + 1, 1, none⟩ = some (.int .u32 dd) := hY.cell 1
                    have z2 : ((((((w16.setCell ⟨g + 1, 0, none⟩ (.int .i64 0)).setCell ⟨g + 1, 1, none⟩ (.int .u32 dd)).setCell ⟨g + 1, 2, none⟩ (.int .i64 2)).setCell ⟨g + 1, 3, none⟩ (.int .i64 aw)).setCell ⟨g + 1, 4, none⟩ (.int .u32 at1)).setCell ⟨g + 1, 5, none⟩ (.int .u32 am)).cell? ⟨g + 1, 2, none⟩ = some (.int .i64 2) := hY.cell 2
                    have z3 : ((((((w16.setCell ⟨g + 1, 0, none⟩ (.int .i64 0)).setCell ⟨g + 1, 1, none⟩ (.int .u32 dd)).setCell ⟨g + 1, 2, none⟩ (.int .i64 2)).setCell ⟨g + 1, 3, none⟩ (.int .i64 aw)).setCell ⟨g + 1, 4, none⟩ (.int .u32 at1)).setCell ⟨g + 1, 5, none⟩ (.int .u32 am)).cell? ⟨g + 1, 3, none⟩ = some (.int .i64 aw) := hY.cell 3
                    have z4 : ((((((w16.setCell ⟨g + 1, 0, none⟩ (.int .i64 0)).setCell ⟨g + 1, 1, none⟩ (.int .u32 dd)).setCell ⟨g + 1, 2, none⟩ (.int .i64 2)).setCell ⟨g + 1, 3, none⟩ (.int .i64 aw)).setCell ⟨g + 1, 4, none⟩ (.int .u32 at1)).setCell ⟨g + 1, 5, none⟩ (.int .u32 am)).cell? ⟨g + 1, 4, none⟩ = some (.int .u32 at1) := hY.cell 4
                    have z5 : ((((((w16.setCell ⟨g + 1, 0, none⟩ (.int .i64 0)).setCell ⟨g + 1, 1, none⟩ (.int .u32 dd)).setCell ⟨g + 1, 2, none⟩ (.int .i64 2)).setCell ⟨g + 1, 3, none⟩ (.int .i64 aw)).setCell ⟨g + 1, 4, none⟩ (.int .u32 at1)).setCell ⟨g + 1, 5, none⟩ (.int .u32 am)).cell? ⟨g + 1, 5, none⟩ = some (.int .u32 am) := hY.cell 5
                    refine bodyPost_ret (v := .agg #[.int .i64 0, .int .u32 dd, .int .i64 2, .int .i64 aw, .int .u32 at1, .int .u32 am]) (by simp [results, Tryz.results54, go_sem, z0, z1, z2, z3, z4, z5]) rfl ?_
                    exact res_end (d := ⟨di, ds, ⟨dw, dt, dm⟩, dws⟩) (d' := ⟨dd, 2, ⟨aw, at1, am⟩, []⟩) (M' := (layC C.hor ⟨aw, at1, am⟩ C.M dws)) H.out (Nat.le_of_eq hg) HFd2.out.1 rfl HSw.out HFw.out HGw.out HTw.out HCw.out (by rw [← HLn.out]) HM14.out rfl HG14.out HB16.out (by rw [HE.out]; rfl) (by rw [HE.out]; rfl) Hi.out
              · have hmb : (am == dd) = false := bne_of hm
                have hmb2 : (am != dd) = true := by simp [hm]
                have HE : Hid (resolveC C ⟨kd, dd, ⟨aw, at1, am⟩, true, tk, nn, id, ws⟩ = (bad 1, C)) := Lib.hid (res_arg (m := ⟨kd, dd, ⟨aw, at1, am⟩, true, tk, nn, id, ws⟩) HFd2.out.1 HFd2.out.2 H0.out HBn.out ⟨rfl, .inl (fun h => hm h.2)⟩)
                clear hi hr hm
                go_upto_region 11 with (first
                  | (go_at_call 73; refine (HR.out _).mono ?_; rintro e w3 ⟨rfl, hb3⟩; have HB3 := Lib.hid (bel_trans HBc.out hb3); have HB23 := Lib.hid hb3; clear hb3; have X1 : w3.cell? ⟨g, 1, none⟩ = some (.int .u32 dd) := (HX.out.next HB3.out).cell 1; have X2 : w3.cell? ⟨g, 2, none⟩ = some (.int .i64 aw) := (HX.out.next HB3.out).cell 2; have X3 : w3.cell? ⟨g, 3, none⟩ = some (.int .u32 at1) := (HX.out.next HB3.out).cell 3; have X4 : w3.cell? ⟨g, 4, none⟩ = some (.int .u32 am) := (HX.out.next HB3.out).cell 4; have hq3 := HQb.out.next HB23.out; have V1 : w3.cell? ⟨g5, 1, none⟩ = some (.int .i64 dw) := hq3.cell 1; have V2 : w3.cell? ⟨g5, 2, none⟩ = some (.int .u32 dt) := hq3.cell 2; have V3 : w3.cell? ⟨g5, 3, none⟩ = some (.int .u32 dm) := hq3.cell 3; clear hq3)
                  | fail)
                clear x1 x2 x3 x4 x5 X1 X2 X3 X4 V1 V2 V3
                have y0 : w3.cell? ⟨g + 1, 0, none⟩ = some (.int .i64 0) := (HY.out.next HB3.out).cell 0
                have f0 : w3.frozen? ⟨g + 1, 0, none⟩ = false := (HY.out.next HB3.out).free 0
                have y1 : w3.cell? ⟨g + 1, 1, none⟩ = some (.int .u32 0) := (HY.out.next HB3.out).cell 1
                have f1 : w3.frozen? ⟨g + 1, 1, none⟩ = false := (HY.out.next HB3.out).free 1
                have y2 : w3.cell? ⟨g + 1, 2, none⟩ = some (.int .i64 0) := (HY.out.next HB3.out).cell 2
                have f2 : w3.frozen? ⟨g + 1, 2, none⟩ = false := (HY.out.next HB3.out).free 2
                have y3 : w3.cell? ⟨g + 1, 3, none⟩ = some (.int .i64 0) := (HY.out.next HB3.out).cell 3
                have f3 : w3.frozen? ⟨g + 1, 3, none⟩ = false := (HY.out.next HB3.out).free 3
                have y4 : w3.cell? ⟨g + 1, 4, none⟩ = some (.int .u32 0) := (HY.out.next HB3.out).cell 4
                have f4 : w3.frozen? ⟨g + 1, 4, none⟩ = false := (HY.out.next HB3.out).free 4
                have y5 : w3.cell? ⟨g + 1, 5, none⟩ = some (.int .u32 0) := (HY.out.next HB3.out).cell 5
                have f5 : w3.frozen? ⟨g + 1, 5, none⟩ = false := (HY.out.next HB3.out).free 5
                go_wp2_with fail
                have hY := set6 (HY.out.next HB3.out) (.int .i64 1) (.int .u32 0) (.int .i64 0) (.int .i64 0) (.int .u32 0) (.int .u32 0)
                have z0 : ((((((w3.setCell ⟨g + 1, 0, none⟩ (.int .i64 1)).setCell ⟨g + 1, 1, none⟩ (.int .u32 0)).setCell ⟨g + 1, 2, none⟩ (.int .i64 0)).setCell ⟨g + 1, 3, none⟩ (.int .i64 0)).setCell ⟨g + 1, 4, none⟩ (.int .u32 0)).setCell ⟨g + 1, 5, none⟩ (.int .u32 0)).cell? ⟨g + 1, 0, none⟩ = some (.int .i64 1) := hY.cell 0
                have z1 : ((((((w3.setCell ⟨g + 1, 0, none⟩ (.int .i64 1)).setCell ⟨g + 1, 1, none⟩ (.int .u32 0)).setCell ⟨g + 1, 2, none⟩ (.int .i64 0)).setCell ⟨g + 1, 3, none⟩ (.int .i64 0)).setCell ⟨g + 1, 4, none⟩ (.int .u32 0)).setCell ⟨g + 1, 5, none⟩ (.int .u32 0)).cell? ⟨g + 1, 1, none⟩ = some (.int .u32 0) := hY.cell 1
                have z2 : ((((((w3.setCell ⟨g + 1, 0, none⟩ (.int .i64 1)).setCell ⟨g + 1, 1, none⟩ (.int .u32 0)).setCell ⟨g + 1, 2, none⟩ (.int .i64 0)).setCell ⟨g + 1, 3, none⟩ (.int .i64 0)).setCell ⟨g + 1, 4, none⟩ (.int .u32 0)).setCell ⟨g + 1, 5, none⟩ (.int .u32 0)).cell? ⟨g + 1, 2, none⟩ = some (.int .i64 0) := hY.cell 2
                have z3 : ((((((w3.setCell ⟨g + 1, 0, none⟩ (.int .i64 1)).setCell ⟨g + 1, 1, none⟩ (.int .u32 0)).setCell ⟨g + 1, 2, none⟩ (.int .i64 0)).setCell ⟨g + 1, 3, none⟩ (.int .i64 0)).setCell ⟨g + 1, 4, none⟩ (.int .u32 0)).setCell ⟨g + 1, 5, none⟩ (.int .u32 0)).cell? ⟨g + 1, 3, none⟩ = some (.int .i64 0) := hY.cell 3
                have z4 : ((((((w3.setCell ⟨g + 1, 0, none⟩ (.int .i64 1)).setCell ⟨g + 1, 1, none⟩ (.int .u32 0)).setCell ⟨g + 1, 2, none⟩ (.int .i64 0)).setCell ⟨g + 1, 3, none⟩ (.int .i64 0)).setCell ⟨g + 1, 4, none⟩ (.int .u32 0)).setCell ⟨g + 1, 5, none⟩ (.int .u32 0)).cell? ⟨g + 1, 4, none⟩ = some (.int .u32 0) := hY.cell 4
                have z5 : ((((((w3.setCell ⟨g + 1, 0, none⟩ (.int .i64 1)).setCell ⟨g + 1, 1, none⟩ (.int .u32 0)).setCell ⟨g + 1, 2, none⟩ (.int .i64 0)).setCell ⟨g + 1, 3, none⟩ (.int .i64 0)).setCell ⟨g + 1, 4, none⟩ (.int .u32 0)).setCell ⟨g + 1, 5, none⟩ (.int .u32 0)).cell? ⟨g + 1, 5, none⟩ = some (.int .u32 0) := hY.cell 5
                refine bodyPost_ret (v := .agg #[.int .i64 1, .int .u32 0, .int .i64 0, .int .i64 0, .int .u32 0, .int .u32 0]) (by simp [results, Tryz.results54, go_sem, z0, z1, z2, z3, z4, z5]) rfl ?_
                exact post_same (H.out.more (Nat.le_add_right N 64)) (by rw [HE.out]; rfl) (by rw [HE.out]) (bel6 hg (HBr.out _ HB3.out))
            · have hd : decide (tmR ⟨aw, at1, am⟩) = false := by simpa using hr
              rw [hd] at HR
              have HE : Hid (resolveC C ⟨kd, dd, ⟨aw, at1, am⟩, true, tk, nn, id, ws⟩ = (bad 1, C)) := Lib.hid (res_arg (m := ⟨kd, dd, ⟨aw, at1, am⟩, true, tk, nn, id, ws⟩) HFd2.out.1 HFd2.out.2 H0.out HBn.out ⟨rfl, .inl (fun h => hr h.1)⟩)
              clear hi hr hd
              go_upto_region 11 with (first
                | (go_at_call 73; refine (HR.out _).mono ?_; rintro e w3 ⟨rfl, hb3⟩; have HB3 := Lib.hid (bel_trans HBc.out hb3); have HB23 := Lib.hid hb3; clear hb3; have X1 : w3.cell? ⟨g, 1, none⟩ = some (.int .u32 dd) := (HX.out.next HB3.out).cell 1; have X2 : w3.cell? ⟨g, 2, none⟩ = some (.int .i64 aw) := (HX.out.next HB3.out).cell 2; have X3 : w3.cell? ⟨g, 3, none⟩ = some (.int .u32 at1) := (HX.out.next HB3.out).cell 3; have X4 : w3.cell? ⟨g, 4, none⟩ = some (.int .u32 am) := (HX.out.next HB3.out).cell 4; have hq3 := HQb.out.next HB23.out; have V1 : w3.cell? ⟨g5, 1, none⟩ = some (.int .i64 dw) := hq3.cell 1; have V2 : w3.cell? ⟨g5, 2, none⟩ = some (.int .u32 dt) := hq3.cell 2; have V3 : w3.cell? ⟨g5, 3, none⟩ = some (.int .u32 dm) := hq3.cell 3; clear hq3)
                | fail)
              clear x1 x2 x3 x4 x5 X1 X2 X3 X4 V1 V2 V3
              have y0 : w3.cell? ⟨g + 1, 0, none⟩ = some (.int .i64 0) := (HY.out.next HB3.out).cell 0
              have f0 : w3.frozen? ⟨g + 1, 0, none⟩ = false := (HY.out.next HB3.out).free 0
              have y1 : w3.cell? ⟨g + 1, 1, none⟩ = some (.int .u32 0) := (HY.out.next HB3.out).cell 1
              have f1 : w3.frozen? ⟨g + 1, 1, none⟩ = false := (HY.out.next HB3.out).free 1
              have y2 : w3.cell? ⟨g + 1, 2, none⟩ = some (.int .i64 0) := (HY.out.next HB3.out).cell 2
              have f2 : w3.frozen? ⟨g + 1, 2, none⟩ = false := (HY.out.next HB3.out).free 2
              have y3 : w3.cell? ⟨g + 1, 3, none⟩ = some (.int .i64 0) := (HY.out.next HB3.out).cell 3
              have f3 : w3.frozen? ⟨g + 1, 3, none⟩ = false := (HY.out.next HB3.out).free 3
              have y4 : w3.cell? ⟨g + 1, 4, none⟩ = some (.int .u32 0) := (HY.out.next HB3.out).cell 4
              have f4 : w3.frozen? ⟨g + 1, 4, none⟩ = false := (HY.out.next HB3.out).free 4
              have y5 : w3.cell? ⟨g + 1, 5, none⟩ = some (.int .u32 0) := (HY.out.next HB3.out).cell 5
              have f5 : w3.frozen? ⟨g + 1, 5, none⟩ = false := (HY.out.next HB3.out).free 5
              go_wp2_with fail
              have hY := set6 (HY.out.next HB3.out) (.int .i64 1) (.int .u32 0) (.int .i64 0) (.int .i64 0) (.int .u32 0) (.int .u32 0)
              have z0 : ((((((w3.setCell ⟨g + 1, 0, none⟩ (.int .i64 1)).setCell ⟨g + 1, 1, none⟩ (.int .u32 0)).setCell ⟨g + 1, 2, none⟩ (.int .i64 0)).setCell ⟨g + 1, 3, none⟩ (.int .i64 0)).setCell ⟨g + 1, 4, none⟩ (.int .u32 0)).setCell ⟨g + 1, 5, none⟩ (.int .u32 0)).cell? ⟨g + 1, 0, none⟩ = some (.int .i64 1) := hY.cell 0
              have z1 : ((((((w3.setCell ⟨g + 1, 0, none⟩ (.int .i64 1)).setCell ⟨g + 1, 1, none⟩ (.int .u32 0)).setCell ⟨g + 1, 2, none⟩ (.int .i64 0)).setCell ⟨g + 1, 3, none⟩ (.int .i64 0)).setCell ⟨g + 1, 4, none⟩ (.int .u32 0)).setCell ⟨g + 1, 5, none⟩ (.int .u32 0)).cell? ⟨g + 1, 1, none⟩ = some (.int .u32 0) := hY.cell 1
              have z2 : ((((((w3.setCell ⟨g + 1, 0, none⟩ (.int .i64 1)).setCell ⟨g + 1, 1, none⟩ (.int .u32 0)).setCell ⟨g + 1, 2, none⟩ (.int .i64 0)).setCell ⟨g + 1, 3, none⟩ (.int .i64 0)).setCell ⟨g + 1, 4, none⟩ (.int .u32 0)).setCell ⟨g + 1, 5, none⟩ (.int .u32 0)).cell? ⟨g + 1, 2, none⟩ = some (.int .i64 0) := hY.cell 2
              have z3 : ((((((w3.setCell ⟨g + 1, 0, none⟩ (.int .i64 1)).setCell ⟨g + 1, 1, none⟩ (.int .u32 0)).setCell ⟨g + 1, 2, none⟩ (.int .i64 0)).setCell ⟨g + 1, 3, none⟩ (.int .i64 0)).setCell ⟨g + 1, 4, none⟩ (.int .u32 0)).setCell ⟨g + 1, 5, none⟩ (.int .u32 0)).cell? ⟨g + 1, 3, none⟩ = some (.int .i64 0) := hY.cell 3
              have z4 : ((((((w3.setCell ⟨g + 1, 0, none⟩ (.int .i64 1)).setCell ⟨g + 1, 1, none⟩ (.int .u32 0)).setCell ⟨g + 1, 2, none⟩ (.int .i64 0)).setCell ⟨g + 1, 3, none⟩ (.int .i64 0)).setCell ⟨g + 1, 4, none⟩ (.int .u32 0)).setCell ⟨g + 1, 5, none⟩ (.int .u32 0)).cell? ⟨g + 1, 4, none⟩ = some (.int .u32 0) := hY.cell 4
              have z5 : ((((((w3.setCell ⟨g + 1, 0, none⟩ (.int .i64 1)).setCell ⟨g + 1, 1, none⟩ (.int .u32 0)).setCell ⟨g + 1, 2, none⟩ (.int .i64 0)).setCell ⟨g + 1, 3, none⟩ (.int .i64 0)).setCell ⟨g + 1, 4, none⟩ (.int .u32 0)).setCell ⟨g + 1, 5, none⟩ (.int .u32 0)).cell? ⟨g + 1, 5, none⟩ = some (.int .u32 0) := hY.cell 5
              refine bodyPost_ret (v := .agg #[.int .i64 1, .int .u32 0, .int .i64 0, .int .i64 0, .int .u32 0, .int .u32 0]) (by simp [results, Tryz.results54, go_sem, z0, z1, z2, z3, z4, z5]) rfl ?_
              exact post_same (H.out.more (Nat.le_add_right N 64)) (by rw [HE.out]; rfl) (by rw [HE.out]) (bel6 hg (HBr.out _ HB3.out))
end Go.Proofs.YtbaflgddpciadaaGreat
