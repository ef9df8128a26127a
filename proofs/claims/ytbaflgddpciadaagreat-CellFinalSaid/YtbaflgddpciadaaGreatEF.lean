/- deed.told (89), prepare (53). -/
import Derived.Test.YtbaflgddpciadaaGreatED
set_option linter.unusedVariables false
set_option linter.unusedSimpArgs false
namespace Go.Proofs.YtbaflgddpciadaaGreat
open Go.RowKit Go.Kt Go.Ix Go.Sx Go.Cx
set_option maxRecDepth 100000
variable {F : Nat → Prop} {w w' : World} {c N : Nat} {C : Cl} {p : Cp}
set_option maxHeartbeats 1000000 in
theorem dtold_any (d : Dd) (a : Option Addr) (n cap : Nat) (w : World) : Calls Tryz.prog 89 #[dval d (.slice a n cap), .int .u32 d.id] w fun e w' => e = .returned (replyV d.told) ∧ Below w.heap.size w w' := by
  obtain ⟨id, ds, ⟨dw, dt, dm⟩, ws⟩ := d
  unfold dval
  simp only
  go_enter Tryz.func89, Tryz.ntmps89
  go_upto_region 1 with fail
  have HX := Lib.hid ((Blk.new w #[.int .i64 ds, .int .i64 dw, .int .u32 dt, .int .u32 dm, .slice a n cap] 181).next (below_alloc _ (.cells #[.int .i64 0, .int .u32 0, .int .i64 0, .int .i64 0, .int .u32 0, .int .u32 0] 46)))
  have HY := Lib.hid (Blk.new (w.alloc (.cells #[.int .i64 ds, .int .i64 dw, .int .u32 dt, .int .u32 dm, .slice a n cap] 181)) #[.int .i64 0, .int .u32 0, .int .i64 0, .int .i64 0, .int .u32 0, .int .u32 0] 46)
  have HB1 := Lib.hid (bel_alloc (o := .cells #[.int .i64 0, .int .u32 0, .int .i64 0, .int .i64 0, .int .u32 0, .int .u32 0] 46) (below_alloc w (.cells #[.int .i64 ds, .int .i64 dw, .int .u32 dt, .int .u32 dm, .slice a n cap] 181)))
  rw [World.size_alloc] at HY
  generalize (w.alloc (.cells #[.int .i64 ds, .int .i64 dw, .int .u32 dt, .int .u32 dm, .slice a n cap] 181)).alloc (.cells #[.int .i64 0, .int .u32 0, .int .i64 0, .int .i64 0, .int .u32 0, .int .u32 0] 46) = w1 at HX HY HB1 ⊢
  generalize hg : w.heap.size = g at HX HY ⊢
  have x0 : w1.cell? ⟨g, 0, none⟩ = some (.int .i64 ds) := HX.out.cell 0
  have x1 : w1.cell? ⟨g, 1, none⟩ = some (.int .i64 dw) := HX.out.cell 1
  have x2 : w1.cell? ⟨g, 2, none⟩ = some (.int .u32 dt) := HX.out.cell 2
  have x3 : w1.cell? ⟨g, 3, none⟩ = some (.int .u32 dm) := HX.out.cell 3
  have y0 : w1.cell? ⟨g + 1, 0, none⟩ = some (.int .i64 0) := HY.out.cell 0
  have f0 : w1.frozen? ⟨g + 1, 0, none⟩ = false := HY.out.free 0
  have y1 : w1.cell? ⟨g + 1, 1, none⟩ = some (.int .u32 0) := HY.out.cell 1
  have f1 : w1.frozen? ⟨g + 1, 1, none⟩ = false := HY.out.free 1
  have y2 : w1.cell? ⟨g + 1, 2, none⟩ = some (.int .i64 0) := HY.out.cell 2
  have f2 : w1.frozen? ⟨g + 1, 2, none⟩ = false := HY.out.free 2
  have y3 : w1.cell? ⟨g + 1, 3, none⟩ = some (.int .i64 0) := HY.out.cell 3
  have f3 : w1.frozen? ⟨g + 1, 3, none⟩ = false := HY.out.free 3
  have y4 : w1.cell? ⟨g + 1, 4, none⟩ = some (.int .u32 0) := HY.out.cell 4
  have f4 : w1.frozen? ⟨g + 1, 4, none⟩ = false := HY.out.free 4
  have y5 : w1.cell? ⟨g + 1, 5, none⟩ = some (.int .u32 0) := HY.out.cell 5
  have f5 : w1.frozen? ⟨g + 1, 5, none⟩ = false := HY.out.free 5
  go_wp2_with fail
  have hY := set6 HY.out (.int .i64 0) (.int .u32 id) (.int .i64 ds) (.int .i64 dw) (.int .u32 dt) (.int .u32 dm)
  have z0 : ((((((w1.setCell ⟨g + 1, 0, none⟩ (.int .i64 0)).setCell ⟨g + 1, 1, none⟩ (.int .u32 id)).setCell ⟨g + 1, 2, none⟩ (.int .i64 ds)).setCell ⟨g + 1, 3, none⟩ (.int .i64 dw)).setCell ⟨g + 1, 4, none⟩ (.int .u32 dt)).setCell ⟨g + 1, 5, none⟩ (.int .u32 dm)).cell? ⟨g + 1, 0, none⟩ = some (.int .i64 0) := hY.cell 0
  have z1 : ((((((w1.setCell ⟨g + 1, 0, none⟩ (.int .i64 0)).setCell ⟨g + 1, 1, none⟩ (.int .u32 id)).setCell ⟨g + 1, 2, none⟩ (.int .i64 ds)).setCell ⟨g + 1, 3, none⟩ (.int .i64 dw)).setCell ⟨g + 1, 4, none⟩ (.int .u32 dt)).setCell ⟨g + 1, 5, none⟩ (.int .u32 dm)).cell? ⟨g + 1, 1, none⟩ = some (.int .u32 id) := hY.cell 1
  have z2 : ((((((w1.setCell ⟨g + 1, 0, none⟩ (.int .i64 0)).setCell ⟨g + 1, 1, none⟩ (.int .u32 id)).setCell ⟨g + 1, 2, none⟩ (.int .i64 ds)).setCell ⟨g + 1, 3, none⟩ (.int .i64 dw)).setCell ⟨g + 1, 4, none⟩ (.int .u32 dt)).setCell ⟨g + 1, 5, none⟩ (.int .u32 dm)).cell? ⟨g + 1, 2, none⟩ = some (.int .i64 ds) := hY.cell 2
  have z3 : ((((((w1.setCell ⟨g + 1, 0, none⟩ (.int .i64 0)).setCell ⟨g + 1, 1, none⟩ (.int .u32 id)).setCell ⟨g + 1, 2, none⟩ (.int .i64 ds)).setCell ⟨g + 1, 3, none⟩ (.int .i64 dw)).setCell ⟨g + 1, 4, none⟩ (.int .u32 dt)).setCell ⟨g + 1, 5, none⟩ (.int .u32 dm)).cell? ⟨g + 1, 3, none⟩ = some (.int .i64 dw) := hY.cell 3
  have z4 : ((((((w1.setCell ⟨g + 1, 0, none⟩ (.int .i64 0)).setCell ⟨g + 1, 1, none⟩ (.int .u32 id)).setCell ⟨g + 1, 2, none⟩ (.int .i64 ds)).setCell ⟨g + 1, 3, none⟩ (.int .i64 dw)).setCell ⟨g + 1, 4, none⟩ (.int .u32 dt)).setCell ⟨g + 1, 5, none⟩ (.int .u32 dm)).cell? ⟨g + 1, 4, none⟩ = some (.int .u32 dt) := hY.cell 4
  have z5 : ((((((w1.setCell ⟨g + 1, 0, none⟩ (.int .i64 0)).setCell ⟨g + 1, 1, none⟩ (.int .u32 id)).setCell ⟨g + 1, 2, none⟩ (.int .i64 ds)).setCell ⟨g + 1, 3, none⟩ (.int .i64 dw)).setCell ⟨g + 1, 4, none⟩ (.int .u32 dt)).setCell ⟨g + 1, 5, none⟩ (.int .u32 dm)).cell? ⟨g + 1, 5, none⟩ = some (.int .u32 dm) := hY.cell 5
  refine bodyPost_ret (v := .agg #[.int .i64 0, .int .u32 id, .int .i64 ds, .int .i64 dw, .int .u32 dt, .int .u32 dm]) (by simp [results, Tryz.results89, go_sem, z0, z1, z2, z3, z4, z5]) rfl ?_
  exact ⟨rfl, by rw [← hg]; exact bel6 rfl HB1.out⟩
theorem keyOf24 {n : Int} (h : 0 ≤ n ∧ n ≤ 4294967295) : keyOf Tryz.prog 24 (.int .u32 n) = some (litD n) := Maps.keyOf_int_mk Tryz.underlying24 (by
  simp only [Lit.wf, IntKind.min, IntKind.max, IntKind.signed, IntKind.bits]
  simp
  omega)
theorem zero181 (w : World) : (zeroValue 181).run Tryz.prog w = .ok (.agg #[.int .i64 0, .int .i64 0, .int .u32 0, .int .u32 0, .slice none 0 0]) w := by kernel_rfl
/-- a deed that is looked for -/
def FoundD (D : List Dd) (n : Int) (ok : Bool) (d : Dd) : Prop := (ok = true ∧ findD D n = some d) ∨ (ok = false ∧ findD D n = none ∧ d = ⟨n, 0, t0, []⟩)
theorem FoundD.id {D : List Dd} {n : Int} {ok : Bool} {d : Dd} (h : FoundD D n ok d) : d.id = n := by
  rcases h with ⟨-, h⟩ | ⟨-, -, rfl⟩
  · exact (findD_some h).2
  · rfl
theorem DeedsAt.lookup {dm : Nat} {D : List Dd} {f : Lit → Option Value} (h : DeedsAt F w dm D f) (hr : RiseD D) {n : Int} (hn : 0 ≤ n ∧ n ≤ 4294967295) : ∃ ok d sl, FoundD D n ok d ∧ RdB F w sl d.ws ∧ f (litD n) = (if ok = true then some (dval d sl) else none) ∧
    ∀ W, Below w.heap.size w W → (Instr.lookup 136 (.map (some dm)) (.int .u32 n) true).run Tryz.prog W = .ok (.tuple #[dval d sl, .bool ok]) W := by
  cases hf : findD D n with
  | some d =>
    obtain ⟨hd, e⟩ := findD_some hf
    subst e
    obtain ⟨sl, h1, h2⟩ := h.there hr hd
    refine ⟨true, d, sl, .inl ⟨rfl, hf⟩, h2, by rw [h1]; rfl, fun W hW => ?_⟩
    have hl := (map_keep (Turn.of (F := fun _ => False) hW) h.map (fun e => e)).look key24 Tryz.underlying136 (zero181 W) (keyOf24 hn)
    rw [hl, h1]; rfl
  | none =>
    have h1 := h.lacks hf
    refine ⟨false, ⟨n, 0, t0, []⟩, .slice none 0 0, .inr ⟨rfl, hf, rfl⟩, RdB.nil F w, by rw [h1]; rfl, fun W hW => ?_⟩
    have hl := (map_keep (Turn.of (F := fun _ => False) hW) h.map (fun e => e)).look key24 Tryz.underlying136 (zero181 W) (keyOf24 hn)
    rw [hl, h1]; rfl
theorem prep_told {m : Cmd} {d : Dd} (h : findD C.deeds m.deed = some d) : prepareC C m = (d.told, C) := by unfold prepareC; rw [h]
theorem prep_arg {m : Cmd} (h : findD C.deeds m.deed = none) (hb : m.deed = 0 ∨ ¬ Batch m.ws ∨ ¬ tmR m.at_) : prepareC C m = (bad 1, C) := by unfold prepareC; rw [h]; simp only; rw [if_pos hb]
theorem prep_full {m : Cmd} (h : findD C.deeds m.deed = none) (hb : ¬ (m.deed = 0 ∨ ¬ Batch m.ws ∨ ¬ tmR m.at_)) (hl : 1024 ≤ C.deeds.length ∨ 65536 < lenL C.M + heldD C.deeds + m.ws.length) : prepareC C m = (bad 4, C) := by
  unfold prepareC; rw [h]; simp only; rw [if_neg hb, if_pos hl]
theorem prep_over {m : Cmd} (h : findD C.deeds m.deed = none) (hb : ¬ (m.deed = 0 ∨ ¬ Batch m.ws ∨ ¬ tmR m.at_)) (hl : ¬ (1024 ≤ C.deeds.length ∨ 65536 < lenL C.M + heldD C.deeds + m.ws.length)) (hs : stampC C m = none) : prepareC C m = (bad 20, C) := by
  unfold prepareC; rw [h]; simp only; rw [if_neg hb, if_neg hl, hs]
theorem prep_new {m : Cmd} {t : Tm} (h : findD C.deeds m.deed = none) (hb : ¬ (m.deed = 0 ∨ ¬ Batch m.ws ∨ ¬ tmR m.at_)) (hl : ¬ (1024 ≤ C.deeds.length ∨ 65536 < lenL C.M + heldD C.deeds + m.ws.length)) (hs : stampC C m = some t) :
    prepareC C m = ((⟨m.deed, 1, t, m.ws⟩ : Dd).told, { C with deeds := putD C.deeds ⟨m.deed, 1, t, m.ws⟩ }) := by
  unfold prepareC; rw [h]; simp only; rw [if_neg hb, if_neg hl, hs]
theorem held_put {D : List Dd} (hr : RiseD D) {d : Dd} (h : findD D d.id = none) : heldD (putD D d) = heldD D + d.ws.length := putD_sum_new hr h (fun x => x.ws.length)
/-- a deed laid into the map, and the cell's own block -/
theorem post_deeds {fd' : Lit → Option Value} {z : Rep × Cl} {e : Ending} (h : CeAt F w c C N p) (he : e = .returned (replyV z.1)) (ht : Turn (fun x => x = c ∨ x = p.dm) w w') (hD : DeedsAt F w' p.dm z.2.deeds fd') (hb : Blk w' c (ccells z.2 p) 140)
    (hM : z.2.M = C.M) (hP : z.2.pins = C.pins) (hB : z.2.book = C.book) (hi : CInv z.2) : DoPost F w c p z N e w' := by
  have hsub : ∀ x, (x = c ∨ x = p.dm) → F x := fun x hx => by
    rcases hx with rfl | rfl
    · exact h.Fc
    · exact h.Fd
  refine ⟨he, F, { p with fd := fd' }, ⟨hb, ?_, h.sub, h.Fc, h.Fd, h.Fp, h.Fb, h.nc, h.nd, h.np, h.nb, h.dp, hD, ?_, ?_, by rw [hB]; exact h.told, hi, fun x hx => Nat.lt_of_lt_of_le (h.lt x hx) ht.size⟩, fun x hx => hx, fun x hx => .inl hx, fun x hx => .inl hx, ht.mono (fun x hx => hx.elim .inl (fun h => .inr (.inl h)))⟩
  · rw [hM]; exact h.st.keep ht (fun x hx e => by
      rcases e with rfl | rfl
      · exact h.nc hx
      · exact h.nd hx)
  · rw [hP]; exact h.pins.keep ht (fun e => by
      rcases e with e | e
      · exact h.cp e.symm
      · exact h.dp e.symm)
  · exact h.book.keep ht (fun b hb e => by
      rcases e with e | e
      · exact h.cb b hb e
      · exact h.bd b hb e) hsub (fun _ h => .inl h)
/-- a deed laid in, seen from the world in which the cell was entered -/
theorem DeedsAt.put2 {G : Nat → Prop} {dm n : Nat} {D : List Dd} {f : Lit → Option Value} (h : DeedsAt F w dm D f) (hr : RiseD D) {d : Dd} {sl : Value} (hm : MapIs Tryz.prog 24 w' dm (upd f (litD d.id) (dval d sl)) n)
    (hn : n = if (f (litD d.id)).isSome then D.length else D.length + 1) (hb : RdB G w' sl d.ws) (ht : Turn F w w') (hG : ∀ b, G b → F b ∨ w.heap.size ≤ b) : DeedsAt G w' dm (putD D d) (upd f (litD d.id) (dval d sl)) := by
  have hlen : (putD D d).length = n := by
    rw [hn]
    cases hf : findD D d.id with
    | none => rw [putD_len_new hr hf, h.lacks hf]; rfl
    | some x =>
      obtain ⟨hx, e⟩ := findD_some hf
      have := h.has x hx
      rw [e] at this
      rw [putD_len_old hr hf, if_pos this]
  refine ⟨by rw [hlen]; exact hm, fun k v hv => ?_, fun x hx => ?_⟩
  · unfold upd at hv
    split at hv
    · rename_i hk
      injection hv with hv
      exact ⟨d, putD_mem.2 (.inl rfl), hk, sl, hv.symm, hb⟩
    · rename_i hk
      obtain ⟨x, hx, e, sx, e2, hbx⟩ := h.all k v hv
      exact ⟨x, putD_mem.2 (.inr ⟨hx, fun he => hk (by rw [e, he])⟩), e, sx, e2, hbx.keep ht hG⟩
  · unfold upd
    split
    · rfl
    · rename_i hk
      rcases putD_mem.1 hx with rfl | ⟨hx, -⟩
      · exact absurd rfl hk
      · exact h.has x hx
/-- a deed prepared: from the world in which its row lies to the reply -/
theorem prep_end {wd w11 w13 : World} {v5 : Value} {d : Dd} {g n : Nat} {x : Int} {d0 d1 d2 d3 d4 d5 : Value} {z : Rep × Cl} {e : Ending} (h : CeAt F w c C N p) (hg : w.heap.size ≤ g) (hbd : Below w.heap.size w wd) (hf : findD C.deeds d.id = none) (hr5 : RdB (fun y => F y ∨ y = g + 1) wd v5 d.ws)
    (hgl : g + 1 < wd.heap.size) (hm : MapIs Tryz.prog 24 w11 p.dm (upd p.fd (litD d.id) (dval d v5)) n) (hn : n = if (p.fd (litD d.id)).isSome then C.deeds.length else C.deeds.length + 1) (hg11 : wd.drew.grownBy w11 (some p.dm)) (hx : x = (heldD C.deeds : Int) + d.ws.length)
    (h13 : Below (w11.setCell ⟨c, 3, none⟩ (.int .i64 x)).heap.size (w11.setCell ⟨c, 3, none⟩ (.int .i64 x)) w13) (he : e = .returned (replyV z.1)) (hz : z.2 = { C with deeds := putD C.deeds d }) (hi : CInv z.2) :
    DoPost F w c p z N e (((((((w13.setCell ⟨g + 1, 0, none⟩ d0).setCell ⟨g + 1, 1, none⟩ d1).setCell ⟨g + 1, 2, none⟩ d2).setCell ⟨g + 1, 3, none⟩ d3).setCell ⟨g + 1, 4, none⟩ d4).setCell ⟨g + 1, 5, none⟩ d5)) := by
  subst hx
  have hdw : Below w.heap.size w wd.drew := bel_drew hbd
  have t11 : Turn (fun y => y = p.dm) w w11 := (Turn.of hdw).trans (Turn.grown (F := fun y => y = p.dm) hg11 (fun b e => by injection e with e; exact e.symm)) (fun y hy => .inl hy)
  have t12 : Turn (fun y => y = c ∨ y = p.dm) w (w11.setCell ⟨c, 3, none⟩ (.int .i64 ((heldD C.deeds : Int) + d.ws.length))) := (t11.mono (fun y hy => .inr hy)).set (a := ⟨c, 3, none⟩) (.inl rfl) _
  have tZ := turn6 (g := g) hg (t12.next h13) (d0 := d0) (d1 := d1) (d2 := d2) (d3 := d3) (d4 := d4) (d5 := d5)
  have hsub : ∀ y, (y = c ∨ y = p.dm) → F y := fun y hy => by
    rcases hy with rfl | rfl
    · exact h.Fc
    · exact h.Fd
  have hcl := h.blk.lt
  have hdl := h.lt _ h.Fd
  have k13 : Turn (fun y => y = g + 1) (w11.setCell ⟨c, 3, none⟩ (.int .i64 ((heldD C.deeds : Int) + d.ws.length))) (((((((w13.setCell ⟨g + 1, 0, none⟩ d0).setCell ⟨g + 1, 1, none⟩ d1).setCell ⟨g + 1, 2, none⟩ d2).setCell ⟨g + 1, 3, none⟩ d3).setCell ⟨g + 1, 4, none⟩ d4).setCell ⟨g + 1, 5, none⟩ d5)) := (Turn.of (F := fun y => y = g + 1) h13).trans (own6 w13 g) (fun y hy => .inl hy)
  have k11 : Turn (fun y => y = c ∨ y = g + 1) w11 (((((((w13.setCell ⟨g + 1, 0, none⟩ d0).setCell ⟨g + 1, 1, none⟩ d1).setCell ⟨g + 1, 2, none⟩ d2).setCell ⟨g + 1, 3, none⟩ d3).setCell ⟨g + 1, 4, none⟩ d4).setCell ⟨g + 1, 5, none⟩ d5)) := ((Turn.refl (fun y => y = c ∨ y = g + 1) w11).set (a := ⟨c, 3, none⟩) (.inl rfl) _).trans k13 (fun y hy => .inl (.inr hy))
  have k5 : Turn (fun y => F y ∨ y = g + 1) wd (((((((w13.setCell ⟨g + 1, 0, none⟩ d0).setCell ⟨g + 1, 1, none⟩ d1).setCell ⟨g + 1, 2, none⟩ d2).setCell ⟨g + 1, 3, none⟩ d3).setCell ⟨g + 1, 4, none⟩ d4).setCell ⟨g + 1, 5, none⟩ d5)) := ((Turn.of (bel_drew (bel_refl wd))).trans (Turn.grown (F := fun y => F y ∨ y = g + 1) hg11 (fun b e => by injection e with e; subst e; exact .inl h.Fd)) (fun y hy => .inl hy)).trans k11 (fun y hy => .inl (by
    rcases hy with rfl | rfl
    · exact .inl h.Fc
    · exact .inr rfl))
  have hD : DeedsAt F (((((((w13.setCell ⟨g + 1, 0, none⟩ d0).setCell ⟨g + 1, 1, none⟩ d1).setCell ⟨g + 1, 2, none⟩ d2).setCell ⟨g + 1, 3, none⟩ d3).setCell ⟨g + 1, 4, none⟩ d4).setCell ⟨g + 1, 5, none⟩ d5)) p.dm (putD C.deeds d) (upd p.fd (litD d.id) (dval d v5)) := DeedsAt.put2 h.deeds h.inv.rise (map_keep k11 hm (fun e => by
      rcases e with e | e
      · exact h.cd e.symm
      · omega)) hn (hr5.keep k5 (fun y hy => .inl (.inl hy))) (tZ.mono hsub) (fun y hy => .inl hy)
  have hc11 : Blk w11 c (ccells C p) 140 := (h.blk.next hdw).grown hg11 (fun e => h.cd (by injection e with e; exact e.symm))
  have hcZ := blk_other6 (g := g) ((hc11.set 3 (.int .i64 ((heldD C.deeds : Int) + d.ws.length))).next h13) (by omega) (d0 := d0) (d1 := d1) (d2 := d2) (d3 := d3) (d4 := d4) (d5 := d5)
  refine post_deeds (fd' := upd p.fd (litD d.id) (dval d v5)) h he tZ (by rw [hz]; exact hD) ?_ (by rw [hz]) (by rw [hz]) (by rw [hz]) hi
  rw [hz]
  have hh : ((heldD (putD C.deeds d) : Nat) : Int) = (heldD C.deeds : Int) + d.ws.length := by rw [held_put h.inv.rise hf]; omega
  simpa [ccells, hh] using hcZ
theorem set5d {g : Nat} {c0 c1 c2 c3 c4 : Value} {t : TypeId} (h : Blk w g #[c0, c1, c2, c3, c4] t) (d0 d1 d2 d3 d4 : Value) :
    Blk (((((w.setCell ⟨g, 0, none⟩ d0).setCell ⟨g, 1, none⟩ d1).setCell ⟨g, 2, none⟩ d2).setCell ⟨g, 3, none⟩ d3).setCell ⟨g, 4, none⟩ d4) g #[d0, d1, d2, d3, d4] t := by
  have := ((((h.set 0 d0).set 1 d1).set 2 d2).set 3 d3).set 4 d4
  simpa using this
set_option maxHeartbeats 16000000 in
theorem preparec_any (m : Cmd) (v : Value) (T : List Wr) (w : World) (h : CeAt F w c C N p) (hm : CmdR w m v T) (hi : CInv (prepareC C m).2) :
    Calls Tryz.prog 53 #[.pointer (some ⟨c, 0, none⟩), cmdV m v] w fun e w' => DoPost F w c p (prepareC C m) N e w' := by
  obtain ⟨kd, dd, ⟨aw, at1, am⟩, ys, tk, nn, id, ws⟩ := m
  obtain ⟨va, vc, hve, -⟩ := hm.rd.open
  subst hve
  have H := Lib.hid h
  have HM := Lib.hid hm
  have HX := Lib.hid ((Blk.new w #[.int .i64 kd, .int .u32 dd, .int .i64 aw, .int .u32 at1, .int .u32 am, .bool ys, .string tk, .int .i64 nn, .int .i64 id, .slice va T.length vc] 50).next (below_alloc _ (.cells #[.int .i64 0, .int .u32 0, .int .i64 0, .int .i64 0, .int .u32 0, .int .u32 0] 46)))
  have HY := Lib.hid (Blk.new (w.alloc (.cells #[.int .i64 kd, .int .u32 dd, .int .i64 aw, .int .u32 at1, .int .u32 am, .bool ys, .string tk, .int .i64 nn, .int .i64 id, .slice va T.length vc] 50)) #[.int .i64 0, .int .u32 0, .int .i64 0, .int .i64 0, .int .u32 0, .int .u32 0] 46)
  have HB1 := Lib.hid (bel_alloc (o := .cells #[.int .i64 0, .int .u32 0, .int .i64 0, .int .i64 0, .int .u32 0, .int .u32 0] 46) (below_alloc w (.cells #[.int .i64 kd, .int .u32 dd, .int .i64 aw, .int .u32 at1, .int .u32 am, .bool ys, .string tk, .int .i64 nn, .int .i64 id, .slice va T.length vc] 50)))
  rw [World.size_alloc] at HY
  unfold cmdV
  simp only
  clear h hm
  go_enter Tryz.func53, Tryz.ntmps53
  go_upto_region 1 with fail
  generalize (w.alloc (.cells #[.int .i64 kd, .int .u32 dd, .int .i64 aw, .int .u32 at1, .int .u32 am, .bool ys, .string tk, .int .i64 nn, .int .i64 id, .slice va T.length vc] 50)).alloc (.cells #[.int .i64 0, .int .u32 0, .int .i64 0, .int .i64 0, .int .u32 0, .int .u32 0] 46) = w1 at HX HY HB1 ⊢
  have HBr : Hid (∀ W, Below w1.heap.size w1 W → Below w.heap.size w W) := Lib.hid (fun W hW => bel_trans HB1.out hW)
  have HG : Hid (w.heap.size < w1.heap.size) := Lib.hid HX.out.lt
  generalize hg : w.heap.size = g at HX HY ⊢
  have HYf : Hid (∀ W, Below w1.heap.size w1 W → W.cell? ⟨g + 1, 0, none⟩ = some (.int .i64 0) ∧ W.frozen? ⟨g + 1, 0, none⟩ = false ∧ W.cell? ⟨g + 1, 1, none⟩ = some (.int .u32 0) ∧ W.frozen? ⟨g + 1, 1, none⟩ = false ∧ W.cell? ⟨g + 1, 2, none⟩ = some (.int .i64 0) ∧ W.frozen? ⟨g + 1, 2, none⟩ = false ∧ W.cell? ⟨g + 1, 3, none⟩ = some (.int .i64 0) ∧ W.frozen? ⟨g + 1, 3, none⟩ = false ∧ W.cell? ⟨g + 1, 4, none⟩ = some (.int .u32 0) ∧ W.frozen? ⟨g + 1, 4, none⟩ = false ∧ W.cell? ⟨g + 1, 5, none⟩ = some (.int .u32 0) ∧ W.frozen? ⟨g + 1, 5, none⟩ = false) := Lib.hid (fun W hW => ⟨(HY.out.next hW).cell 0, (HY.out.next hW).free 0, (HY.out.next hW).cell 1, (HY.out.next hW).free 1, (HY.out.next hW).cell 2, (HY.out.next hW).free 2, (HY.out.next hW).cell 3, (HY.out.next hW).free 3, (HY.out.next hW).cell 4, (HY.out.next hW).free 4, (HY.out.next hW).cell 5, (HY.out.next hW).free 5⟩)
  have H1 := Lib.hid (H.out.next (HBr.out _ (bel_refl w1)))
  have hddr : 0 ≤ dd ∧ dd ≤ 4294967295 := ⟨HM.out.ok.1, HM.out.ok.2.1⟩
  obtain ⟨ok, d, sl, hf, hsl, hfd, hlk⟩ := H1.out.deeds.lookup H1.out.inv.rise hddr
  have HF := Lib.hid hf
  have HSl := Lib.hid hsl
  have HFd := Lib.hid hfd
  have HId : Hid (d.id = dd) := Lib.hid hf.id
  obtain ⟨di, ds, ⟨dw, dt, dm⟩, dws⟩ := d
  obtain ⟨sa, sc, rfl⟩ := hsl.open
  obtain ⟨ln, hln⟩ : ∃ n, dws.length = n := ⟨_, rfl⟩
  have HLn := Lib.hid hln
  unfold dval at hlk
  simp only [hln] at hlk
  have hlk1 : (Instr.lookup 136 (.map (some p.dm)) (.int .u32 dd) true).run Tryz.prog ((w1.alloc (.cells #[.int .i64 0, .int .i64 0, .int .u32 0, .int .u32 0, .slice none 0 0] 181)).drew) = .ok (.tuple #[.agg #[.int .i64 ds, .int .i64 dw, .int .u32 dt, .int .u32 dm, .slice sa ln sc], .bool ok]) ((w1.alloc (.cells #[.int .i64 0, .int .i64 0, .int .u32 0, .int .u32 0, .slice none 0 0] 181)).drew) := hlk _ (bel_drew (below_alloc w1 _))
  have hlk2 : (Instr.lookup 136 (.map (some p.dm)) (.int .u32 dd) true).run Tryz.prog w1.drew = .ok (.tuple #[.agg #[.int .i64 ds, .int .i64 dw, .int .u32 dt, .int .u32 dm, .slice sa ln sc], .bool ok]) w1.drew := hlk _ (bel_drew (bel_refl w1))
  clear hlk hf hsl hfd hln
  have c2 : w1.cell? ⟨c, 2, none⟩ = some (.map (some p.dm)) := H1.out.blk.cell 2
  have hgl : g < w1.heap.size := HX.out.lt
  have hcl : c < w1.heap.size := H1.out.blk.lt
  have x1 : w1.cell? ⟨g, 1, none⟩ = some (.int .u32 dd) := (HX.out.next (bel_refl w1)).cell 1
  go_cut [5, 6] (fun pv ov wd => pv = .pointer (some ⟨w1.heap.size, 0, none⟩) ∧ ov = .bool ok ∧ Hid (Blk wd w1.heap.size #[.int .i64 ds, .int .i64 dw, .int .u32 dt, .int .u32 dm, .slice sa ln sc] 181 ∧ Below w1.heap.size w1 wd))
  case first =>
    go_region
    all_goals go_wp2_with fail
    all_goals go_meet
    all_goals exact ⟨rfl, rfl, Lib.hid ⟨by first | exact new_drew _ _ _ | exact drew_new _ _ _ | exact Blk.new _ _ _, by repeat (first | exact bel_refl _ | apply bel_alloc | apply bel_drew | apply bel_drewN)⟩⟩
  case rest =>
    obtain ⟨rfl, rfl, HQ⟩ := hcut
    obtain ⟨w2, rfl⟩ : ∃ w2, w2 = wc := ⟨_, rfl⟩
    have HBc := Lib.hid HQ.out.2
    have HQb := Lib.hid HQ.out.1
    clear HQ
    have hg5l : g + 1 < w1.heap.size := HY.out.lt
    generalize hg5 : w1.heap.size = g5 at HQb hg5l ⊢
    have HX2 := Lib.hid (HX.out.next HBc.out)
    clear hlk1 hlk2 c2 x1 hgl hcl
    by_cases ho : ok = true
    · subst ho
      have HE : Hid (prepareC C ⟨kd, dd, ⟨aw, at1, am⟩, ys, tk, nn, id, ws⟩ = (⟨0, di, ds, ⟨dw, dt, dm⟩⟩, C)) := Lib.hid (by
        rcases HF.out with ⟨-, h⟩ | ⟨h, -⟩
        · exact prep_told (m := ⟨kd, dd, ⟨aw, at1, am⟩, ys, tk, nn, id, ws⟩) h
        · cases h)
      obtain rfl : di = dd := HId.out
      have HTl := Lib.hid (fun W => dtold_any ⟨di, ds, ⟨dw, dt, dm⟩, dws⟩ sa ln sc W)
      unfold replyV replyA dval Dd.told at HTl
      simp only at HTl
      clear hi
      have x1 : w2.cell? ⟨g, 1, none⟩ = some (.int .u32 di) := HX2.out.cell 1
      have v0 : w2.cell? ⟨g5, 0, none⟩ = some (.int .i64 ds) := HQb.out.cell 0
      have v1 : w2.cell? ⟨g5, 1, none⟩ = some (.int .i64 dw) := HQb.out.cell 1
      have v2 : w2.cell? ⟨g5, 2, none⟩ = some (.int .u32 dt) := HQb.out.cell 2
      have v3 : w2.cell? ⟨g5, 3, none⟩ = some (.int .u32 dm) := HQb.out.cell 3
      have v4 : w2.cell? ⟨g5, 4, none⟩ = some (.slice sa ln sc) := HQb.out.cell 4
      go_wp2_with (first
        | (go_at_call 89; refine (HTl.out _).mono ?_; rintro e w8 ⟨rfl, hb8⟩; have HB8 := Lib.hid (bel_trans HBc.out hb8); clear hb8; obtain ⟨y0, f0, y1, f1, y2, f2, y3, f3, y4, f4, y5, f5⟩ := HYf.out w8 HB8.out)
        | fail)
      have hY := set6 (HY.out.next HB8.out) (.int .i64 0) (.int .u32 di) (.int .i64 ds) (.int .i64 dw) (.int .u32 dt) (.int .u32 dm)
      have z0 : ((((((w8.setCell ⟨g + 1, 0, none⟩ (.int .i64 0)).setCell ⟨g + 1, 1, none⟩ (.int .u32 di)).setCell ⟨g + 1, 2, none⟩ (.int .i64 ds)).setCell ⟨g + 1, 3, none⟩ (.int .i64 dw)).setCell ⟨g + 1, 4, none⟩ (.int .u32 dt)).setCell ⟨g + 1, 5, none⟩ (.int .u32 dm)).cell? ⟨g + 1, 0, none⟩ = some (.int .i64 0) := hY.cell 0
      have z1 : ((((((w8.setCell ⟨g + 1, 0, none⟩ (.int .i64 0)).setCell ⟨g + 1, 1, none⟩ (.int .u32 di)).setCell ⟨g + 1, 2, none⟩ (.int .i64 ds)).setCell ⟨g + 1, 3, none⟩ (.int .i64 dw)).setCell ⟨g + 1, 4, none⟩ (.int .u32 dt)).setCell ⟨g + 1, 5, none⟩ (.int .u32 dm)).cell? ⟨g + 1, 1, none⟩ = some (.int .u32 di) := hY.cell 1
      have z2 : ((((((w8.setCell ⟨g + 1, 0, none⟩ (.int .i64 0)).setCell ⟨g + 1, 1, none⟩ (.int .u32 di)).setCell ⟨g + 1, 2, none⟩ (.int .i64 ds)).setCell ⟨g + 1, 3, none⟩ (.int .i64 dw)).setCell ⟨g + 1, 4, none⟩ (.int .u32 dt)).setCell ⟨g + 1, 5, none⟩ (.int .u32 dm)).cell? ⟨g + 1, 2, none⟩ = some (.int .i64 ds) := hY.cell 2
      have z3 : ((((((w8.setCell ⟨g + 1, 0, none⟩ (.int .i64 0)).setCell ⟨g + 1, 1, none⟩ (.int .u32 di)).setCell ⟨g + 1, 2, none⟩ (.int .i64 ds)).setCell ⟨g + 1, 3, none⟩ (.int .i64 dw)).setCell ⟨g + 1, 4, none⟩ (.int .u32 dt)).setCell ⟨g + 1, 5, none⟩ (.int .u32 dm)).cell? ⟨g + 1, 3, none⟩ = some (.int .i64 dw) := hY.cell 3
      have z4 : ((((((w8.setCell ⟨g + 1, 0, none⟩ (.int .i64 0)).setCell ⟨g + 1, 1, none⟩ (.int .u32 di)).setCell ⟨g + 1, 2, none⟩ (.int .i64 ds)).setCell ⟨g + 1, 3, none⟩ (.int .i64 dw)).setCell ⟨g + 1, 4, none⟩ (.int .u32 dt)).setCell ⟨g + 1, 5, none⟩ (.int .u32 dm)).cell? ⟨g + 1, 4, none⟩ = some (.int .u32 dt) := hY.cell 4
      have z5 : ((((((w8.setCell ⟨g + 1, 0, none⟩ (.int .i64 0)).setCell ⟨g + 1, 1, none⟩ (.int .u32 di)).setCell ⟨g + 1, 2, none⟩ (.int .i64 ds)).setCell ⟨g + 1, 3, none⟩ (.int .i64 dw)).setCell ⟨g + 1, 4, none⟩ (.int .u32 dt)).setCell ⟨g + 1, 5, none⟩ (.int .u32 dm)).cell? ⟨g + 1, 5, none⟩ = some (.int .u32 dm) := hY.cell 5
      refine bodyPost_ret (v := .agg #[.int .i64 0, .int .u32 di, .int .i64 ds, .int .i64 dw, .int .u32 dt, .int .u32 dm]) (by simp [results, Tryz.results53, go_sem, z0, z1, z2, z3, z4, z5]) rfl ?_
      exact post_same H.out (by rw [HE.out]; rfl) (by rw [HE.out]) (bel6 hg (HBr.out _ HB8.out))
    · have hof : ok = false := by cases ok with | true => exact absurd rfl ho | false => rfl
      subst hof
      have HNf : Hid (findD C.deeds dd = none) := Lib.hid (by
        rcases HF.out with ⟨h, -⟩ | ⟨-, h, -⟩
        · cases h
        · exact h)
      have HBa := Lib.hid (fun W hW => rightBatch_any (.slice va T.length vc) T W (HM.out.rd.below (w' := W) hW) HM.out.fit)
      have HBt : Hid (BatchW T ↔ Batch ws) := Lib.hid (batch_pl HM.out.pl)
      have HR := Lib.hid (fun W => str_any ⟨aw, at1, am⟩ W)
      unfold Tm.val at HR
      simp only [stR_tm] at HR
      clear ho
      have x1 : w2.cell? ⟨g, 1, none⟩ = some (.int .u32 dd) := (HX.out.next HBc.out).cell 1
      have x9 : w2.cell? ⟨g, 9, none⟩ = some (.slice va T.length vc) := (HX.out.next HBc.out).cell 9
      by_cases h0 : dd = 0
      · have HE : Hid (prepareC C ⟨kd, dd, ⟨aw, at1, am⟩, ys, tk, nn, id, ws⟩ = (bad 1, C)) := Lib.hid (prep_arg (m := ⟨kd, dd, ⟨aw, at1, am⟩, ys, tk, nn, id, ws⟩) HNf.out (.inl h0))
        clear hi
        have h0b : (dd == 0) = true := by rw [h0]; rfl
        clear h0
        go_upto_region 5 with (first
          | fail)
        clear x1 x9 h0b
        have y0 : w2.cell? ⟨g + 1, 0, none⟩ = some (.int .i64 0) := (HY.out.next HBc.out).cell 0
        have f0 : w2.frozen? ⟨g + 1, 0, none⟩ = false := (HY.out.next HBc.out).free 0
        have y1 : w2.cell? ⟨g + 1, 1, none⟩ = some (.int .u32 0) := (HY.out.next HBc.out).cell 1
        have f1 : w2.frozen? ⟨g + 1, 1, none⟩ = false := (HY.out.next HBc.out).free 1
        have y2 : w2.cell? ⟨g + 1, 2, none⟩ = some (.int .i64 0) := (HY.out.next HBc.out).cell 2
        have f2 : w2.frozen? ⟨g + 1, 2, none⟩ = false := (HY.out.next HBc.out).free 2
        have y3 : w2.cell? ⟨g + 1, 3, none⟩ = some (.int .i64 0) := (HY.out.next HBc.out).cell 3
        have f3 : w2.frozen? ⟨g + 1, 3, none⟩ = false := (HY.out.next HBc.out).free 3
        have y4 : w2.cell? ⟨g + 1, 4, none⟩ = some (.int .u32 0) := (HY.out.next HBc.out).cell 4
        have f4 : w2.frozen? ⟨g + 1, 4, none⟩ = false := (HY.out.next HBc.out).free 4
        have y5 : w2.cell? ⟨g + 1, 5, none⟩ = some (.int .u32 0) := (HY.out.next HBc.out).cell 5
        have f5 : w2.frozen? ⟨g + 1, 5, none⟩ = false := (HY.out.next HBc.out).free 5
        go_wp2_with fail
        have hY := set6 (HY.out.next HBc.out) (.int .i64 1) (.int .u32 0) (.int .i64 0) (.int .i64 0) (.int .u32 0) (.int .u32 0)
        have z0 : ((((((w2.setCell ⟨g + 1, 0, none⟩ (.int .i64 1)).setCell ⟨g + 1, 1, none⟩ (.int .u32 0)).setCell ⟨g + 1, 2, none⟩ (.int .i64 0)).setCell ⟨g + 1, 3, none⟩ (.int .i64 0)).setCell ⟨g + 1, 4, none⟩ (.int .u32 0)).setCell ⟨g + 1, 5, none⟩ (.int .u32 0)).cell? ⟨g + 1, 0, none⟩ = some (.int .i64 1) := hY.cell 0
        have z1 : ((((((w2.setCell ⟨g + 1, 0, none⟩ (.int .i64 1)).setCell ⟨g + 1, 1, none⟩ (.int .u32 0)).setCell ⟨g + 1, 2, none⟩ (.int .i64 0)).setCell ⟨g + 1, 3, none⟩ (.int .i64 0)).setCell ⟨g + 1, 4, none⟩ (.int .u32 0)).setCell ⟨g + 1, 5, none⟩ (.int .u32 0)).cell? ⟨g + 1, 1, none⟩ = some (.int .u32 0) := hY.cell 1
        have z2 : ((((((w2.setCell ⟨g + 1, 0, none⟩ (.int .i64 1)).setCell ⟨g + 1, 1, none⟩ (.int .u32 0)).setCell ⟨g + 1, 2, none⟩ (.int .i64 0)).setCell ⟨g + 1, 3, none⟩ (.int .i64 0)).setCell ⟨g + 1, 4, none⟩ (.int .u32 0)).setCell ⟨g + 1, 5, none⟩ (.int .u32 0)).cell? ⟨g + 1, 2, none⟩ = some (.int .i64 0) := hY.cell 2
        have z3 : ((((((w2.setCell ⟨g + 1, 0, none⟩ (.int .i64 1)).setCell ⟨g + 1, 1, none⟩ (.int .u32 0)).setCell ⟨g + 1, 2, none⟩ (.int .i64 0)).setCell ⟨g + 1, 3, none⟩ (.int .i64 0)).setCell ⟨g + 1, 4, none⟩ (.int .u32 0)).setCell ⟨g + 1, 5, none⟩ (.int .u32 0)).cell? ⟨g + 1, 3, none⟩ = some (.int .i64 0) := hY.cell 3
        have z4 : ((((((w2.setCell ⟨g + 1, 0, none⟩ (.int .i64 1)).setCell ⟨g + 1, 1, none⟩ (.int .u32 0)).setCell ⟨g + 1, 2, none⟩ (.int .i64 0)).setCell ⟨g + 1, 3, none⟩ (.int .i64 0)).setCell ⟨g + 1, 4, none⟩ (.int .u32 0)).setCell ⟨g + 1, 5, none⟩ (.int .u32 0)).cell? ⟨g + 1, 4, none⟩ = some (.int .u32 0) := hY.cell 4
        have z5 : ((((((w2.setCell ⟨g + 1, 0, none⟩ (.int .i64 1)).setCell ⟨g + 1, 1, none⟩ (.int .u32 0)).setCell ⟨g + 1, 2, none⟩ (.int .i64 0)).setCell ⟨g + 1, 3, none⟩ (.int .i64 0)).setCell ⟨g + 1, 4, none⟩ (.int .u32 0)).setCell ⟨g + 1, 5, none⟩ (.int .u32 0)).cell? ⟨g + 1, 5, none⟩ = some (.int .u32 0) := hY.cell 5
        refine bodyPost_ret (v := .agg #[.int .i64 1, .int .u32 0, .int .i64 0, .int .i64 0, .int .u32 0, .int .u32 0]) (by simp [results, Tryz.results53, go_sem, z0, z1, z2, z3, z4, z5]) rfl ?_
        exact post_same H.out (by rw [HE.out]; rfl) (by rw [HE.out]) (bel6 hg (HBr.out _ HBc.out))
      have h0b : (dd == 0) = false := bne_of h0
      by_cases hba : Batch ws
      · skip
        by_cases hr : tmR ⟨aw, at1, am⟩
        · skip
          have hd : decide (tmR ⟨aw, at1, am⟩) = true := by simpa using hr
          rw [hd] at HR
          clear hd
          go_upto_region 6 with (first
            | (go_at_call 27; refine (HBa.out _ (HBr.out _ HBc.out)).mono ?_; rintro e w3 ⟨hs3, hb3⟩; obtain ⟨z, rfl, hz⟩ := says_out hs3; obtain rfl : z = true := hz.2 (HBt.out.2 hba); have HB3 := Lib.hid (bel_trans HBc.out hb3); clear hs3 hz hb3; have X2 : w3.cell? ⟨g, 2, none⟩ = some (.int .i64 aw) := (HX.out.next HB3.out).cell 2; have X3 : w3.cell? ⟨g, 3, none⟩ = some (.int .u32 at1) := (HX.out.next HB3.out).cell 3; have X4 : w3.cell? ⟨g, 4, none⟩ = some (.int .u32 am) := (HX.out.next HB3.out).cell 4)
            | (go_at_call 73; refine (HR.out _).mono ?_; rintro e w4 ⟨rfl, hb4⟩; have HB4 := Lib.hid (bel_trans HB3.out hb4); clear hb4)
            | fail)
          clear x1 x9 X2 X3 X4
          have HOk : Hid (¬ (dd = 0 ∨ ¬ Batch ws ∨ ¬ tmR ⟨aw, at1, am⟩)) := Lib.hid (fun h => by
            rcases h with h | h | h
            · exact h0 h
            · exact h hba
            · exact h hr)
          have HH4 := Lib.hid (H.out.next (HBr.out _ HB4.out))
          have HX4 := Lib.hid (HX.out.next HB4.out)
          have HLs : Hid (∀ n, Calls Tryz.prog 129 #[.pointer (some ⟨p.s, 0, none⟩)] (w4.drewN n) fun e w' => e = .returned (.int .i64 (lenL C.M : Int)) ∧ w' = w4.drewN n) := Lib.hid (fun n => (len_any (w4.drewN n) (HH4.out.st.next (bel_drewN (bel_refl w4) n))).mono fun e w' h => ⟨h.1, h.2.symm⟩)
          have hml : ∀ n, (Builtin.len_ #[136] 3 #[.map (some p.dm)]).run Tryz.prog (w4.drewN n) = .ok (.int .i64 (C.deeds.length : Int)) (w4.drewN n) := fun n => ((HH4.out.deeds.map).drewN n).len Tryz.underlying136 3
          have c1 : w4.cell? ⟨c, 1, none⟩ = some (.pointer (some ⟨p.s, 0, none⟩)) := HH4.out.blk.cell 1
          have c2 : w4.cell? ⟨c, 2, none⟩ = some (.map (some p.dm)) := HH4.out.blk.cell 2
          have c3 : w4.cell? ⟨c, 3, none⟩ = some (.int .i64 (heldD C.deeds : Int)) := HH4.out.blk.cell 3
          have x9 : w4.cell? ⟨g, 9, none⟩ = some (.slice va T.length vc) := HX4.out.cell 9
          have HLw : Hid (T.length = ws.length) := Lib.hid (by have := congrArg List.length HM.out.pl; simpa using this)
          have HFu : Hid (lenL C.M + heldD C.deeds ≤ 65536 ∧ T.length ≤ 64 ∧ C.deeds.length ≤ 1024) := Lib.hid ⟨H.out.inv.full, by have := hba.2.1; have := HLw.out; omega, H.out.inv.ndeed⟩
          have hn1 : IntKind.i64.wrap ((lenL C.M : Int) + (heldD C.deeds : Int)) = (lenL C.M : Int) + (heldD C.deeds : Int) := by have := HFu.out; rw [IntKind.wrap_i64]; omega
          have hn2 : IntKind.i64.wrap ((lenL C.M : Int) + (heldD C.deeds : Int) + (T.length : Int)) = (lenL C.M : Int) + (heldD C.deeds : Int) + (T.length : Int) := by have := HFu.out; rw [IntKind.wrap_i64]; omega
          clear h0 hba hr h0b
          by_cases hfl : 1024 ≤ C.deeds.length ∨ 65536 < lenL C.M + heldD C.deeds + ws.length
          · have HE : Hid (prepareC C ⟨kd, dd, ⟨aw, at1, am⟩, ys, tk, nn, id, ws⟩ = (bad 4, C)) := Lib.hid (prep_full (m := ⟨kd, dd, ⟨aw, at1, am⟩, ys, tk, nn, id, ws⟩) HNf.out HOk.out hfl)
            clear hi
            by_cases h1 : 1024 ≤ C.deeds.length
            · have e1 : decide ((1024 : Int) ≤ (C.deeds.length : Int)) = true := by simp; omega
              clear hfl h1
              go_quiet ((go_at_call 129; exact Calls.quiet_of_same (HLs.out _)))
              go_upto_region 7 with fail
              have HB5 := Lib.hid (bel_drewN HB4.out nq)
              generalize w4.drewN nq = w5 at HB5 ⊢
              clear c1 c2 c3 x9 hml
              have y0 : w5.cell? ⟨g + 1, 0, none⟩ = some (.int .i64 0) := (HY.out.next HB5.out).cell 0
              have f0 : w5.frozen? ⟨g + 1, 0, none⟩ = false := (HY.out.next HB5.out).free 0
              have y1 : w5.cell? ⟨g + 1, 1, none⟩ = some (.int .u32 0) := (HY.out.next HB5.out).cell 1
              have f1 : w5.frozen? ⟨g + 1, 1, none⟩ = false := (HY.out.next HB5.out).free 1
              have y2 : w5.cell? ⟨g + 1, 2, none⟩ = some (.int .i64 0) := (HY.out.next HB5.out).cell 2
              have f2 : w5.frozen? ⟨g + 1, 2, none⟩ = false := (HY.out.next HB5.out).free 2
              have y3 : w5.cell? ⟨g + 1, 3, none⟩ = some (.int .i64 0) := (HY.out.next HB5.out).cell 3
              have f3 : w5.frozen? ⟨g + 1, 3, none⟩ = false := (HY.out.next HB5.out).free 3
              have y4 : w5.cell? ⟨g + 1, 4, none⟩ = some (.int .u32 0) := (HY.out.next HB5.out).cell 4
              have f4 : w5.frozen? ⟨g + 1, 4, none⟩ = false := (HY.out.next HB5.out).free 4
              have y5 : w5.cell? ⟨g + 1, 5, none⟩ = some (.int .u32 0) := (HY.out.next HB5.out).cell 5
              have f5 : w5.frozen? ⟨g + 1, 5, none⟩ = false := (HY.out.next HB5.out).free 5
              go_wp2_with fail
              have hY := set6 (HY.out.next HB5.out) (.int .i64 4) (.int .u32 0) (.int .i64 0) (.int .i64 0) (.int .u32 0) (.int .u32 0)
              have z0 : ((((((w5.setCell ⟨g + 1, 0, none⟩ (.int .i64 4)).setCell ⟨g + 1, 1, none⟩ (.int .u32 0)).setCell ⟨g + 1, 2, none⟩ (.int .i64 0)).setCell ⟨g + 1, 3, none⟩ (.int .i64 0)).setCell ⟨g + 1, 4, none⟩ (.int .u32 0)).setCell ⟨g + 1, 5, none⟩ (.int .u32 0)).cell? ⟨g + 1, 0, none⟩ = some (.int .i64 4) := hY.cell 0
              have z1 : ((((((w5.setCell ⟨g + 1, 0, none⟩ (.int .i64 4)).setCell ⟨g + 1, 1, none⟩ (.int .u32 0)).setCell ⟨g + 1, 2, none⟩ (.int .i64 0)).setCell ⟨g + 1, 3, none⟩ (.int .i64 0)).setCell ⟨g + 1, 4, none⟩ (.int .u32 0)).setCell ⟨g + 1, 5, none⟩ (.int .u32 0)).cell? ⟨g + 1, 1, none⟩ = some (.int .u32 0) := hY.cell 1
              have z2 : ((((((w5.setCell ⟨g + 1, 0, none⟩ (.int .i64 4)).setCell ⟨g + 1, 1, none⟩ (.int .u32 0)).setCell ⟨g + 1, 2, none⟩ (.int .i64 0)).setCell ⟨g + 1, 3, none⟩ (.int .i64 0)).setCell ⟨g + 1, 4, none⟩ (.int .u32 0)).setCell ⟨g + 1, 5, none⟩ (.int .u32 0)).cell? ⟨g + 1, 2, none⟩ = some (.int .i64 0) := hY.cell 2
              have z3 : ((((((w5.setCell ⟨g + 1, 0, none⟩ (.int .i64 4)).setCell ⟨g + 1, 1, none⟩ (.int .u32 0)).setCell ⟨g + 1, 2, none⟩ (.int .i64 0)).setCell ⟨g + 1, 3, none⟩ (.int .i64 0)).setCell ⟨g + 1, 4, none⟩ (.int .u32 0)).setCell ⟨g + 1, 5, none⟩ (.int .u32 0)).cell? ⟨g + 1, 3, none⟩ = some (.int .i64 0) := hY.cell 3
              have z4 : ((((((w5.setCell ⟨g + 1, 0, none⟩ (.int .i64 4)).setCell ⟨g + 1, 1, none⟩ (.int .u32 0)).setCell ⟨g + 1, 2, none⟩ (.int .i64 0)).setCell ⟨g + 1, 3, none⟩ (.int .i64 0)).setCell ⟨g + 1, 4, none⟩ (.int .u32 0)).setCell ⟨g + 1, 5, none⟩ (.int .u32 0)).cell? ⟨g + 1, 4, none⟩ = some (.int .u32 0) := hY.cell 4
              have z5 : ((((((w5.setCell ⟨g + 1, 0, none⟩ (.int .i64 4)).setCell ⟨g + 1, 1, none⟩ (.int .u32 0)).setCell ⟨g + 1, 2, none⟩ (.int .i64 0)).setCell ⟨g + 1, 3, none⟩ (.int .i64 0)).setCell ⟨g + 1, 4, none⟩ (.int .u32 0)).setCell ⟨g + 1, 5, none⟩ (.int .u32 0)).cell? ⟨g + 1, 5, none⟩ = some (.int .u32 0) := hY.cell 5
              refine bodyPost_ret (v := .agg #[.int .i64 4, .int .u32 0, .int .i64 0, .int .i64 0, .int .u32 0, .int .u32 0]) (by simp [results, Tryz.results53, go_sem, z0, z1, z2, z3, z4, z5]) rfl ?_
              exact post_same H.out (by rw [HE.out]; rfl) (by rw [HE.out]) (bel6 hg (HBr.out _ HB5.out))
            · have e1 : decide ((1024 : Int) ≤ (C.deeds.length : Int)) = false := by simp; omega
              have e2 : decide ((65536 : Int) < (lenL C.M : Int) + (heldD C.deeds : Int) + (T.length : Int)) = true := by have := HLw.out; simp; omega
              clear hfl h1
              go_quiet ((go_at_call 129; exact Calls.quiet_of_same (HLs.out _)))
              go_upto_region 7 with fail
              have HB5 := Lib.hid (bel_drewN HB4.out nq)
              generalize w4.drewN nq = w5 at HB5 ⊢
              clear c1 c2 c3 x9 hml
              have y0 : w5.cell? ⟨g + 1, 0, none⟩ = some (.int .i64 0) := (HY.out.next HB5.out).cell 0
              have f0 : w5.frozen? ⟨g + 1, 0, none⟩ = false := (HY.out.next HB5.out).free 0
              have y1 : w5.cell? ⟨g + 1, 1, none⟩ = some (.int .u32 0) := (HY.out.next HB5.out).cell 1
              have f1 : w5.frozen? ⟨g + 1, 1, none⟩ = false := (HY.out.next HB5.out).free 1
              have y2 : w5.cell? ⟨g + 1, 2, none⟩ = some (.int .i64 0) := (HY.out.next HB5.out).cell 2
              have f2 : w5.frozen? ⟨g + 1, 2, none⟩ = false := (HY.out.next HB5.out).free 2
              have y3 : w5.cell? ⟨g + 1, 3, none⟩ = some (.int .i64 0) := (HY.out.next HB5.out).cell 3
              have f3 : w5.frozen? ⟨g + 1, 3, none⟩ = false := (HY.out.next HB5.out).free 3
              have y4 : w5.cell? ⟨g + 1, 4, none⟩ = some (.int .u32 0) := (HY.out.next HB5.out).cell 4
              have f4 : w5.frozen? ⟨g + 1, 4, none⟩ = false := (HY.out.next HB5.out).free 4
              have y5 : w5.cell? ⟨g + 1, 5, none⟩ = some (.int .u32 0) := (HY.out.next HB5.out).cell 5
              have f5 : w5.frozen? ⟨g + 1, 5, none⟩ = false := (HY.out.next HB5.out).free 5
              go_wp2_with fail
              have hY := set6 (HY.out.next HB5.out) (.int .i64 4) (.int .u32 0) (.int .i64 0) (.int .i64 0) (.int .u32 0) (.int .u32 0)
              have z0 : ((((((w5.setCell ⟨g + 1, 0, none⟩ (.int .i64 4)).setCell ⟨g + 1, 1, none⟩ (.int .u32 0)).setCell ⟨g + 1, 2, none⟩ (.int .i64 0)).setCell ⟨g + 1, 3, none⟩ (.int .i64 0)).setCell ⟨g + 1, 4, none⟩ (.int .u32 0)).setCell ⟨g + 1, 5, none⟩ (.int .u32 0)).cell? ⟨g + 1, 0, none⟩ = some (.int .i64 4) := hY.cell 0
              have z1 : ((((((w5.setCell ⟨g + 1, 0, none⟩ (.int .i64 4)).setCell ⟨g + 1, 1, none⟩ (.int .u32 0)).setCell ⟨g + 1, 2, none⟩ (.int .i64 0)).setCell ⟨g + 1, 3, none⟩ (.int .i64 0)).setCell ⟨g + 1, 4, none⟩ (.int .u32 0)).setCell ⟨g + 1, 5, none⟩ (.int .u32 0)).cell? ⟨g + 1, 1, none⟩ = some (.int .u32 0) := hY.cell 1
              have z2 : ((((((w5.setCell ⟨g + 1, 0, none⟩ (.int .i64 4)).setCell ⟨g + 1, 1, none⟩ (.int .u32 0)).setCell ⟨g + 1, 2, none⟩ (.int .i64 0)).setCell ⟨g + 1, 3, none⟩ (.int .i64 0)).setCell ⟨g + 1, 4, none⟩ (.int .u32 0)).setCell ⟨g + 1, 5, none⟩ (.int .u32 0)).cell? ⟨g + 1, 2, none⟩ = some (.int .i64 0) := hY.cell 2
              have z3 : ((((((w5.setCell ⟨g + 1, 0, none⟩ (.int .i64 4)).setCell ⟨g + 1, 1, none⟩ (.int .u32 0)).setCell ⟨g + 1, 2, none⟩ (.int .i64 0)).setCell ⟨g + 1, 3, none⟩ (.int .i64 0)).setCell ⟨g + 1, 4, none⟩ (.int .u32 0)).setCell ⟨g + 1, 5, none⟩ (.int .u32 0)).cell? ⟨g + 1, 3, none⟩ = some (.int .i64 0) := hY.cell 3
              have z4 : ((((((w5.setCell ⟨g + 1, 0, none⟩ (.int .i64 4)).setCell ⟨g + 1, 1, none⟩ (.int .u32 0)).setCell ⟨g + 1, 2, none⟩ (.int .i64 0)).setCell ⟨g + 1, 3, none⟩ (.int .i64 0)).setCell ⟨g + 1, 4, none⟩ (.int .u32 0)).setCell ⟨g + 1, 5, none⟩ (.int .u32 0)).cell? ⟨g + 1, 4, none⟩ = some (.int .u32 0) := hY.cell 4
              have z5 : ((((((w5.setCell ⟨g + 1, 0, none⟩ (.int .i64 4)).setCell ⟨g + 1, 1, none⟩ (.int .u32 0)).setCell ⟨g + 1, 2, none⟩ (.int .i64 0)).setCell ⟨g + 1, 3, none⟩ (.int .i64 0)).setCell ⟨g + 1, 4, none⟩ (.int .u32 0)).setCell ⟨g + 1, 5, none⟩ (.int .u32 0)).cell? ⟨g + 1, 5, none⟩ = some (.int .u32 0) := hY.cell 5
              refine bodyPost_ret (v := .agg #[.int .i64 4, .int .u32 0, .int .i64 0, .int .i64 0, .int .u32 0, .int .u32 0]) (by simp [results, Tryz.results53, go_sem, z0, z1, z2, z3, z4, z5]) rfl ?_
              exact post_same H.out (by rw [HE.out]; rfl) (by rw [HE.out]) (bel6 hg (HBr.out _ HB5.out))
          have e1 : decide ((1024 : Int) ≤ (C.deeds.length : Int)) = false := by simp; omega
          have e2 : decide ((65536 : Int) < (lenL C.M : Int) + (heldD C.deeds : Int) + (T.length : Int)) = false := by have := HLw.out; simp; omega
          have HFl := Lib.hid hfl
          clear hfl
          go_quiet ((go_at_call 129; exact Calls.quiet_of_same (HLs.out _)))
          have HB5 := Lib.hid (bel_drewN HB4.out nq)
          clear c1 c2 c3 x9 hml
          generalize w4.drewN nq = w5 at HB5 ⊢
          have HX5 := Lib.hid (HX.out.next HB5.out)
          have x2 : w5.cell? ⟨g, 2, none⟩ = some (.int .i64 aw) := HX5.out.cell 2
          have x3 : w5.cell? ⟨g, 3, none⟩ = some (.int .u32 at1) := HX5.out.cell 3
          have x4 : w5.cell? ⟨g, 4, none⟩ = some (.int .u32 am) := HX5.out.cell 4
          go_upto_region 9 with fail
          have HA6 := Lib.hid (Blk.new w5 #[.int .i64 aw, .int .u32 at1, .int .u32 am] 44)
          have HB6 := Lib.hid (bel_alloc (o := .cells #[.int .i64 aw, .int .u32 at1, .int .u32 am] 44) HB5.out)
          have hg6l : w1.heap.size ≤ w5.heap.size := HB5.out.size
          clear x2 x3 x4
          generalize w5.alloc (.cells #[.int .i64 aw, .int .u32 at1, .int .u32 am] 44) = w6 at HA6 HB6 ⊢
          generalize w5.heap.size = g6 at HA6 hg6l ⊢
          have a2 : w6.cell? ⟨g6, 2, none⟩ = some (.int .u32 am) := HA6.out.cell 2
          have fa2 : w6.frozen? ⟨g6, 2, none⟩ = false := HA6.out.free 2
          go_upto_region 10 with fail
          have HA7 : Hid (Blk (w6.setCell ⟨g6, 2, none⟩ (.int .u32 0)) g6 #[.int .i64 aw, .int .u32 at1, .int .u32 0] 44) := Lib.hid (by simpa using HA6.out.set 2 (.int .u32 0))
          have HB7 := Lib.hid (bel_set (p := ⟨g6, 2, none⟩) (u := .int .u32 0) HB6.out hg6l)
          clear a2 fa2
          generalize w6.setCell ⟨g6, 2, none⟩ (.int .u32 0) = w7 at HA7 HB7 ⊢
          have H7 := Lib.hid (H.out.next (HBr.out _ HB7.out))
          have hcl : c < w7.heap.size := H7.out.blk.lt
          have hgl : g6 < w7.heap.size := HA7.out.lt
          have HCm := Lib.hid (fun W => compare_any ⟨aw, at1, 0⟩ C.closed W)
          unfold Tm.val at HCm
          simp only at HCm
          have HLt : Hid (cmpT ⟨aw, at1, 0⟩ C.closed ≤ 0 ↔ ¬ C.closed.lt ⟨aw, at1, 0⟩) := Lib.hid cmpT_le
          generalize cmpT ⟨aw, at1, 0⟩ C.closed = z at HCm HLt
          have HKs : Hid (∀ W, Below w7.heap.size w7 W → W.cell? ⟨c, 5, none⟩ = some (.int .i64 C.closed.wall) ∧ W.cell? ⟨c, 6, none⟩ = some (.int .u32 C.closed.tick) ∧ W.cell? ⟨c, 7, none⟩ = some (.int .u32 C.closed.mark) ∧ W.cell? ⟨g6, 0, none⟩ = some (.int .i64 aw) ∧ W.cell? ⟨g6, 1, none⟩ = some (.int .u32 at1) ∧ W.cell? ⟨g6, 2, none⟩ = some (.int .u32 0)) := Lib.hid (fun W hW => ⟨(H7.out.blk.next hW).cell 5, (H7.out.blk.next hW).cell 6, (H7.out.blk.next hW).cell 7, (HA7.out.next hW).cell 0, (HA7.out.next hW).cell 1, (HA7.out.next hW).cell 2⟩)
          have hx0 := bel_refl w7
          obtain ⟨q0, q1, q2, q3, q4, q5⟩ := HKs.out w7 hx0
          go_region_held3 (fun W => W.cell? ⟨c, 5, none⟩ = some (.int .i64 C.closed.wall) ∧ W.cell? ⟨c, 6, none⟩ = some (.int .u32 C.closed.tick) ∧ W.cell? ⟨c, 7, none⟩ = some (.int .u32 C.closed.mark) ∧ W.cell? ⟨g6, 0, none⟩ = some (.int .i64 aw) ∧ W.cell? ⟨g6, 1, none⟩ = some (.int .u32 at1) ∧ W.cell? ⟨g6, 2, none⟩ = some (.int .u32 0))
            (first | (with_reducible exact ⟨q0, q1, q2, q3, q4, q5⟩) | (with_reducible refine HKs.out _ ?_; (repeat (first | assumption | apply bel_alloc | apply bel_drew)); done) | go_keep)
            (first
              | (go_simp; go_at_call 26; refine (HCm.out _).mono ?_; rintro e w8 ⟨rfl, hb3⟩; have hx3 : Below w7.heap.size w7 w8 := bel_trans (by repeat (first | exact bel_refl _ | assumption | apply bel_alloc | apply bel_drew)) hb3; clear hb3))
          clear q0 q1 q2 q3 q4 q5 HKs hx0
          have HB8 := Lib.hid (bel_trans HB7.out hx3)
          have HA8 := Lib.hid (HA7.out.next hx3)
          clear hx3 hcl hgl HCm H7
          by_cases hz : z ≤ 0
          · have HNx := Lib.hid (fun W => next_any C.closed H.out.inv.cl.1 ⟨H.out.inv.cl.2.1, H.out.inv.cl.2.2.1⟩ W)
            have HSt0 : Hid (stampC C ⟨kd, dd, ⟨aw, at1, am⟩, ys, tk, nn, id, ws⟩ = (nextT C.closed).map fun n => ⟨n.wall, n.tick, dd⟩) := Lib.hid (by unfold stampC; rw [if_neg (HLt.out.1 hz)])
            have H8 := Lib.hid (H.out.next (HBr.out _ HB8.out))
            have c5 : w8.cell? ⟨c, 5, none⟩ = some (.int .i64 C.closed.wall) := H8.out.blk.cell 5
            have c6 : w8.cell? ⟨c, 6, none⟩ = some (.int .u32 C.closed.tick) := H8.out.blk.cell 6
            have c7 : w8.cell? ⟨c, 7, none⟩ = some (.int .u32 C.closed.mark) := H8.out.blk.cell 7
            cases hnx : nextT C.closed with
            | none =>
              rw [hnx] at HNx
              have HE : Hid (prepareC C ⟨kd, dd, ⟨aw, at1, am⟩, ys, tk, nn, id, ws⟩ = (bad 20, C)) := Lib.hid (prep_over (m := ⟨kd, dd, ⟨aw, at1, am⟩, ys, tk, nn, id, ws⟩) HNf.out HOk.out HFl.out (by rw [HSt0.out, hnx]; rfl))
              unfold Tm.val t0 at HNx
              simp only at HNx
              clear hi hnx
              go_upto_region 13 with (first
                | (go_at_call 130; refine (HNx.out _).mono ?_; rintro e w9 ⟨rfl, hb9⟩; have HB9 := Lib.hid (bel_trans HB8.out hb9); clear hb9)
                | fail)
              have HB10 := Lib.hid (bel_alloc (o := .cells #[.int .i64 0, .int .u32 0, .int .u32 0] 44) HB9.out)
              generalize w9.alloc (.cells #[.int .i64 0, .int .u32 0, .int .u32 0] 44) = w10 at HB10 ⊢
              clear c5 c6 c7 hz
              have y0 : w10.cell? ⟨g + 1, 0, none⟩ = some (.int .i64 0) := (HY.out.next HB10.out).cell 0
              have f0 : w10.frozen? ⟨g + 1, 0, none⟩ = false := (HY.out.next HB10.out).free 0
              have y1 : w10.cell? ⟨g + 1, 1, none⟩ = some (.int .u32 0) := (HY.out.next HB10.out).cell 1
              have f1 : w10.frozen? ⟨g + 1, 1, none⟩ = false := (HY.out.next HB10.out).free 1
              have y2 : w10.cell? ⟨g + 1, 2, none⟩ = some (.int .i64 0) := (HY.out.next HB10.out).cell 2
              have f2 : w10.frozen? ⟨g + 1, 2, none⟩ = false := (HY.out.next HB10.out).free 2
              have y3 : w10.cell? ⟨g + 1, 3, none⟩ = some (.int .i64 0) := (HY.out.next HB10.out).cell 3
              have f3 : w10.frozen? ⟨g + 1, 3, none⟩ = false := (HY.out.next HB10.out).free 3
              have y4 : w10.cell? ⟨g + 1, 4, none⟩ = some (.int .u32 0) := (HY.out.next HB10.out).cell 4
              have f4 : w10.frozen? ⟨g + 1, 4, none⟩ = false := (HY.out.next HB10.out).free 4
              have y5 : w10.cell? ⟨g + 1, 5, none⟩ = some (.int .u32 0) := (HY.out.next HB10.out).cell 5
              have f5 : w10.frozen? ⟨g + 1, 5, none⟩ = false := (HY.out.next HB10.out).free 5
              go_wp2_with fail
              have hY := set6 (HY.out.next HB10.out) (.int .i64 20) (.int .u32 0) (.int .i64 0) (.int .i64 0) (.int .u32 0) (.int .u32 0)
              have z0 : ((((((w10.setCell ⟨g + 1, 0, none⟩ (.int .i64 20)).setCell ⟨g + 1, 1, none⟩ (.int .u32 0)).setCell ⟨g + 1, 2, none⟩ (.int .i64 0)).setCell ⟨g + 1, 3, none⟩ (.int .i64 0)).setCell ⟨g + 1, 4, none⟩ (.int .u32 0)).setCell ⟨g + 1, 5, none⟩ (.int .u32 0)).cell? ⟨g + 1, 0, none⟩ = some (.int .i64 20) := hY.cell 0
              have z1 : ((((((w10.setCell ⟨g + 1, 0, none⟩ (.int .i64 20)).setCell ⟨g + 1, 1, none⟩ (.int .u32 0)).setCell ⟨g + 1, 2, none⟩ (.int .i64 0)).setCell ⟨g + 1, 3, none⟩ (.int .i64 0)).setCell ⟨g + 1, 4, none⟩ (.int .u32 0)).setCell ⟨g + 1, 5, none⟩ (.int .u32 0)).cell? ⟨g + 1, 1, none⟩ = some (.int .u32 0) := hY.cell 1
              have z2 : ((((((w10.setCell ⟨g + 1, 0, none⟩ (.int .i64 20)).setCell ⟨g + 1, 1, none⟩ (.int .u32 0)).setCell ⟨g + 1, 2, none⟩ (.int .i64 0)).setCell ⟨g + 1, 3, none⟩ (.int .i64 0)).setCell ⟨g + 1, 4, none⟩ (.int .u32 0)).setCell ⟨g + 1, 5, none⟩ (.int .u32 0)).cell? ⟨g + 1, 2, none⟩ = some (.int .i64 0) := hY.cell 2
              have z3 : ((((((w10.setCell ⟨g + 1, 0, none⟩ (.int .i64 20)).setCell ⟨g + 1, 1, none⟩ (.int .u32 0)).setCell ⟨g + 1, 2, none⟩ (.int .i64 0)).setCell ⟨g + 1, 3, none⟩ (.int .i64 0)).setCell ⟨g + 1, 4, none⟩ (.int .u32 0)).setCell ⟨g + 1, 5, none⟩ (.int .u32 0)).cell? ⟨g + 1, 3, none⟩ = some (.int .i64 0) := hY.cell 3
              have z4 : ((((((w10.setCell ⟨g + 1, 0, none⟩ (.int .i64 20)).setCell ⟨g + 1, 1, none⟩ (.int .u32 0)).setCell ⟨g + 1, 2, none⟩ (.int .i64 0)).setCell ⟨g + 1, 3, none⟩ (.int .i64 0)).setCell ⟨g + 1, 4, none⟩ (.int .u32 0)).setCell ⟨g + 1, 5, none⟩ (.int .u32 0)).cell? ⟨g + 1, 4, none⟩ = some (.int .u32 0) := hY.cell 4
              have z5 : ((((((w10.setCell ⟨g + 1, 0, none⟩ (.int .i64 20)).setCell ⟨g + 1, 1, none⟩ (.int .u32 0)).setCell ⟨g + 1, 2, none⟩ (.int .i64 0)).setCell ⟨g + 1, 3, none⟩ (.int .i64 0)).setCell ⟨g + 1, 4, none⟩ (.int .u32 0)).setCell ⟨g + 1, 5, none⟩ (.int .u32 0)).cell? ⟨g + 1, 5, none⟩ = some (.int .u32 0) := hY.cell 5
              refine bodyPost_ret (v := .agg #[.int .i64 20, .int .u32 0, .int .i64 0, .int .i64 0, .int .u32 0, .int .u32 0]) (by simp [results, Tryz.results53, go_sem, z0, z1, z2, z3, z4, z5]) rfl ?_
              exact post_same H.out (by rw [HE.out]; rfl) (by rw [HE.out]) (bel6 hg (HBr.out _ HB10.out))
            | some nx =>
              obtain ⟨nw, nt, nm⟩ := nx
              rw [hnx] at HNx
              have HSt : Hid (stampC C ⟨kd, dd, ⟨aw, at1, am⟩, ys, tk, nn, id, ws⟩ = some ⟨nw, nt, dd⟩) := Lib.hid (by rw [HSt0.out, hnx]; rfl)
              unfold Tm.val at HNx
              simp only at HNx
              clear hnx
              go_upto_region 14 with (first
                | (go_at_call 130; refine (HNx.out _).mono ?_; rintro e w9 ⟨rfl, hb9⟩; have HB9 := Lib.hid (bel_trans HB8.out hb9); have HA9 := Lib.hid (HA8.out.next hb9); clear hb9)
                | fail)
              have HB10 := Lib.hid (bel_alloc (o := .cells #[.int .i64 nw, .int .u32 nt, .int .u32 nm] 44) HB9.out)
              have HA10 := Lib.hid (HA9.out.next (below_alloc w9 (.cells #[.int .i64 nw, .int .u32 nt, .int .u32 nm] 44)))
              have HN10 := Lib.hid (Blk.new w9 #[.int .i64 nw, .int .u32 nt, .int .u32 nm] 44)
              generalize w9.alloc (.cells #[.int .i64 nw, .int .u32 nt, .int .u32 nm] 44) = w10 at HB10 HA10 HN10 ⊢
              clear c5 c6 c7 hz
              generalize w9.heap.size = g9 at HN10 ⊢
              have n0 : w10.cell? ⟨g9, 0, none⟩ = some (.int .i64 nw) := HN10.out.cell 0
              have n1 : w10.cell? ⟨g9, 1, none⟩ = some (.int .u32 nt) := HN10.out.cell 1
              have n2 : w10.cell? ⟨g9, 2, none⟩ = some (.int .u32 nm) := HN10.out.cell 2
              have a0 : w10.cell? ⟨g6, 0, none⟩ = some (.int .i64 aw) := HA10.out.cell 0
              have a1 : w10.cell? ⟨g6, 1, none⟩ = some (.int .u32 at1) := HA10.out.cell 1
              have a2 : w10.cell? ⟨g6, 2, none⟩ = some (.int .u32 0) := HA10.out.cell 2
              have b0 : w10.frozen? ⟨g6, 0, none⟩ = false := HA10.out.free 0
              have b1 : w10.frozen? ⟨g6, 1, none⟩ = false := HA10.out.free 1
              have b2 : w10.frozen? ⟨g6, 2, none⟩ = false := HA10.out.free 2
              go_upto_region 15 with fail
              have HA11 : Hid (Blk (((w10.setCell ⟨g6, 0, none⟩ (.int .i64 nw)).setCell ⟨g6, 1, none⟩ (.int .u32 nt)).setCell ⟨g6, 2, none⟩ (.int .u32 nm)) g6 #[.int .i64 nw, .int .u32 nt, .int .u32 nm] 44) := Lib.hid (by simpa using ((HA10.out.set 0 (.int .i64 nw)).set 1 (.int .u32 nt)).set 2 (.int .u32 nm))
              have HB11 := Lib.hid (bel_set (p := ⟨g6, 2, none⟩) (u := .int .u32 nm) (bel_set (p := ⟨g6, 1, none⟩) (u := .int .u32 nt) (bel_set (p := ⟨g6, 0, none⟩) (u := .int .i64 nw) HB10.out hg6l) hg6l) hg6l)
              clear n0 n1 n2 a0 a1 a2 b0 b1 b2
              generalize ((w10.setCell ⟨g6, 0, none⟩ (.int .i64 nw)).setCell ⟨g6, 1, none⟩ (.int .u32 nt)).setCell ⟨g6, 2, none⟩ (.int .u32 nm) = w11 at HA11 HB11 ⊢
              have a2 : w11.cell? ⟨g6, 2, none⟩ = some (.int .u32 nm) := HA11.out.cell 2
              have fa2 : w11.frozen? ⟨g6, 2, none⟩ = false := HA11.out.free 2
              have HXx := Lib.hid (HX.out.next HB11.out)
              have x1 : w11.cell? ⟨g, 1, none⟩ = some (.int .u32 dd) := HXx.out.cell 1
              go_upto_region 16 with fail
              have HA13 : Hid (Blk (w11.setCell ⟨g6, 2, none⟩ (.int .u32 dd)) g6 #[.int .i64 nw, .int .u32 nt, .int .u32 dd] 44) := Lib.hid (by simpa using HA11.out.set 2 (.int .u32 dd))
              have HB12 := Lib.hid (bel_set (p := ⟨g6, 2, none⟩) (u := .int .u32 dd) HB11.out hg6l)
              clear a2 fa2 x1 HXx
              generalize w11.setCell ⟨g6, 2, none⟩ (.int .u32 dd) = w12 at HA13 HB12 ⊢
              have HX13 := Lib.hid (HX.out.next HB12.out)
              have hgl : g < w12.heap.size := HX13.out.lt
              have hg6l2 : g6 < w12.heap.size := HA13.out.lt
              have hgl1 : g + 1 < w12.heap.size := (HY.out.next HB12.out).lt
              have HTw := Lib.hid (fun W (hW : Below w12.heap.size w12 W) => twins_any (.slice va T.length vc) T W (HM.out.rd.below (bel_trans (HBr.out _ HB12.out) hW)) HM.out.len HM.out.sets)
              have HFl2 : Hid (∀ x, (F x ∨ x = g + 1) → x < w12.heap.size) := Lib.hid (fun x hx => by
                rcases hx with hx | rfl
                · exact Nat.lt_of_lt_of_le (H.out.lt x hx) (HBr.out _ HB12.out).size
                · exact hgl1)
              have HKs : Hid (∀ W, Below w12.heap.size w12 W → W.cell? ⟨g6, 0, none⟩ = some (.int .i64 nw) ∧ W.cell? ⟨g6, 1, none⟩ = some (.int .u32 nt) ∧ W.cell? ⟨g6, 2, none⟩ = some (.int .u32 dd) ∧ W.cell? ⟨g, 9, none⟩ = some (.slice va T.length vc)) := Lib.hid (fun W hW => ⟨(HA13.out.next hW).cell 0, (HA13.out.next hW).cell 1, (HA13.out.next hW).cell 2, (HX13.out.next hW).cell 9⟩)
              obtain ⟨q0, q1, q2, q3⟩ := HKs.out w12 (bel_refl w12)
              go_cut [10] (fun pv wd => ∃ v5 b, pv = .pointer (some ⟨b, 0, none⟩) ∧ Hid (Blk wd b #[.int .i64 1, .int .i64 nw, .int .u32 nt, .int .u32 dd, v5] 181 ∧ w12.heap.size ≤ b ∧ Below w12.heap.size w12 wd ∧ RdB (fun y => F y ∨ y = g + 1) wd v5 ws))
              case first =>
                go_region_held3 (fun W => W.cell? ⟨g6, 0, none⟩ = some (.int .i64 nw) ∧ W.cell? ⟨g6, 1, none⟩ = some (.int .u32 nt) ∧ W.cell? ⟨g6, 2, none⟩ = some (.int .u32 dd) ∧ W.cell? ⟨g, 9, none⟩ = some (.slice va T.length vc))
                  (first | (with_reducible exact ⟨q0, q1, q2, q3⟩) | (with_reducible refine HKs.out _ ?_; (repeat (first | assumption | apply bel_alloc | apply bel_drew | refine bel_set ?_ (Nat.le_refl _))); done) | go_keep)
                  (first
                    | (go_simp; go_at_call 88; refine (HTw.out _ (by repeat (first | exact bel_refl _ | assumption | apply bel_alloc | apply bel_drew))).mono ?_; rintro e w5' ⟨v5, T5, rfl, hm5, hb5⟩; obtain ⟨a5, c5, hv5, -⟩ := hm5.rd.open; subst hv5; have hx5 : Below w12.heap.size w12 w5' := bel_trans (by repeat (first | exact bel_refl _ | assumption | apply bel_alloc | apply bel_drew)) hm5.bel; have hgl5 : g < w5'.heap.size := Nat.lt_of_lt_of_le hgl hx5.size; have hg6l5 : g6 < w5'.heap.size := Nat.lt_of_lt_of_le hg6l2 hx5.size; have HPl : Hid (T5.map Wr.pl = ws) := Lib.hid ((pl_bares.1 hb5).trans HM.out.pl); have hmf := made_first (F := fun y => F y ∨ y = g + 1) (n := w12.heap.size) (by first | exact new_drew _ _ _ | exact drew_new _ _ _ | exact Blk.new _ _ _) hm5 HFl2.out; have s0 : w5'.cell? ⟨w12.heap.size, 0, none⟩ = some (.int .i64 0) := hmf.1.cell 0; have t0 : w5'.frozen? ⟨w12.heap.size, 0, none⟩ = false := hmf.1.free 0; have s1 : w5'.cell? ⟨w12.heap.size, 1, none⟩ = some (.int .i64 0) := hmf.1.cell 1; have t1 : w5'.frozen? ⟨w12.heap.size, 1, none⟩ = false := hmf.1.free 1; have s2 : w5'.cell? ⟨w12.heap.size, 2, none⟩ = some (.int .u32 0) := hmf.1.cell 2; have t2 : w5'.frozen? ⟨w12.heap.size, 2, none⟩ = false := hmf.1.free 2; have s3 : w5'.cell? ⟨w12.heap.size, 3, none⟩ = some (.int .u32 0) := hmf.1.cell 3; have t3 : w5'.frozen? ⟨w12.heap.size, 3, none⟩ = false := hmf.1.free 3; have s4 : w5'.cell? ⟨w12.heap.size, 4, none⟩ = some (.slice none 0 0) := hmf.1.cell 4; have t4 : w5'.frozen? ⟨w12.heap.size, 4, none⟩ = false := hmf.1.free 4; have HMf := Lib.hid hmf; clear hm5 hb5 hmf)
                    | (go_simp; go_at_call 88; refine (HTw.out _ (by repeat (first | exact bel_refl _ | assumption | apply bel_alloc | apply bel_drew))).mono ?_; rintro e w5' ⟨v5, T5, rfl, hm5, hb5⟩; obtain ⟨a5, c5, hv5, -⟩ := hm5.rd.open; subst hv5; have hx5 : Below w12.heap.size w12 w5' := bel_trans (by repeat (first | exact bel_refl _ | assumption | apply bel_alloc | apply bel_drew)) hm5.bel; have hgl5 : g < w5'.heap.size := Nat.lt_of_lt_of_le hgl hx5.size; have hg6l5 : g6 < w5'.heap.size := Nat.lt_of_lt_of_le hg6l2 hx5.size; have HPl : Hid (T5.map Wr.pl = ws) := Lib.hid ((pl_bares.1 hb5).trans HM.out.pl); have HRd := Lib.hid (wrs_rdb (F := fun y => F y ∨ y = g + 1) hm5 (fun x hx => HFl2.out x hx)); clear hm5 hb5))
                all_goals go_wp2_with fail
                all_goals go_meet
                · refine ⟨_, _, rfl, Lib.hid ⟨Blk.new _ _ _, hx5.size, bel_alloc hx5, ?_⟩⟩
                  have := HRd.out
                  rw [HPl.out] at this
                  exact this.keep (Turn.of (F := fun y => F y ∨ y = g + 1) (below_alloc w5' _)) (fun _ h => .inl h)
                · refine ⟨_, _, rfl, Lib.hid ⟨set5d HMf.out.1 _ _ _ _ _, Nat.le_refl _, (bel_set (bel_set (bel_set (bel_set (bel_set hx5 (Nat.le_refl _)) (Nat.le_refl _)) (Nat.le_refl _)) (Nat.le_refl _)) (Nat.le_refl _)), ?_⟩⟩
                  have := HMf.out.2
                  rw [HPl.out] at this
                  exact this.keep ((((((Turn.refl (fun x => (F x ∨ x = g + 1) ∨ x = w12.heap.size) w5').set (a := ⟨w12.heap.size, 0, none⟩) (.inr rfl) _).set (a := ⟨w12.heap.size, 1, none⟩) (.inr rfl) _).set (a := ⟨w12.heap.size, 2, none⟩) (.inr rfl) _).set (a := ⟨w12.heap.size, 3, none⟩) (.inr rfl) _).set (a := ⟨w12.heap.size, 4, none⟩) (.inr rfl) _) (fun _ h => .inl (.inl h))
              case rest =>
                obtain ⟨v5, b, rfl, HQ⟩ := hcut
                obtain ⟨wd, rfl⟩ : ∃ wd, wd = wc := ⟨_, rfl⟩
                obtain ⟨a5, c5, hv5⟩ := HQ.out.2.2.2.open
                subst hv5
                have HQb' := Lib.hid HQ.out.1
                have HQw := Lib.hid HQ.out.2.2.1
                have HQr := Lib.hid HQ.out.2.2.2
                have hbl5 : w12.heap.size ≤ b := HQ.out.2.1
                have HBd : Hid (Below w.heap.size w wd) := Lib.hid (bel_trans (HBr.out _ HB12.out) HQw.out)
                have HB1d : Hid (Below w1.heap.size w1 wd) := Lib.hid (bel_trans HB12.out HQw.out)
                have hcw : c < w.heap.size := H.out.blk.lt
                have hdmw : p.dm < w.heap.size := H.out.lt _ H.out.Fd
                have hbc : b ≠ c := by omega
                have hbd : b ≠ p.dm := by omega
                have hgd' : g ≠ p.dm := by omega
                have hgd1 : g + 1 ≠ p.dm := by omega
                have hgc : g + 1 ≠ c := by omega
                have hgd : g + 1 < wd.heap.size := by have := HQw.out.size; omega
                have HCd := Lib.hid (H.out.next HBd.out)
                have HCdd := Lib.hid (H.out.next (bel_drew HBd.out))
                have HXd := Lib.hid (HX.out.next HB1d.out)
                have HYd := Lib.hid (HY.out.next HB1d.out)
                have hxs : ∃ w14, (Instr.mapUpdate 136 (.map (some p.dm)) (.int .u32 dd) (dval ⟨dd, 1, ⟨nw, nt, dd⟩, ws⟩ (.slice a5 ws.length c5))).run Tryz.prog wd.drew = .ok () w14 ∧ MapIs Tryz.prog 24 w14 p.dm (upd p.fd (litD dd) (dval ⟨dd, 1, ⟨nw, nt, dd⟩, ws⟩ (.slice a5 ws.length c5))) (if (p.fd (litD dd)).isSome then C.deeds.length else C.deeds.length + 1) ∧ wd.drew.grownBy w14 (some p.dm) := by
                  obtain ⟨w14, hr14, hm14, hg14⟩ := HCdd.out.deeds.map.put key24 Tryz.underlying136 (by have := HFu.out; simp only [maxLen]; omega) (dval ⟨dd, 1, ⟨nw, nt, dd⟩, ws⟩ (.slice a5 ws.length c5)) (keyOf24 hddr) trivial
                  exact ⟨w14, hr14, hm14, hg14⟩
                obtain ⟨w14, hr14, hm14, hg14⟩ := hxs
                have HM14 := Lib.hid hm14
                have HG14 := Lib.hid hg14
                have HC14 := Lib.hid ((HCdd.out.blk).grown hg14 (fun e => H.out.cd (by injection e with e; exact e.symm)))
                have HQ14 := Lib.hid ((HQb'.out.next (bel_drew (bel_refl wd))).grown hg14 (fun e => hbd (by injection e with e; exact e.symm)))
                have HX14 := Lib.hid ((HXd.out.next (bel_drew (bel_refl wd))).grown hg14 (fun e => hgd' (by injection e with e; exact e.symm)))
                have HY14 := Lib.hid ((HYd.out.next (bel_drew (bel_refl wd))).grown hg14 (fun e => hgd1 (by injection e with e; exact e.symm)))
                clear hm14 hg14
                unfold dval at hr14
                simp only at hr14
                have c2 : wd.cell? ⟨c, 2, none⟩ = some (.map (some p.dm)) := HCd.out.blk.cell 2
                have x1 : wd.cell? ⟨g, 1, none⟩ = some (.int .u32 dd) := HXd.out.cell 1
                have k0 : wd.cell? ⟨b, 0, none⟩ = some (.int .i64 1) := HQb'.out.cell 0
                have k1 : wd.cell? ⟨b, 1, none⟩ = some (.int .i64 nw) := HQb'.out.cell 1
                have k2 : wd.cell? ⟨b, 2, none⟩ = some (.int .u32 nt) := HQb'.out.cell 2
                have k3 : wd.cell? ⟨b, 3, none⟩ = some (.int .u32 dd) := HQb'.out.cell 3
                have k4 : wd.cell? ⟨b, 4, none⟩ = some (.slice a5 ws.length c5) := HQb'.out.cell 4
                have HLe : Hid (ws.length ≤ 64) := Lib.hid (by have := HFu.out; have := HLw.out; omega)
                have Hi := Lib.hid hi
                clear HQ hi q0 q1 q2 q3 HKs HTw HFl2 hn1 hn2 hgl hg6l2 e2
                go_wp2_with fail
                go_region
                clear c2 x1 k0 k1 k2 k3 k4 hr14
                have c3 : w14.cell? ⟨c, 3, none⟩ = some (.int .i64 (heldD C.deeds : Int)) := HC14.out.cell 3
                have fc3 : w14.frozen? ⟨c, 3, none⟩ = false := HC14.out.free 3
                have k4 : w14.cell? ⟨b, 4, none⟩ = some (.slice a5 ws.length c5) := HQ14.out.cell 4
                have hn3 : IntKind.i64.wrap ((heldD C.deeds : Int) + (ws.length : Int)) = (heldD C.deeds : Int) + (ws.length : Int) := by have := HFu.out; have := HLe.out; rw [IntKind.wrap_i64]; omega
                go_wp2_with fail
                go_region
                have hgcc : g ≠ c := by omega
                have HQ15 : Hid (Blk (w14.setCell ⟨c, 3, none⟩ (.int .i64 ((heldD C.deeds : Int) + (ws.length : Int)))).drew b #[.int .i64 1, .int .i64 nw, .int .u32 nt, .int .u32 dd, .slice a5 ws.length c5] 181) := Lib.hid ((HQ14.out.other hbc _).next (bel_drew (bel_refl _)))
                have HX15 : Hid (Blk (w14.setCell ⟨c, 3, none⟩ (.int .i64 ((heldD C.deeds : Int) + (ws.length : Int)))).drew g #[.int .i64 kd, .int .u32 dd, .int .i64 aw, .int .u32 at1, .int .u32 am, .bool ys, .string tk, .int .i64 nn, .int .i64 id, .slice va T.length vc] 50) := Lib.hid ((HX14.out.other hgcc _).next (bel_drew (bel_refl _)))
                have HY15 : Hid (Blk (w14.setCell ⟨c, 3, none⟩ (.int .i64 ((heldD C.deeds : Int) + (ws.length : Int)))).drew (g + 1) #[.int .i64 0, .int .u32 0, .int .i64 0, .int .i64 0, .int .u32 0, .int .u32 0] 46) := Lib.hid ((HY14.out.other hgc _).next (bel_drew (bel_refl _)))
                clear c3 fc3 k4 hn3
                generalize hw15 : (w14.setCell ⟨c, 3, none⟩ (.int .i64 ((heldD C.deeds : Int) + (ws.length : Int)))).drew = w15 at HQ15 HX15 HY15 ⊢
                have Hw15 := Lib.hid hw15
                clear hw15
                have HTl := Lib.hid (fun W => dtold_any ⟨dd, 1, ⟨nw, nt, dd⟩, ws⟩ a5 ws.length c5 W)
                unfold replyV replyA dval Dd.told at HTl
                simp only at HTl
                have HE := Lib.hid (prep_new (m := ⟨kd, dd, ⟨aw, at1, am⟩, ys, tk, nn, id, ws⟩) HNf.out HOk.out HFl.out HSt.out)
                have x1 : w15.cell? ⟨g, 1, none⟩ = some (.int .u32 dd) := HX15.out.cell 1
                have k0 : w15.cell? ⟨b, 0, none⟩ = some (.int .i64 1) := HQ15.out.cell 0
                have k1 : w15.cell? ⟨b, 1, none⟩ = some (.int .i64 nw) := HQ15.out.cell 1
                have k2 : w15.cell? ⟨b, 2, none⟩ = some (.int .u32 nt) := HQ15.out.cell 2
                have k3 : w15.cell? ⟨b, 3, none⟩ = some (.int .u32 dd) := HQ15.out.cell 3
                have k4 : w15.cell? ⟨b, 4, none⟩ = some (.slice a5 ws.length c5) := HQ15.out.cell 4
                have HYf15 : Hid (∀ W, Below w15.heap.size w15 W → W.cell? ⟨g + 1, 0, none⟩ = some (.int .i64 0) ∧ W.frozen? ⟨g + 1, 0, none⟩ = false ∧ W.cell? ⟨g + 1, 1, none⟩ = some (.int .u32 0) ∧ W.frozen? ⟨g + 1, 1, none⟩ = false ∧ W.cell? ⟨g + 1, 2, none⟩ = some (.int .i64 0) ∧ W.frozen? ⟨g + 1, 2, none⟩ = false ∧ W.cell? ⟨g + 1, 3, none⟩ = some (.int .i64 0) ∧ W.frozen? ⟨g + 1, 3, none⟩ = false ∧ W.cell? ⟨g + 1, 4, none⟩ = some (.int .u32 0) ∧ W.frozen? ⟨g + 1, 4, none⟩ = false ∧ W.cell? ⟨g + 1, 5, none⟩ = some (.int .u32 0) ∧ W.frozen? ⟨g + 1, 5, none⟩ = false) := Lib.hid (fun W hW => ⟨(HY15.out.next hW).cell 0, (HY15.out.next hW).free 0, (HY15.out.next hW).cell 1, (HY15.out.next hW).free 1, (HY15.out.next hW).cell 2, (HY15.out.next hW).free 2, (HY15.out.next hW).cell 3, (HY15.out.next hW).free 3, (HY15.out.next hW).cell 4, (HY15.out.next hW).free 4, (HY15.out.next hW).cell 5, (HY15.out.next hW).free 5⟩)
                go_wp2_with (first
                  | (go_at_call 89; refine (HTl.out _).mono ?_; rintro e w16 ⟨rfl, hb16⟩; have HB16 := Lib.hid hb16; clear hb16; obtain ⟨y0, f0, y1, f1, y2, f2, y3, f3, y4, f4, y5, f5⟩ := HYf15.out w16 HB16.out)
                  | fail)
                have hY := set6 (HY15.out.next HB16.out) (.int .i64 0) (.int .u32 dd) (.int .i64 1) (.int .i64 nw) (.int .u32 nt) (.int .u32 dd)
                have z0 : ((((((w16.setCell ⟨g + 1, 0, none⟩ (.int .i64 0)).setCell ⟨g + 1, 1, none⟩ (.int .u32 dd)).setCell ⟨g + 1, 2, none⟩ (.int .i64 1)).setCell ⟨g + 1, 3, none⟩ (.int .i64 nw)).setCell ⟨g + 1, 4, none⟩ (.int .u32 nt)).setCell ⟨g + 1, 5, none⟩ (.int .u32 dd)).cell? ⟨g + 1, 0, none⟩ = some (.int .i64 0) := hY.cell 0
                have z1 : ((((((w16.setCell ⟨g + 1, 0, none⟩ (.int .i64 0)).setCell ⟨g + 1, 1, none⟩ (.int .u32 dd)).setCell ⟨g + 1, 2, none⟩ (.int .i64 1)).setCell ⟨g + 1, 3, none⟩ (.int .i64 nw)).setCell ⟨g + 1, 4, none⟩ (.int .u32 nt)).setCell ⟨g + 1, 5, none⟩ (.int .u32 dd)).cell? ⟨g + 1, 1, none⟩ = some (.int .u32 dd) := hY.cell 1
                have z2 : ((((((w16.setCell ⟨g + 1, 0, none⟩ (.int .i64 0)).setCell ⟨g + 1, 1, none⟩ (.int .u32 dd)).setCell ⟨g + 1, 2, none⟩ (.int .i64 1)).setCell ⟨g + 1, 3, none⟩ (.int .i64 nw)).setCell ⟨g + 1, 4, none⟩ (.int .u32 nt)).setCell ⟨g + 1, 5, none⟩ (.int .u32 dd)).cell? ⟨g + 1, 2, none⟩ = some (.int .i64 1) := hY.cell 2
                have z3 : ((((((w16.setCell ⟨g + 1, 0, none⟩ (.int .i64 0)).setCell ⟨g + 1, 1, none⟩ (.int .u32 dd)).setCell ⟨g + 1, 2, none⟩ (.int .i64 1)).setCell ⟨g + 1, 3, none⟩ (.int .i64 nw)).setCell ⟨g + 1, 4, none⟩ (.int .u32 nt)).setCell ⟨g + 1, 5, none⟩ (.int .u32 dd)).cell? ⟨g + 1, 3, none⟩ = some (.int .i64 nw) := hY.cell 3
                have z4 : ((((((w16.setCell ⟨g + 1, 0, none⟩ (.int .i64 0)).setCell ⟨g + 1, 1, none⟩ (.int .u32 dd)).setCell ⟨g + 1, 2, none⟩ (.int .i64 1)).setCell ⟨g + 1, 3, none⟩ (.int .i64 nw)).setCell ⟨g + 1, 4, none⟩ (.int .u32 nt)).setCell ⟨g + 1, 5, none⟩ (.int .u32 dd)).cell? ⟨g + 1, 4, none⟩ = some (.int .u32 nt) := hY.cell 4
                have z5 : ((((((w16.setCell ⟨g + 1, 0, none⟩ (.int .i64 0)).setCell ⟨g + 1, 1, none⟩ (.int .u32 dd)).setCell ⟨g + 1, 2, none⟩ (.int .i64 1)).setCell ⟨g + 1, 3, none⟩ (.int .i64 nw)).setCell ⟨g + 1, 4, none⟩ (.int .u32 nt)).setCell ⟨g + 1, 5, none⟩ (.int .u32 dd)).cell? ⟨g + 1, 5, none⟩ = some (.int .u32 dd) := hY.cell 5
                refine bodyPost_ret (v := .agg #[.int .i64 0, .int .u32 dd, .int .i64 1, .int .i64 nw, .int .u32 nt, .int .u32 dd]) (by simp [results, Tryz.results53, go_sem, z0, z1, z2, z3, z4, z5]) rfl ?_
                exact prep_end (d := ⟨dd, 1, ⟨nw, nt, dd⟩, ws⟩) H.out (Nat.le_of_eq hg) HBd.out HNf.out HQr.out hgd HM14.out rfl HG14.out rfl (by have := HB16.out; rw [← Hw15.out] at this; exact bel_trans (bel_drew (bel_refl _)) this) (by rw [HE.out]; rfl) (by rw [HE.out]) Hi.out
          · have HSt : Hid (stampC C ⟨kd, dd, ⟨aw, at1, am⟩, ys, tk, nn, id, ws⟩ = some ⟨aw, at1, dd⟩) := Lib.hid (by unfold stampC; rw [if_pos (Classical.byContradiction fun h => hz (HLt.out.2 h))])
            go_upto_region 15 with fail
            clear hz
            have a2 : w8.cell? ⟨g6, 2, none⟩ = some (.int .u32 0) := HA8.out.cell 2
            have fa2 : w8.frozen? ⟨g6, 2, none⟩ = false := HA8.out.free 2
            have HXx := Lib.hid (HX.out.next HB8.out)
            have x1 : w8.cell? ⟨g, 1, none⟩ = some (.int .u32 dd) := HXx.out.cell 1
            go_upto_region 16 with fail
            have HA13 : Hid (Blk (w8.setCell ⟨g6, 2, none⟩ (.int .u32 dd)) g6 #[.int .i64 aw, .int .u32 at1, .int .u32 dd] 44) := Lib.hid (by simpa using HA8.out.set 2 (.int .u32 dd))
            have HB12 := Lib.hid (bel_set (p := ⟨g6, 2, none⟩) (u := .int .u32 dd) HB8.out hg6l)
            clear a2 fa2 x1 HXx
            generalize w8.setCell ⟨g6, 2, none⟩ (.int .u32 dd) = w12 at HA13 HB12 ⊢
            have HX13 := Lib.hid (HX.out.next HB12.out)
            have hgl : g < w12.heap.size := HX13.out.lt
            have hg6l2 : g6 < w12.heap.size := HA13.out.lt
            have hgl1 : g + 1 < w12.heap.size := (HY.out.next HB12.out).lt
            have HTw := Lib.hid (fun W (hW : Below w12.heap.size w12 W) => twins_any (.slice va T.length vc) T W (HM.out.rd.below (bel_trans (HBr.out _ HB12.out) hW)) HM.out.len HM.out.sets)
            have HFl2 : Hid (∀ x, (F x ∨ x = g + 1) → x < w12.heap.size) := Lib.hid (fun x hx => by
              rcases hx with hx | rfl
              · exact Nat.lt_of_lt_of_le (H.out.lt x hx) (HBr.out _ HB12.out).size
              · exact hgl1)
            have HKs : Hid (∀ W, Below w12.heap.size w12 W → W.cell? ⟨g6, 0, none⟩ = some (.int .i64 aw) ∧ W.cell? ⟨g6, 1, none⟩ = some (.int .u32 at1) ∧ W.cell? ⟨g6, 2, none⟩ = some (.int .u32 dd) ∧ W.cell? ⟨g, 9, none⟩ = some (.slice va T.length vc)) := Lib.hid (fun W hW => ⟨(HA13.out.next hW).cell 0, (HA13.out.next hW).cell 1, (HA13.out.next hW).cell 2, (HX13.out.next hW).cell 9⟩)
            obtain ⟨q0, q1, q2, q3⟩ := HKs.out w12 (bel_refl w12)
            go_cut [10] (fun pv wd => ∃ v5 b, pv = .pointer (some ⟨b, 0, none⟩) ∧ Hid (Blk wd b #[.int .i64 1, .int .i64 aw, .int .u32 at1, .int .u32 dd, v5] 181 ∧ w12.heap.size ≤ b ∧ Below w12.heap.size w12 wd ∧ RdB (fun y => F y ∨ y = g + 1) wd v5 ws))
            case first =>
              go_region_held3 (fun W => W.cell? ⟨g6, 0, none⟩ = some (.int .i64 aw) ∧ W.cell? ⟨g6, 1, none⟩ = some (.int .u32 at1) ∧ W.cell? ⟨g6, 2, none⟩ = some (.int .u32 dd) ∧ W.cell? ⟨g, 9, none⟩ = some (.slice va T.length vc))
                (first | (with_reducible exact ⟨q0, q1, q2, q3⟩) | (with_reducible refine HKs.out _ ?_; (repeat (first | assumption | apply bel_alloc | apply bel_drew | refine bel_set ?_ (Nat.le_refl _))); done) | go_keep)
                (first
                  | (go_simp; go_at_call 88; refine (HTw.out _ (by repeat (first | exact bel_refl _ | assumption | apply bel_alloc | apply bel_drew))).mono ?_; rintro e w5' ⟨v5, T5, rfl, hm5, hb5⟩; obtain ⟨a5, c5, hv5, -⟩ := hm5.rd.open; subst hv5; have hx5 : Below w12.heap.size w12 w5' := bel_trans (by repeat (first | exact bel_refl _ | assumption | apply bel_alloc | apply bel_drew)) hm5.bel; have hgl5 : g < w5'.heap.size := Nat.lt_of_lt_of_le hgl hx5.size; have hg6l5 : g6 < w5'.heap.size := Nat.lt_of_lt_of_le hg6l2 hx5.size; have HPl : Hid (T5.map Wr.pl = ws) := Lib.hid ((pl_bares.1 hb5).trans HM.out.pl); have hmf := made_first (F := fun y => F y ∨ y = g + 1) (n := w12.heap.size) (by first | exact new_drew _ _ _ | exact drew_new _ _ _ | exact Blk.new _ _ _) hm5 HFl2.out; have s0 : w5'.cell? ⟨w12.heap.size, 0, none⟩ = some (.int .i64 0) := hmf.1.cell 0; have t0 : w5'.frozen? ⟨w12.heap.size, 0, none⟩ = false := hmf.1.free 0; have s1 : w5'.cell? ⟨w12.heap.size, 1, none⟩ = some (.int .i64 0) := hmf.1.cell 1; have t1 : w5'.frozen? ⟨w12.heap.size, 1, none⟩ = false := hmf.1.free 1; have s2 : w5'.cell? ⟨w12.heap.size, 2, none⟩ = some (.int .u32 0) := hmf.1.cell 2; have t2 : w5'.frozen? ⟨w12.heap.size, 2, none⟩ = false := hmf.1.free 2; have s3 : w5'.cell? ⟨w12.heap.size, 3, none⟩ = some (.int .u32 0) := hmf.1.cell 3; have t3 : w5'.frozen? ⟨w12.heap.size, 3, none⟩ = false := hmf.1.free 3; have s4 : w5'.cell? ⟨w12.heap.size, 4, none⟩ = some (.slice none 0 0) := hmf.1.cell 4; have t4 : w5'.frozen? ⟨w12.heap.size, 4, none⟩ = false := hmf.1.free 4; have HMf := Lib.hid hmf; clear hm5 hb5 hmf)
                  | (go_simp; go_at_call 88; refine (HTw.out _ (by repeat (first | exact bel_refl _ | assumption | apply bel_alloc | apply bel_drew))).mono ?_; rintro e w5' ⟨v5, T5, rfl, hm5, hb5⟩; obtain ⟨a5, c5, hv5, -⟩ := hm5.rd.open; subst hv5; have hx5 : Below w12.heap.size w12 w5' := bel_trans (by repeat (first | exact bel_refl _ | assumption | apply bel_alloc | apply bel_drew)) hm5.bel; have hgl5 : g < w5'.heap.size := Nat.lt_of_lt_of_le hgl hx5.size; have hg6l5 : g6 < w5'.heap.size := Nat.lt_of_lt_of_le hg6l2 hx5.size; have HPl : Hid (T5.map Wr.pl = ws) := Lib.hid ((pl_bares.1 hb5).trans HM.out.pl); have HRd := Lib.hid (wrs_rdb (F := fun y => F y ∨ y = g + 1) hm5 (fun x hx => HFl2.out x hx)); clear hm5 hb5))
              all_goals go_wp2_with fail
              all_goals go_meet
              · refine ⟨_, _, rfl, Lib.hid ⟨Blk.new _ _ _, hx5.size, bel_alloc hx5, ?_⟩⟩
                have := HRd.out
                rw [HPl.out] at this
                exact this.keep (Turn.of (F := fun y => F y ∨ y = g + 1) (below_alloc w5' _)) (fun _ h => .inl h)
              · refine ⟨_, _, rfl, Lib.hid ⟨set5d HMf.out.1 _ _ _ _ _, Nat.le_refl _, (bel_set (bel_set (bel_set (bel_set (bel_set hx5 (Nat.le_refl _)) (Nat.le_refl _)) (Nat.le_refl _)) (Nat.le_refl _)) (Nat.le_refl _)), ?_⟩⟩
                have := HMf.out.2
                rw [HPl.out] at this
                exact this.keep ((((((Turn.refl (fun x => (F x ∨ x = g + 1) ∨ x = w12.heap.size) w5').set (a := ⟨w12.heap.size, 0, none⟩) (.inr rfl) _).set (a := ⟨w12.heap.size, 1, none⟩) (.inr rfl) _).set (a := ⟨w12.heap.size, 2, none⟩) (.inr rfl) _).set (a := ⟨w12.heap.size, 3, none⟩) (.inr rfl) _).set (a := ⟨w12.heap.size, 4, none⟩) (.inr rfl) _) (fun _ h => .inl (.inl h))
            case rest =>
              obtain ⟨v5, b, rfl, HQ⟩ := hcut
              obtain ⟨wd, rfl⟩ : ∃ wd, wd = wc := ⟨_, rfl⟩
              obtain ⟨a5, c5, hv5⟩ := HQ.out.2.2.2.open
              subst hv5
              have HQb' := Lib.hid HQ.out.1
              have HQw := Lib.hid HQ.out.2.2.1
              have HQr := Lib.hid HQ.out.2.2.2
              have hbl5 : w12.heap.size ≤ b := HQ.out.2.1
              have HBd : Hid (Below w.heap.size w wd) := Lib.hid (bel_trans (HBr.out _ HB12.out) HQw.out)
              have HB1d : Hid (Below w1.heap.size w1 wd) := Lib.hid (bel_trans HB12.out HQw.out)
              have hcw : c < w.heap.size := H.out.blk.lt
              have hdmw : p.dm < w.heap.size := H.out.lt _ H.out.Fd
              have hbc : b ≠ c := by omega
              have hbd : b ≠ p.dm := by omega
              have hgd' : g ≠ p.dm := by omega
              have hgd1 : g + 1 ≠ p.dm := by omega
              have hgc : g + 1 ≠ c := by omega
              have hgd : g + 1 < wd.heap.size := by have := HQw.out.size; omega
              have HCd := Lib.hid (H.out.next HBd.out)
              have HCdd := Lib.hid (H.out.next (bel_drew HBd.out))
              have HXd := Lib.hid (HX.out.next HB1d.out)
              have HYd := Lib.hid (HY.out.next HB1d.out)
              have hxs : ∃ w14, (Instr.mapUpdate 136 (.map (some p.dm)) (.int .u32 dd) (dval ⟨dd, 1, ⟨aw, at1, dd⟩, ws⟩ (.slice a5 ws.length c5))).run Tryz.prog wd.drew = .ok () w14 ∧ MapIs Tryz.prog 24 w14 p.dm (upd p.fd (litD dd) (dval ⟨dd, 1, ⟨aw, at1, dd⟩, ws⟩ (.slice a5 ws.length c5))) (if (p.fd (litD dd)).isSome then C.deeds.length else C.deeds.length + 1) ∧ wd.drew.grownBy w14 (some p.dm) := by
                obtain ⟨w14, hr14, hm14, hg14⟩ := HCdd.out.deeds.map.put key24 Tryz.underlying136 (by have := HFu.out; simp only [maxLen]; omega) (dval ⟨dd, 1, ⟨aw, at1, dd⟩, ws⟩ (.slice a5 ws.length c5)) (keyOf24 hddr) trivial
                exact ⟨w14, hr14, hm14, hg14⟩
              obtain ⟨w14, hr14, hm14, hg14⟩ := hxs
              have HM14 := Lib.hid hm14
              have HG14 := Lib.hid hg14
              have HC14 := Lib.hid ((HCdd.out.blk).grown hg14 (fun e => H.out.cd (by injection e with e; exact e.symm)))
              have HQ14 := Lib.hid ((HQb'.out.next (bel_drew (bel_refl wd))).grown hg14 (fun e => hbd (by injection e with e; exact e.symm)))
              have HX14 := Lib.hid ((HXd.out.next (bel_drew (bel_refl wd))).grown hg14 (fun e => hgd' (by injection e with e; exact e.symm)))
              have HY14 := Lib.hid ((HYd.out.next (bel_drew (bel_refl wd))).grown hg14 (fun e => hgd1 (by injection e with e; exact e.symm)))
              clear hm14 hg14
              unfold dval at hr14
              simp only at hr14
              have c2 : wd.cell? ⟨c, 2, none⟩ = some (.map (some p.dm)) := HCd.out.blk.cell 2
              have x1 : wd.cell? ⟨g, 1, none⟩ = some (.int .u32 dd) := HXd.out.cell 1
              have k0 : wd.cell? ⟨b, 0, none⟩ = some (.int .i64 1) := HQb'.out.cell 0
              have k1 : wd.cell? ⟨b, 1, none⟩ = some (.int .i64 aw) := HQb'.out.cell 1
              have k2 : wd.cell? ⟨b, 2, none⟩ = some (.int .u32 at1) := HQb'.out.cell 2
              have k3 : wd.cell? ⟨b, 3, none⟩ = some (.int .u32 dd) := HQb'.out.cell 3
              have k4 : wd.cell? ⟨b, 4, none⟩ = some (.slice a5 ws.length c5) := HQb'.out.cell 4
              have HLe : Hid (ws.length ≤ 64) := Lib.hid (by have := HFu.out; have := HLw.out; omega)
              have Hi := Lib.hid hi
              clear HQ hi q0 q1 q2 q3 HKs HTw HFl2 hn1 hn2 hgl hg6l2 e2
              go_wp2_with fail
              go_region
              clear c2 x1 k0 k1 k2 k3 k4 hr14
              have c3 : w14.cell? ⟨c, 3, none⟩ = some (.int .i64 (heldD C.deeds : Int)) := HC14.out.cell 3
              have fc3 : w14.frozen? ⟨c, 3, none⟩ = false := HC14.out.free 3
              have k4 : w14.cell? ⟨b, 4, none⟩ = some (.slice a5 ws.length c5) := HQ14.out.cell 4
              have hn3 : IntKind.i64.wrap ((heldD C.deeds : Int) + (ws.length : Int)) = (heldD C.deeds : Int) + (ws.length : Int) := by have := HFu.out; have := HLe.out; rw [IntKind.wrap_i64]; omega
              go_wp2_with fail
              go_region
              have hgcc : g ≠ c := by omega
              have HQ15 : Hid (Blk (w14.setCell ⟨c, 3, none⟩ (.int .i64 ((heldD C.deeds : Int) + (ws.length : Int)))).drew b #[.int .i64 1, .int .i64 aw, .int .u32 at1, .int .u32 dd, .slice a5 ws.length c5] 181) := Lib.hid ((HQ14.out.other hbc _).next (bel_drew (bel_refl _)))
              have HX15 : Hid (Blk (w14.setCell ⟨c, 3, none⟩ (.int .i64 ((heldD C.deeds : Int) + (ws.length : Int)))).drew g #[.int .i64 kd, .int .u32 dd, .int .i64 aw, .int .u32 at1, .int .u32 am, .bool ys, .string tk, .int .i64 nn, .int .i64 id, .slice va T.length vc] 50) := Lib.hid ((HX14.out.other hgcc _).next (bel_drew (bel_refl _)))
              have HY15 : Hid (Blk (w14.setCell ⟨c, 3, none⟩ (.int .i64 ((heldD C.deeds : Int) + (ws.length : Int)))).drew (g + 1) #[.int .i64 0, .int .u32 0, .int .i64 0, .int .i64 0, .int .u32 0, .int .u32 0] 46) := Lib.hid ((HY14.out.other hgc _).next (bel_drew (bel_refl _)))
              clear c3 fc3 k4 hn3
              generalize hw15 : (w14.setCell ⟨c, 3, none⟩ (.int .i64 ((heldD C.deeds : Int) + (ws.length : Int)))).drew = w15 at HQ15 HX15 HY15 ⊢
              have Hw15 := Lib.hid hw15
              clear hw15
              have HTl := Lib.hid (fun W => dtold_any ⟨dd, 1, ⟨aw, at1, dd⟩, ws⟩ a5 ws.length c5 W)
              unfold replyV replyA dval Dd.told at HTl
              simp only at HTl
              have HE := Lib.hid (prep_new (m := ⟨kd, dd, ⟨aw, at1, am⟩, ys, tk, nn, id, ws⟩) HNf.out HOk.out HFl.out HSt.out)
              have x1 : w15.cell? ⟨g, 1, none⟩ = some (.int .u32 dd) := HX15.out.cell 1
              have k0 : w15.cell? ⟨b, 0, none⟩ = some (.int .i64 1) := HQ15.out.cell 0
              have k1 : w15.cell? ⟨b, 1, none⟩ = some (.int .i64 aw) := HQ15.out.cell 1
              have k2 : w15.cell? ⟨b, 2, none⟩ = some (.int .u32 at1) := HQ15.out.cell 2
              have k3 : w15.cell? ⟨b, 3, none⟩ = some (.int .u32 dd) := HQ15.out.cell 3
              have k4 : w15.cell? ⟨b, 4, none⟩ = some (.slice a5 ws.length c5) := HQ15.out.cell 4
              have HYf15 : Hid (∀ W, Below w15.heap.size w15 W → W.cell? ⟨g + 1, 0, none⟩ = some (.int .i64 0) ∧ W.frozen? ⟨g + 1, 0, none⟩ = false ∧ W.cell? ⟨g + 1, 1, none⟩ = some (.int .u32 0) ∧ W.frozen? ⟨g + 1, 1, none⟩ = false ∧ W.cell? ⟨g + 1, 2, none⟩ = some (.int .i64 0) ∧ W.frozen? ⟨g + 1, 2, none⟩ = false ∧ W.cell? ⟨g + 1, 3, none⟩ = some (.int .i64 0) ∧ W.frozen? ⟨g + 1, 3, none⟩ = false ∧ W.cell? ⟨g + 1, 4, none⟩ = some (.int .u32 0) ∧ W.frozen? ⟨g + 1, 4, none⟩ = false ∧ W.cell? ⟨g + 1, 5, none⟩ = some (.int .u32 0) ∧ W.frozen? ⟨g + 1, 5, none⟩ = false) := Lib.hid (fun W hW => ⟨(HY15.out.next hW).cell 0, (HY15.out.next hW).free 0, (HY15.out.next hW).cell 1, (HY15.out.next hW).free 1, (HY15.out.next hW).cell 2, (HY15.out.next hW).free 2, (HY15.out.next hW).cell 3, (HY15.out.next hW).free 3, (HY15.out.next hW).cell 4, (HY15.out.next hW).free 4, (HY15.out.next hW).cell 5, (HY15.out.next hW).free 5⟩)
              go_wp2_with (first
                | (go_at_call 89; refine (HTl.out _).mono ?_; rintro e w16 ⟨rfl, hb16⟩; have HB16 := Lib.hid hb16; clear hb16; obtain ⟨y0, f0, y1, f1, y2, f2, y3, f3, y4, f4, y5, f5⟩ := HYf15.out w16 HB16.out)
                | fail)
              have hY := set6 (HY15.out.next HB16.out) (.int .i64 0) (.int .u32 dd) (.int .i64 1) (.int .i64 aw) (.int .u32 at1) (.int .u32 dd)
              have z0 : ((((((w16.setCell ⟨g + 1, 0, none⟩ (.int .i64 0)).setCell ⟨g + 1, 1, none⟩ (.int .u32 dd)).setCell ⟨g + 1, 2, none⟩ (.int .i64 1)).setCell ⟨g + 1, 3, none⟩ (.int .i64 aw)).setCell ⟨g + 1, 4, none⟩ (.int .u32 at1)).setCell ⟨g + 1, 5, none⟩ (.int .u32 dd)).cell? ⟨g + 1, 0, none⟩ = some (.int .i64 0) := hY.cell 0
              have z1 : ((((((w16.setCell ⟨g + 1, 0, none⟩ (.int .i64 0)).setCell ⟨g + 1, 1, none⟩ (.int .u32 dd)).setCell ⟨g + 1, 2, none⟩ (.int .i64 1)).setCell ⟨g + 1, 3, none⟩ (.int .i64 aw)).setCell ⟨g + 1, 4, none⟩ (.int .u32 at1)).setCell ⟨g + 1, 5, none⟩ (.int .u32 dd)).cell? ⟨g + 1, 1, none⟩ = some (.int .u32 dd) := hY.cell 1
              have z2 : ((((((w16.setCell ⟨g + 1, 0, none⟩ (.int .i64 0)).setCell ⟨g + 1, 1, none⟩ (.int .u32 dd)).setCell ⟨g + 1, 2, none⟩ (.int .i64 1)).setCell ⟨g + 1, 3, none⟩ (.int .i64 aw)).setCell ⟨g + 1, 4, none⟩ (.int .u32 at1)).setCell ⟨g + 1, 5, none⟩ (.int .u32 dd)).cell? ⟨g + 1, 2, none⟩ = some (.int .i64 1) := hY.cell 2
              have z3 : ((((((w16.setCell ⟨g + 1, 0, none⟩ (.int .i64 0)).setCell ⟨g + 1, 1, none⟩ (.int .u32 dd)).setCell ⟨g + 1, 2, none⟩ (.int .i64 1)).setCell ⟨g + 1, 3, none⟩ (.int .i64 aw)).setCell ⟨g + 1, 4, none⟩ (.int .u32 at1)).setCell ⟨g + 1, 5, none⟩ (.int .u32 dd)).cell? ⟨g + 1, 3, none⟩ = some (.int .i64 aw) := hY.cell 3
              have z4 : ((((((w16.setCell ⟨g + 1, 0, none⟩ (.int .i64 0)).setCell ⟨g + 1, 1, none⟩ (.int .u32 dd)).setCell ⟨g + 1, 2, none⟩ (.int .i64 1)).setCell ⟨g + 1, 3, none⟩ (.int .i64 aw)).setCell ⟨g + 1, 4, none⟩ (.int .u32 at1)).setCell ⟨g + 1, 5, none⟩ (.int .u32 dd)).cell? ⟨g + 1, 4, none⟩ = some (.int .u32 at1) := hY.cell 4
              have z5 : ((((((w16.setCell ⟨g + 1, 0, none⟩ (.int .i64 0)).setCell ⟨g + 1, 1, none⟩ (.int .u32 dd)).setCell ⟨g + 1, 2, none⟩ (.int .i64 1)).setCell ⟨g + 1, 3, none⟩ (.int .i64 aw)).setCell ⟨g + 1, 4, none⟩ (.int .u32 at1)).setCell ⟨g + 1, 5, none⟩ (.int .u32 dd)).cell? ⟨g + 1, 5, none⟩ = some (.int .u32 dd) := hY.cell 5
              refine bodyPost_ret (v := .agg #[.int .i64 0, .int .u32 dd, .int .i64 1, .int .i64 aw, .int .u32 at1, .int .u32 dd]) (by simp [results, Tryz.results53, go_sem, z0, z1, z2, z3, z4, z5]) rfl ?_
              exact prep_end (d := ⟨dd, 1, ⟨aw, at1, dd⟩, ws⟩) H.out (Nat.le_of_eq hg) HBd.out HNf.out HQr.out hgd HM14.out rfl HG14.out rfl (by have := HB16.out; rw [← Hw15.out] at this; exact bel_trans (bel_drew (bel_refl _)) this) (by rw [HE.out]; rfl) (by rw [HE.out]) Hi.out

        · have HE : Hid (prepareC C ⟨kd, dd, ⟨aw, at1, am⟩, ys, tk, nn, id, ws⟩ = (bad 1, C)) := Lib.hid (prep_arg (m := ⟨kd, dd, ⟨aw, at1, am⟩, ys, tk, nn, id, ws⟩) HNf.out (.inr (.inr hr)))
          clear hi
          have hd : decide (tmR ⟨aw, at1, am⟩) = false := by simpa using hr
          rw [hd] at HR
          clear hd hr
          go_upto_region 5 with (first
            | (go_at_call 27; refine (HBa.out _ (HBr.out _ HBc.out)).mono ?_; rintro e w3 ⟨hs3, hb3⟩; obtain ⟨z, rfl, hz⟩ := says_out hs3; obtain rfl : z = true := hz.2 (HBt.out.2 hba); have HB3 := Lib.hid (bel_trans HBc.out hb3); clear hs3 hz hb3; have X2 : w3.cell? ⟨g, 2, none⟩ = some (.int .i64 aw) := (HX.out.next HB3.out).cell 2; have X3 : w3.cell? ⟨g, 3, none⟩ = some (.int .u32 at1) := (HX.out.next HB3.out).cell 3; have X4 : w3.cell? ⟨g, 4, none⟩ = some (.int .u32 am) := (HX.out.next HB3.out).cell 4)
            | (go_at_call 73; refine (HR.out _).mono ?_; rintro e w4 ⟨rfl, hb4⟩; have HB4 := Lib.hid (bel_trans HB3.out hb4); clear hb4)
            | fail)
          clear x1 x9 X2 X3 X4
          have y0 : w4.cell? ⟨g + 1, 0, none⟩ = some (.int .i64 0) := (HY.out.next HB4.out).cell 0
          have f0 : w4.frozen? ⟨g + 1, 0, none⟩ = false := (HY.out.next HB4.out).free 0
          have y1 : w4.cell? ⟨g + 1, 1, none⟩ = some (.int .u32 0) := (HY.out.next HB4.out).cell 1
          have f1 : w4.frozen? ⟨g + 1, 1, none⟩ = false := (HY.out.next HB4.out).free 1
          have y2 : w4.cell? ⟨g + 1, 2, none⟩ = some (.int .i64 0) := (HY.out.next HB4.out).cell 2
          have f2 : w4.frozen? ⟨g + 1, 2, none⟩ = false := (HY.out.next HB4.out).free 2
          have y3 : w4.cell? ⟨g + 1, 3, none⟩ = some (.int .i64 0) := (HY.out.next HB4.out).cell 3
          have f3 : w4.frozen? ⟨g + 1, 3, none⟩ = false := (HY.out.next HB4.out).free 3
          have y4 : w4.cell? ⟨g + 1, 4, none⟩ = some (.int .u32 0) := (HY.out.next HB4.out).cell 4
          have f4 : w4.frozen? ⟨g + 1, 4, none⟩ = false := (HY.out.next HB4.out).free 4
          have y5 : w4.cell? ⟨g + 1, 5, none⟩ = some (.int .u32 0) := (HY.out.next HB4.out).cell 5
          have f5 : w4.frozen? ⟨g + 1, 5, none⟩ = false := (HY.out.next HB4.out).free 5
          go_wp2_with fail
          have hY := set6 (HY.out.next HB4.out) (.int .i64 1) (.int .u32 0) (.int .i64 0) (.int .i64 0) (.int .u32 0) (.int .u32 0)
          have z0 : ((((((w4.setCell ⟨g + 1, 0, none⟩ (.int .i64 1)).setCell ⟨g + 1, 1, none⟩ (.int .u32 0)).setCell ⟨g + 1, 2, none⟩ (.int .i64 0)).setCell ⟨g + 1, 3, none⟩ (.int .i64 0)).setCell ⟨g + 1, 4, none⟩ (.int .u32 0)).setCell ⟨g + 1, 5, none⟩ (.int .u32 0)).cell? ⟨g + 1, 0, none⟩ = some (.int .i64 1) := hY.cell 0
          have z1 : ((((((w4.setCell ⟨g + 1, 0, none⟩ (.int .i64 1)).setCell ⟨g + 1, 1, none⟩ (.int .u32 0)).setCell ⟨g + 1, 2, none⟩ (.int .i64 0)).setCell ⟨g + 1, 3, none⟩ (.int .i64 0)).setCell ⟨g + 1, 4, none⟩ (.int .u32 0)).setCell ⟨g + 1, 5, none⟩ (.int .u32 0)).cell? ⟨g + 1, 1, none⟩ = some (.int .u32 0) := hY.cell 1
          have z2 : ((((((w4.setCell ⟨g + 1, 0, none⟩ (.int .i64 1)).setCell ⟨g + 1, 1, none⟩ (.int .u32 0)).setCell ⟨g + 1, 2, none⟩ (.int .i64 0)).setCell ⟨g + 1, 3, none⟩ (.int .i64 0)).setCell ⟨g + 1, 4, none⟩ (.int .u32 0)).setCell ⟨g + 1, 5, none⟩ (.int .u32 0)).cell? ⟨g + 1, 2, none⟩ = some (.int .i64 0) := hY.cell 2
          have z3 : ((((((w4.setCell ⟨g + 1, 0, none⟩ (.int .i64 1)).setCell ⟨g + 1, 1, none⟩ (.int .u32 0)).setCell ⟨g + 1, 2, none⟩ (.int .i64 0)).setCell ⟨g + 1, 3, none⟩ (.int .i64 0)).setCell ⟨g + 1, 4, none⟩ (.int .u32 0)).setCell ⟨g + 1, 5, none⟩ (.int .u32 0)).cell? ⟨g + 1, 3, none⟩ = some (.int .i64 0) := hY.cell 3
          have z4 : ((((((w4.setCell ⟨g + 1, 0, none⟩ (.int .i64 1)).setCell ⟨g + 1, 1, none⟩ (.int .u32 0)).setCell ⟨g + 1, 2, none⟩ (.int .i64 0)).setCell ⟨g + 1, 3, none⟩ (.int .i64 0)).setCell ⟨g + 1, 4, none⟩ (.int .u32 0)).setCell ⟨g + 1, 5, none⟩ (.int .u32 0)).cell? ⟨g + 1, 4, none⟩ = some (.int .u32 0) := hY.cell 4
          have z5 : ((((((w4.setCell ⟨g + 1, 0, none⟩ (.int .i64 1)).setCell ⟨g + 1, 1, none⟩ (.int .u32 0)).setCell ⟨g + 1, 2, none⟩ (.int .i64 0)).setCell ⟨g + 1, 3, none⟩ (.int .i64 0)).setCell ⟨g + 1, 4, none⟩ (.int .u32 0)).setCell ⟨g + 1, 5, none⟩ (.int .u32 0)).cell? ⟨g + 1, 5, none⟩ = some (.int .u32 0) := hY.cell 5
          refine bodyPost_ret (v := .agg #[.int .i64 1, .int .u32 0, .int .i64 0, .int .i64 0, .int .u32 0, .int .u32 0]) (by simp [results, Tryz.results53, go_sem, z0, z1, z2, z3, z4, z5]) rfl ?_
          exact post_same H.out (by rw [HE.out]; rfl) (by rw [HE.out]) (bel6 hg (HBr.out _ HB4.out))
      · have HE : Hid (prepareC C ⟨kd, dd, ⟨aw, at1, am⟩, ys, tk, nn, id, ws⟩ = (bad 1, C)) := Lib.hid (prep_arg (m := ⟨kd, dd, ⟨aw, at1, am⟩, ys, tk, nn, id, ws⟩) HNf.out (.inr (.inl hba)))
        clear hi
        go_upto_region 5 with (first
          | (go_at_call 27; refine (HBa.out _ (HBr.out _ HBc.out)).mono ?_; rintro e w3 ⟨hs3, hb3⟩; obtain ⟨z, rfl, hz⟩ := says_out hs3; have hzf : z = false := (by cases z with | false => rfl | true => exact absurd (HBt.out.1 (hz.1 rfl)) hba); subst hzf; have HB3 := Lib.hid (bel_trans HBc.out hb3); clear hs3 hz hb3; have X2 : w3.cell? ⟨g, 2, none⟩ = some (.int .i64 aw) := (HX.out.next HB3.out).cell 2; have X3 : w3.cell? ⟨g, 3, none⟩ = some (.int .u32 at1) := (HX.out.next HB3.out).cell 3; have X4 : w3.cell? ⟨g, 4, none⟩ = some (.int .u32 am) := (HX.out.next HB3.out).cell 4)
          | fail)
        clear x1 x9 X2 X3 X4
        have y0 : w3.cell? ⟨g + 1, 0, none⟩ = some (.int .i64 0) := (HY.out.next HB3.out).cell 0
        have f0 : w3.frozen? ⟨g + 1, 0, none⟩ = false := (HY.out.next HB3.out).free 0
        have y1 : w3.cell? ⟨g + 1, 1, none⟩ = some (.int .u32 0) := (HY.out.next HB3.out).cell 1
        have f1 : w3.frozen? ⟨g + 1, 1, none⟩ = false := (HY.out.next HB3.out).free 1
        have y2 : w3.cell? ⟨g + 1, 2, none⟩ = some (.int .i64 0) := (HY.out.next HB3.out).cell 2
        have f2 : w3.frozen? ⟨g + 1, 2, none⟩ = false := (HY.out.next HB3.out).free 2
        have y3 : w3.cell? ⟨g + 1, 3, none⟩ = some (.int .i64 0) := (HY.out.next HB3.out).cell 3
        have f3 : w3.frozen? ⟨g + 1, 3, none⟩ = false := (HY.out.next HB3.out).free 3
        have y4 : w3.cell? ⟨g + 1, 4, none⟩ = some (.int .u32 0) := (HY.out.next HB3.out).cell 4
        have f4 : w3.frozen? ⟨g + 1, 4, none⟩ = false := (HY.out.next HB3.out).free 4
        have y5 : w3.cell? ⟨g + 1, 5, none⟩ = some (.int .u32 0) := (HY.out.next HB3.out).cell 5
        have f5 : w3.frozen? ⟨g + 1, 5, none⟩ = false := (HY.out.next HB3.out).free 5
        go_wp2_with fail
        have hY := set6 (HY.out.next HB3.out) (.int .i64 1) (.int .u32 0) (.int .i64 0) (.int .i64 0) (.int .u32 0) (.int .u32 0)
        have z0 : ((((((w3.setCell ⟨g + 1, 0, none⟩ (.int .i64 1)).setCell ⟨g + 1, 1, none⟩ (.int .u32 0)).setCell ⟨g + 1, 2, none⟩ (.int .i64 0)).setCell ⟨g + 1, 3, none⟩ (.int .i64 0)).setCell ⟨g + 1, 4, none⟩ (.int .u32 0)).setCell ⟨g + 1, 5, none⟩ (.int .u32 0)).cell? ⟨g + 1, 0, none⟩ = some (.int .i64 1) := hY.cell 0
        have z1 : ((((((w3.setCell ⟨g + 1, 0, none⟩ (.int .i64 1)).setCell ⟨g + 1, 1, none⟩ (.int .u32 0)).setCell ⟨g + 1, 2, none⟩ (.int .i64 0)).setCell ⟨g + 1, 3, none⟩ (.int .i64 0)).setCell ⟨g + 1, 4, none⟩ (.int .u32 0)).setCell ⟨g + 1, 5, none⟩ (.int .u32 0)).cell? ⟨g + 1, 1, none⟩ = some (.int .u32 0) := hY.cell 1
        have z2 : ((((((w3.setCell ⟨g + 1, 0, none⟩ (.int .i64 1)).setCell ⟨g + 1, 1, none⟩ (.int .u32 0)).setCell ⟨g + 1, 2, none⟩ (.int .i64 0)).setCell ⟨g + 1, 3, none⟩ (.int .i64 0)).setCell ⟨g + 1, 4, none⟩ (.int .u32 0)).setCell ⟨g + 1, 5, none⟩ (.int .u32 0)).cell? ⟨g + 1, 2, none⟩ = some (.int .i64 0) := hY.cell 2
        have z3 : ((((((w3.setCell ⟨g + 1, 0, none⟩ (.int .i64 1)).setCell ⟨g + 1, 1, none⟩ (.int .u32 0)).setCell ⟨g + 1, 2, none⟩ (.int .i64 0)).setCell ⟨g + 1, 3, none⟩ (.int .i64 0)).setCell ⟨g + 1, 4, none⟩ (.int .u32 0)).setCell ⟨g + 1, 5, none⟩ (.int .u32 0)).cell? ⟨g + 1, 3, none⟩ = some (.int .i64 0) := hY.cell 3
        have z4 : ((((((w3.setCell ⟨g + 1, 0, none⟩ (.int .i64 1)).setCell ⟨g + 1, 1, none⟩ (.int .u32 0)).setCell ⟨g + 1, 2, none⟩ (.int .i64 0)).setCell ⟨g + 1, 3, none⟩ (.int .i64 0)).setCell ⟨g + 1, 4, none⟩ (.int .u32 0)).setCell ⟨g + 1, 5, none⟩ (.int .u32 0)).cell? ⟨g + 1, 4, none⟩ = some (.int .u32 0) := hY.cell 4
        have z5 : ((((((w3.setCell ⟨g + 1, 0, none⟩ (.int .i64 1)).setCell ⟨g + 1, 1, none⟩ (.int .u32 0)).setCell ⟨g + 1, 2, none⟩ (.int .i64 0)).setCell ⟨g + 1, 3, none⟩ (.int .i64 0)).setCell ⟨g + 1, 4, none⟩ (.int .u32 0)).setCell ⟨g + 1, 5, none⟩ (.int .u32 0)).cell? ⟨g + 1, 5, none⟩ = some (.int .u32 0) := hY.cell 5
        refine bodyPost_ret (v := .agg #[.int .i64 1, .int .u32 0, .int .i64 0, .int .i64 0, .int .u32 0, .int .u32 0]) (by simp [results, Tryz.results53, go_sem, z0, z1, z2, z3, z4, z5]) rfl ?_
        exact post_same H.out (by rw [HE.out]; rfl) (by rw [HE.out]) (bel6 hg (HBr.out _ HB3.out))
end Go.Proofs.YtbaflgddpciadaaGreat
