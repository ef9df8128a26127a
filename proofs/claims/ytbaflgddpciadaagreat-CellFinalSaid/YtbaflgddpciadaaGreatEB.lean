/- pin (58). -/
import Derived.Test.YtbaflgddpciadaaGreatEA
set_option linter.unusedVariables false
set_option linter.unusedSimpArgs false
namespace Go.Proofs.YtbaflgddpciadaaGreat
open Go.RowKit Go.Kt Go.Ix Go.Sx Go.Cx
set_option maxRecDepth 100000
variable {F : Nat → Prop} {w w' : World} {c N : Nat} {C : Cl} {p : Cp}
theorem keyOf3 {n : Int} (h : -9223372036854775808 ≤ n ∧ n ≤ 9223372036854775807) : keyOf Tryz.prog 3 (.int .i64 n) = some (litP n) := Maps.keyOf_int_mk Tryz.underlying3 (wf64 h)
theorem zero149 (w : World) : (zeroValue 149).run Tryz.prog w = .ok (.agg #[.int .i64 0, .int .u32 0, .int .u32 0, .int .i64 0]) w := by kernel_rfl
/-- a pin that is looked for -/
def Found (C : Cl) (n : Int) (ok : Bool) (q : Pi) : Prop := (ok = true ∧ q ∈ C.pins ∧ q.id = n) ∨ (ok = false ∧ (∀ x ∈ C.pins, x.id ≠ n) ∧ q = ⟨n, t0, 0⟩)
theorem found_of (C : Cl) (n : Int) : ∃ ok q, Found C n ok q := by
  cases h : C.pins.find? (fun x => decide (x.id = n)) with
  | none => exact ⟨false, _, .inr ⟨rfl, fun x hx => by simpa using List.find?_eq_none.1 h x hx, rfl⟩⟩
  | some q => exact ⟨true, q, .inl ⟨rfl, List.mem_of_find?_eq_some h, by simpa using List.find?_some h⟩⟩
theorem PinsAt.lookup {w : World} {pm : Nat} {P : List Pi} {f : Lit → Option Value} (h : PinsAt w pm P f) {C : Cl} (hC : C.pins = P) {n : Int} (hn : -9223372036854775808 ≤ n ∧ n ≤ 9223372036854775807) {ok : Bool} {q : Pi} (hf : Found C n ok q) :
    (Instr.lookup 137 (.map (some pm)) (.int .i64 n) true).run Tryz.prog w = .ok (.tuple #[pval q, .bool ok]) w ∧ f (litP n) = if ok = true then some (pval q) else none := by
  subst hC
  have hl := h.map.look key3 Tryz.underlying137 (zero149 w) (keyOf3 hn)
  rcases hf with ⟨rfl, h1, h2⟩ | ⟨rfl, h1, rfl⟩
  · have h3 := h.has q h1
    rw [h2] at h3
    rw [hl, h3]
    exact ⟨rfl, rfl⟩
  · have h3 : f (litP n) = none := by
      cases hv : f (litP n) with
      | none => rfl
      | some v =>
        obtain ⟨x, hx, e, -⟩ := h.all _ _ hv
        unfold litP at e
        injection e with e1 e2
        exact absurd e2.symm (h1 x hx)
    rw [hl, h3]
    exact ⟨rfl, rfl⟩
theorem found_lasts {C : Cl} (h : CInv C) {m : Cmd} {ok : Bool} {q : Pi} (hf : Found C m.id ok q) : lasts C m = max q.until_ (C.ticks + m.n) := by
  unfold lasts
  rcases hf with ⟨rfl, h1, h2⟩ | ⟨rfl, h1, rfl⟩
  · cases hv : C.pins.find? (fun x => decide (x.id = m.id)) with
    | none => exact absurd h2 (by simpa using List.find?_eq_none.1 hv q h1)
    | some r =>
      have := pin_inj h (List.mem_of_find?_eq_some hv) h1 (by rw [h2]; simpa using List.find?_some hv)
      rw [this]
  · have hv : C.pins.find? (fun x => decide (x.id = m.id)) = none := List.find?_eq_none.2 (fun x hx => by simpa using h1 x hx)
    rw [hv]
theorem found_any {C : Cl} (h : CInv C) {m : Cmd} {ok : Bool} {q : Pi} (hf : Found C m.id ok q) : (C.pins.any fun p => decide (p.id = m.id ∧ p.at_ ≠ m.at_)) = true ↔ (ok = true ∧ q.at_ ≠ m.at_) := by
  rw [List.any_eq_true]
  rcases hf with ⟨rfl, h1, h2⟩ | ⟨rfl, h1, rfl⟩
  · constructor
    · rintro ⟨x, hx, e⟩
      have e : x.id = m.id ∧ x.at_ ≠ m.at_ := by simpa using e
      rw [pin_inj h h1 hx (h2.trans e.1.symm)]
      exact ⟨rfl, e.2⟩
    · rintro ⟨-, e⟩
      exact ⟨q, h1, by simpa using ⟨h2, e⟩⟩
  · constructor
    · rintro ⟨x, hx, e⟩
      have e : x.id = m.id ∧ x.at_ ≠ m.at_ := by simpa using e
      exact absurd e.1 (h1 x hx)
    · rintro ⟨e, -⟩; cases e
/-- a pin laid in -/
theorem PinsAt.put {w w' : World} {pm n' : Nat} {f : Lit → Option Value} {C : Cl} (hi : CInv C) (h : PinsAt w pm C.pins f) {m : Cmd} {ok : Bool} {q : Pi} (hf : Found C m.id ok q) {r : Pi} (hr : r.id = m.id) (hm : MapIs Tryz.prog 3 w' pm (upd f (litP m.id) (pval r)) n')
    (hn : n' = if (f (litP m.id)).isSome then C.pins.length else C.pins.length + 1) (hl : f (litP m.id) = if ok = true then some (pval q) else none) : PinsAt w' pm ((C.pins.filter fun p => decide (p.id ≠ m.id)) ++ [r]) (upd f (litP m.id) (pval r)) := by
  have hinj : ∀ {a b : Int}, litP a = litP b → a = b := fun e => by unfold litP at e; injection e
  have hlen : ((C.pins.filter fun p => decide (p.id ≠ m.id)) ++ [r]).length = n' := by
    rw [hn, hl, List.length_append]
    rcases hf with ⟨rfl, h1, h2⟩ | ⟨rfl, h1, rfl⟩
    · have key : ∀ P : List Pi, P.Pairwise (fun a b => a.id ≠ b.id) → q ∈ P → (P.filter fun p => decide (p.id ≠ m.id)).length + 1 = P.length := by
        intro P
        induction P with
        | nil => intro _ hq; cases hq
        | cons x P ih =>
          intro hp hq
          obtain ⟨p1, p2⟩ := List.pairwise_cons.1 hp
          rcases List.mem_cons.1 hq with rfl | hq
          · have : (P.filter fun p => decide (p.id ≠ m.id)) = P := List.filter_eq_self.2 (fun y hy => by have := p1 y hy; rw [h2] at this; simpa using fun e => this e.symm)
            rw [List.filter_cons, if_neg (by simp [h2]), this]; rfl
          · have hne : x.id ≠ m.id := by rw [← h2]; exact p1 q hq
            rw [List.filter_cons, if_pos (by simpa using hne), List.length_cons, List.length_cons, ih p2 hq]
      have := key C.pins hi.pins h1
      simp only [if_true, Option.isSome_some, List.length_cons, List.length_nil] at this ⊢
      exact this
    · have : (C.pins.filter fun p => decide (p.id ≠ m.id)) = C.pins := List.filter_eq_self.2 (fun y hy => by simpa using h1 y hy)
      rw [this]; rfl
  refine ⟨by rw [hlen]; exact hm, fun k v hv => ?_, fun x hx => ?_⟩
  · unfold upd at hv
    split at hv
    · rename_i hk
      injection hv with hv
      exact ⟨r, by simp, by rw [hk, hr], hv.symm⟩
    · rename_i hk
      obtain ⟨x, hx, e, e2⟩ := h.all k v hv
      have hne : x.id ≠ m.id := fun he => hk (by rw [e, he])
      exact ⟨x, List.mem_append_left _ (List.mem_filter.2 ⟨hx, by simpa using hne⟩), e, e2⟩
  · unfold upd
    rcases List.mem_append.1 hx with hx | hx
    · obtain ⟨h1, h2⟩ := List.mem_filter.1 hx
      have h2 : x.id ≠ m.id := by simpa using h2
      rw [if_neg (fun e => h2 (hinj e))]
      exact h.has x h1
    · rw [List.mem_singleton.1 hx, hr, if_pos rfl]
/-- the map of pins was turned -/
theorem post_pins {fp' : Lit → Option Value} {z : Rep × Cl} {e : Ending} (h : CeAt F w c C N p) (he : e = .returned (replyV z.1)) (ht : Turn (fun x => x = p.pm) w w') (hP : PinsAt w' p.pm z.2.pins fp') (hc : ccells z.2 p = ccells C p) (hM : z.2.M = C.M) (hD : z.2.deeds = C.deeds) (hB : z.2.book = C.book) (hi : CInv z.2) : DoPost F w c p z N e w' := by
  refine ⟨he, F, { p with fp := fp' }, ⟨?_, ?_, h.sub, h.Fc, h.Fd, h.Fp, h.Fb, h.nc, h.nd, h.np, h.nb, h.dp, ?_, hP, ?_, by rw [hB]; exact h.told, hi, fun x hx => Nat.lt_of_lt_of_le (h.lt x hx) ht.size⟩, fun x hx => hx, fun x hx => .inl hx, fun x hx => .inl hx, ht.mono (fun x hx => .inr (.inr (.inl hx)))⟩
  · show Blk w' c (ccells z.2 p) 140
    rw [hc]
    exact blk_keep ht h.blk (fun e => h.cp e)
  · rw [hM]; exact h.st.keep ht (fun x hx e => h.np (e ▸ hx))
  · rw [hD]; exact h.deeds.keep ht (fun e => h.dp e) (fun x hx => hx ▸ h.Fp) (fun _ h => .inl h)
  · exact h.book.keep ht (fun b hb e => h.bp b hb e) (fun x hx => hx ▸ h.Fp) (fun _ h => .inl h)
set_option maxHeartbeats 8000000 in
theorem pinc_any (m : Cmd) (v : Value) (T : List Wr) (w : World) (h : CeAt F w c C N p) (hm : CmdR w m v T) (hi : CInv (pinC C m).2) (hidr : -9223372036854775808 ≤ m.id ∧ m.id ≤ 9223372036854775807)
    (hT : 0 ≤ C.ticks ∧ C.ticks ≤ 1000000) (hPl : C.pins.length ≤ 1000000) :
    Calls Tryz.prog 58 #[.pointer (some ⟨c, 0, none⟩), cmdV m v] w fun e w' => DoPost F w c p (pinC C m) N e w' := by
  obtain ⟨kd, dd, ⟨aw, at1, am⟩, ys, tk, nn, id, ws⟩ := m
  obtain ⟨va, vc, hve, -⟩ := hm.rd.open
  subst hve
  have H := Lib.hid h
  have HM := Lib.hid hm
  have HTk := Lib.hid hT
  have HPl := Lib.hid hPl
  clear hT hPl
  have HX := Lib.hid ((Blk.new w #[.int .i64 kd, .int .u32 dd, .int .i64 aw, .int .u32 at1, .int .u32 am, .bool ys, .string tk, .int .i64 nn, .int .i64 id, .slice va T.length vc] 50).next (below_alloc _ (.cells #[.int .i64 0, .int .u32 0, .int .i64 0, .int .i64 0, .int .u32 0, .int .u32 0] 46)))
  have HY := Lib.hid (Blk.new (w.alloc (.cells #[.int .i64 kd, .int .u32 dd, .int .i64 aw, .int .u32 at1, .int .u32 am, .bool ys, .string tk, .int .i64 nn, .int .i64 id, .slice va T.length vc] 50)) #[.int .i64 0, .int .u32 0, .int .i64 0, .int .i64 0, .int .u32 0, .int .u32 0] 46)
  have HB1 := Lib.hid (bel_alloc (o := .cells #[.int .i64 0, .int .u32 0, .int .i64 0, .int .i64 0, .int .u32 0, .int .u32 0] 46) (below_alloc w (.cells #[.int .i64 kd, .int .u32 dd, .int .i64 aw, .int .u32 at1, .int .u32 am, .bool ys, .string tk, .int .i64 nn, .int .i64 id, .slice va T.length vc] 50)))
  rw [World.size_alloc] at HY
  unfold cmdV
  simp only
  clear h hm
  go_enter Tryz.func58, Tryz.ntmps58
  go_upto_region 1 with fail
  generalize (w.alloc (.cells #[.int .i64 kd, .int .u32 dd, .int .i64 aw, .int .u32 at1, .int .u32 am, .bool ys, .string tk, .int .i64 nn, .int .i64 id, .slice va T.length vc] 50)).alloc (.cells #[.int .i64 0, .int .u32 0, .int .i64 0, .int .i64 0, .int .u32 0, .int .u32 0] 46) = w1 at HX HY HB1 ⊢
  have HBr : Hid (∀ W, Below w1.heap.size w1 W → Below w.heap.size w W) := Lib.hid (fun W hW => bel_trans HB1.out hW)
  have HG : Hid (w.heap.size < w1.heap.size) := Lib.hid HX.out.lt
  generalize hg : w.heap.size = g at HX HY ⊢
  have H1 := Lib.hid (H.out.next (HBr.out _ (bel_refl w1)))
  simp only at hidr
  obtain ⟨ok, q, hf⟩ := found_of C id
  have HF := Lib.hid hf
  have hlk := (H1.out.pins.lookup rfl hidr hf).1
  have HL := Lib.hid (H1.out.pins.lookup rfl hidr hf).2
  obtain ⟨qi, ⟨qw, qt, qm⟩, qu⟩ := q
  unfold pval at hlk
  simp only at hlk
  have hlkd : (Instr.lookup 137 (.map (some p.pm)) (.int .i64 id) true).run Tryz.prog ((w1.alloc (.cells #[.int .i64 0, .int .u32 0, .int .u32 0, .int .i64 0] 149)).drew) = .ok (.tuple #[.agg #[.int .i64 qw, .int .u32 qt, .int .u32 qm, .int .i64 qu], .bool ok]) ((w1.alloc (.cells #[.int .i64 0, .int .u32 0, .int .u32 0, .int .i64 0] 149)).drew) := by
    have := ((H1.out.next (bel_drew (below_alloc w1 (.cells #[.int .i64 0, .int .u32 0, .int .u32 0, .int .i64 0] 149)))).pins.lookup rfl hidr hf).1
    exact this
  have hlkd2 : (Instr.lookup 137 (.map (some p.pm)) (.int .i64 id) true).run Tryz.prog w1.drew = .ok (.tuple #[.agg #[.int .i64 qw, .int .u32 qt, .int .u32 qm, .int .i64 qu], .bool ok]) w1.drew := by
    have := ((H1.out.next (bel_drew (bel_refl w1))).pins.lookup rfl hidr hf).1
    exact this
  have c12 : w1.cell? ⟨c, 12, none⟩ = some (.map (some p.pm)) := H1.out.blk.cell 12
  have hgl : g < w1.heap.size := HX.out.lt
  have hcl : c < w1.heap.size := H1.out.blk.lt
  clear hf hlk
  have x8 : w1.cell? ⟨g, 8, none⟩ = some (.int .i64 id) := (HX.out.next (bel_refl w1)).cell 8
  go_cut [5, 6] (fun pv ov wd => pv = .pointer (some ⟨w1.heap.size, 0, none⟩) ∧ ov = .bool ok ∧ Hid (Blk wd w1.heap.size #[.int .i64 qw, .int .u32 qt, .int .u32 qm, .int .i64 qu] 149 ∧ Below w1.heap.size w1 wd))
  case first =>
    go_region
    all_goals go_wp2_with fail
    all_goals go_meet
    all_goals exact ⟨rfl, rfl, Lib.hid ⟨by first | exact new_drew _ _ _ | exact drew_new _ _ _ | exact Blk.new _ _ _, by repeat (first | exact bel_refl _ | apply bel_alloc | apply bel_drew | apply bel_drewN)⟩⟩
  case rest =>
    obtain ⟨rfl, rfl, HQ⟩ := hcut
    obtain ⟨w2, rfl⟩ : ∃ w2, w2 = wc := ⟨_, rfl⟩
    have HBc := Lib.hid HQ.out.2
    have HQb := Lib.hid HQ.out.1
    clear HQ
    generalize w1.heap.size = g5 at HQb ⊢
    have HX2 := Lib.hid (HX.out.next HBc.out)
    clear hlkd hlkd2 c12 x8 hgl hcl
    have HR := Lib.hid (fun W => str_any ⟨aw, at1, am⟩ W)
    unfold Tm.val at HR
    simp only [stR_tm] at HR
    have x2 : w2.cell? ⟨g, 2, none⟩ = some (.int .i64 aw) := HX2.out.cell 2
    have x3 : w2.cell? ⟨g, 3, none⟩ = some (.int .u32 at1) := HX2.out.cell 3
    have x4 : w2.cell? ⟨g, 4, none⟩ = some (.int .u32 am) := HX2.out.cell 4
    have x7 : w2.cell? ⟨g, 7, none⟩ = some (.int .i64 nn) := HX2.out.cell 7
    have x8 : w2.cell? ⟨g, 8, none⟩ = some (.int .i64 id) := HX2.out.cell 8
    have HE0 : Hid (pinC C ⟨kd, dd, ⟨aw, at1, am⟩, ys, tk, nn, id, ws⟩ = if id < 0 ∨ 16 ≤ id ∨ ¬ tmR (⟨aw, at1, am⟩ : Tm) ∨ nn < 1 ∨ 1048576 < nn then (bad 1, C) else if (⟨aw, at1, am⟩ : Tm).lt C.safe then (bad 100, C) else
      if (C.pins.any fun p => decide (p.id = id ∧ p.at_ ≠ (⟨aw, at1, am⟩ : Tm))) = true then (bad 7, C) else
      (⟨0, 0, 0, ⟨aw, at1, am⟩⟩, { C with pins := (C.pins.filter fun p => decide (p.id ≠ id)) ++ [⟨id, ⟨aw, at1, am⟩, lasts C ⟨kd, dd, ⟨aw, at1, am⟩, ys, tk, nn, id, ws⟩⟩] })) := Lib.hid rfl
    by_cases b1 : id < 0
    · have HE : Hid (pinC C ⟨kd, dd, ⟨aw, at1, am⟩, ys, tk, nn, id, ws⟩ = (bad 1, C)) := Lib.hid (by rw [HE0.out, if_pos (.inl b1)])
      have d1 : decide (id < 0) = true := by simpa using b1
      clear b1
      clear hi
      go_upto_region 3 with fail
      clear x2 x3 x4 x7 x8 d1
      have y0 : w2.cell? ⟨g + 1, 0, none⟩ = some (.int .i64 0) := (HY.out.next HBc.out).cell 0
      have f0 : w2.frozen? ⟨g + 1, 0, none⟩ = false := (HY.out.next HBc.out).free 0
      have y1 : w2.cell? ⟨g + 1, 1, none⟩ = some (.int .u32 0) := (HY.out.next HBc.out).cell 1
      have f1 : w2.frozen? ⟨g + 1, 1, none⟩ = false := (HY.out.next HBc.out).free 1
      have y2 : w2.cell? ⟨g + 1, 2, none⟩ = some (.int .i64 0) := (HY.out.next HBc.out).cell 2
      have f2 : w2.frozen? ⟨g + 1, 2, none⟩ = false := (HY.out.next HBc.out).free 2
      have y3 : w2.cell? ⟨g + 1, 3, none⟩ = some (.int .i64 0) := (HY.out.next HBc.out).cell 3
      have f3 : w2.frozen? ⟨g + 1, 3, none⟩ = false := (HY.out.next HBc.out).free 3
      have y4 : w2.cell? ⟨g + 1, 4, none⟩ = some (.int .u32 0) := (HY.out.next HBc.out).cell 4
      have f4 : w2.frozen? ⟨g + 1, 4, none⟩ = false := (HY.out.next HBc.out).free 4
      have y5 : w2.cell? ⟨g + 1, 5, none⟩ = some (.int .u32 0) := (HY.out.next HBc.out).cell 5
      have f5 : w2.frozen? ⟨g + 1, 5, none⟩ = false := (HY.out.next HBc.out).free 5
      go_wp2_with fail
      have hY := set6 (HY.out.next HBc.out) (.int .i64 1) (.int .u32 0) (.int .i64 0) (.int .i64 0) (.int .u32 0) (.int .u32 0)
      have z0 : ((((((w2.setCell ⟨g + 1, 0, none⟩ (.int .i64 1)).setCell ⟨g + 1, 1, none⟩ (.int .u32 0)).setCell ⟨g + 1, 2, none⟩ (.int .i64 0)).setCell ⟨g + 1, 3, none⟩ (.int .i64 0)).setCell ⟨g + 1, 4, none⟩ (.int .u32 0)).setCell ⟨g + 1, 5, none⟩ (.int .u32 0)).cell? ⟨g + 1, 0, none⟩ = some (.int .i64 1) := hY.cell 0
      have z1 : ((((((w2.setCell ⟨g + 1, 0, none⟩ (.int .i64 1)).setCell ⟨g + 1, 1, none⟩ (.int .u32 0)).setCell ⟨g + 1, 2, none⟩ (.int .i64 0)).setCell ⟨g + 1, 3, none⟩ (.int .i64 0)).setCell ⟨g + 1, 4, none⟩ (.int .u32 0)).setCell ⟨g + 1, 5, none⟩ (.int .u32 0)).cell? ⟨g + 1, 1, none⟩ = some (.int .u32 0) := hY.cell 1
      have z2 : ((((((w2.setCell ⟨g + 1, 0, none⟩ (.int .i64 1)).setCell ⟨g + 1, 1, none⟩ (.int .u32 0)).setCell ⟨g + 1, 2, none⟩ (.int .i64 0)).setCell ⟨g + 1, 3, none⟩ (.int .i64 0)).setCell ⟨g + 1, 4, none⟩ (.int .u32 0)).setCell ⟨g + 1, 5, none⟩ (.int .u32 0)).cell? ⟨g + 1, 2, none⟩ = some (.int .i64 0) := hY.cell 2
      have z3 : ((((((w2.setCell ⟨g + 1, 0, none⟩ (.int .i64 1)).setCell ⟨g + 1, 1, none⟩ (.int .u32 0)).setCell ⟨g + 1, 2, none⟩ (.int .i64 0)).setCell ⟨g + 1, 3, none⟩ (.int .i64 0)).setCell ⟨g + 1, 4, none⟩ (.int .u32 0)).setCell ⟨g + 1, 5, none⟩ (.int .u32 0)).cell? ⟨g + 1, 3, none⟩ = some (.int .i64 0) := hY.cell 3
      have z4 : ((((((w2.setCell ⟨g + 1, 0, none⟩ (.int .i64 1)).setCell ⟨g + 1, 1, none⟩ (.int .u32 0)).setCell ⟨g + 1, 2, none⟩ (.int .i64 0)).setCell ⟨g + 1, 3, none⟩ (.int .i64 0)).setCell ⟨g + 1, 4, none⟩ (.int .u32 0)).setCell ⟨g + 1, 5, none⟩ (.int .u32 0)).cell? ⟨g + 1, 4, none⟩ = some (.int .u32 0) := hY.cell 4
      have z5 : ((((((w2.setCell ⟨g + 1, 0, none⟩ (.int .i64 1)).setCell ⟨g + 1, 1, none⟩ (.int .u32 0)).setCell ⟨g + 1, 2, none⟩ (.int .i64 0)).setCell ⟨g + 1, 3, none⟩ (.int .i64 0)).setCell ⟨g + 1, 4, none⟩ (.int .u32 0)).setCell ⟨g + 1, 5, none⟩ (.int .u32 0)).cell? ⟨g + 1, 5, none⟩ = some (.int .u32 0) := hY.cell 5
      refine bodyPost_ret (v := .agg #[.int .i64 1, .int .u32 0, .int .i64 0, .int .i64 0, .int .u32 0, .int .u32 0]) (by simp [results, Tryz.results58, go_sem, z0, z1, z2, z3, z4, z5]) rfl ?_
      exact post_same H.out (by rw [HE.out]; rfl) (by rw [HE.out]) (bel6 hg (HBr.out _ HBc.out))
    have d1 : decide (id < 0) = false := by simpa using b1
    by_cases b2 : 16 ≤ id
    · have HE : Hid (pinC C ⟨kd, dd, ⟨aw, at1, am⟩, ys, tk, nn, id, ws⟩ = (bad 1, C)) := Lib.hid (by rw [HE0.out, if_pos (.inr (.inl b2))])
      have d2 : decide (16 ≤ id) = true := by simpa using b2
      clear b1 b2
      clear hi
      go_upto_region 3 with fail
      clear x2 x3 x4 x7 x8 d1 d2
      have y0 : w2.cell? ⟨g + 1, 0, none⟩ = some (.int .i64 0) := (HY.out.next HBc.out).cell 0
      have f0 : w2.frozen? ⟨g + 1, 0, none⟩ = false := (HY.out.next HBc.out).free 0
      have y1 : w2.cell? ⟨g + 1, 1, none⟩ = some (.int .u32 0) := (HY.out.next HBc.out).cell 1
      have f1 : w2.frozen? ⟨g + 1, 1, none⟩ = false := (HY.out.next HBc.out).free 1
      have y2 : w2.cell? ⟨g + 1, 2, none⟩ = some (.int .i64 0) := (HY.out.next HBc.out).cell 2
      have f2 : w2.frozen? ⟨g + 1, 2, none⟩ = false := (HY.out.next HBc.out).free 2
      have y3 : w2.cell? ⟨g + 1, 3, none⟩ = some (.int .i64 0) := (HY.out.next HBc.out).cell 3
      have f3 : w2.frozen? ⟨g + 1, 3, none⟩ = false := (HY.out.next HBc.out).free 3
      have y4 : w2.cell? ⟨g + 1, 4, none⟩ = some (.int .u32 0) := (HY.out.next HBc.out).cell 4
      have f4 : w2.frozen? ⟨g + 1, 4, none⟩ = false := (HY.out.next HBc.out).free 4
      have y5 : w2.cell? ⟨g + 1, 5, none⟩ = some (.int .u32 0) := (HY.out.next HBc.out).cell 5
      have f5 : w2.frozen? ⟨g + 1, 5, none⟩ = false := (HY.out.next HBc.out).free 5
      go_wp2_with fail
      have hY := set6 (HY.out.next HBc.out) (.int .i64 1) (.int .u32 0) (.int .i64 0) (.int .i64 0) (.int .u32 0) (.int .u32 0)
      have z0 : ((((((w2.setCell ⟨g + 1, 0, none⟩ (.int .i64 1)).setCell ⟨g + 1, 1, none⟩ (.int .u32 0)).setCell ⟨g + 1, 2, none⟩ (.int .i64 0)).setCell ⟨g + 1, 3, none⟩ (.int .i64 0)).setCell ⟨g + 1, 4, none⟩ (.int .u32 0)).setCell ⟨g + 1, 5, none⟩ (.int .u32 0)).cell? ⟨g + 1, 0, none⟩ = some (.int .i64 1) := hY.cell 0
      have z1 : ((((((w2.setCell ⟨g + 1, 0, none⟩ (.int .i64 1)).setCell ⟨g + 1, 1, none⟩ (.int .u32 0)).setCell ⟨g + 1, 2, none⟩ (.int .i64 0)).setCell ⟨g + 1, 3, none⟩ (.int .i64 0)).setCell ⟨g + 1, 4, none⟩ (.int .u32 0)).setCell ⟨g + 1, 5, none⟩ (.int .u32 0)).cell? ⟨g + 1, 1, none⟩ = some (.int .u32 0) := hY.cell 1
      have z2 : ((((((w2.setCell ⟨g + 1, 0, none⟩ (.int .i64 1)).setCell ⟨g + 1, 1, none⟩ (.int .u32 0)).setCell ⟨g + 1, 2, none⟩ (.int .i64 0)).setCell ⟨g + 1, 3, none⟩ (.int .i64 0)).setCell ⟨g + 1, 4, none⟩ (.int .u32 0)).setCell ⟨g + 1, 5, none⟩ (.int .u32 0)).cell? ⟨g + 1, 2, none⟩ = some (.int .i64 0) := hY.cell 2
      have z3 : ((((((w2.setCell ⟨g + 1, 0, none⟩ (.int .i64 1)).setCell ⟨g + 1, 1, none⟩ (.int .u32 0)).setCell ⟨g + 1, 2, none⟩ (.int .i64 0)).setCell ⟨g + 1, 3, none⟩ (.int .i64 0)).setCell ⟨g + 1, 4, none⟩ (.int .u32 0)).setCell ⟨g + 1, 5, none⟩ (.int .u32 0)).cell? ⟨g + 1, 3, none⟩ = some (.int .i64 0) := hY.cell 3
      have z4 : ((((((w2.setCell ⟨g + 1, 0, none⟩ (.int .i64 1)).setCell ⟨g + 1, 1, none⟩ (.int .u32 0)).setCell ⟨g + 1, 2, none⟩ (.int .i64 0)).setCell ⟨g + 1, 3, none⟩ (.int .i64 0)).setCell ⟨g + 1, 4, none⟩ (.int .u32 0)).setCell ⟨g + 1, 5, none⟩ (.int .u32 0)).cell? ⟨g + 1, 4, none⟩ = some (.int .u32 0) := hY.cell 4
      have z5 : ((((((w2.setCell ⟨g + 1, 0, none⟩ (.int .i64 1)).setCell ⟨g + 1, 1, none⟩ (.int .u32 0)).setCell ⟨g + 1, 2, none⟩ (.int .i64 0)).setCell ⟨g + 1, 3, none⟩ (.int .i64 0)).setCell ⟨g + 1, 4, none⟩ (.int .u32 0)).setCell ⟨g + 1, 5, none⟩ (.int .u32 0)).cell? ⟨g + 1, 5, none⟩ = some (.int .u32 0) := hY.cell 5
      refine bodyPost_ret (v := .agg #[.int .i64 1, .int .u32 0, .int .i64 0, .int .i64 0, .int .u32 0, .int .u32 0]) (by simp [results, Tryz.results58, go_sem, z0, z1, z2, z3, z4, z5]) rfl ?_
      exact post_same H.out (by rw [HE.out]; rfl) (by rw [HE.out]) (bel6 hg (HBr.out _ HBc.out))
    have d2 : decide (16 ≤ id) = false := by simpa using b2
    by_cases b3 : ¬ tmR (⟨aw, at1, am⟩ : Tm)
    · have HE : Hid (pinC C ⟨kd, dd, ⟨aw, at1, am⟩, ys, tk, nn, id, ws⟩ = (bad 1, C)) := Lib.hid (by rw [HE0.out, if_pos (.inr (.inr (.inl b3)))])
      have d3 : decide (tmR (⟨aw, at1, am⟩ : Tm)) = false := by simpa using b3
      rw [d3] at HR
      clear b1 b2 b3 d3
      clear hi
      go_upto_region 3 with (first | (go_at_call 73; refine (HR.out _).mono ?_; rintro e w3 ⟨rfl, hb3⟩; have HB3 := Lib.hid (bel_trans HBc.out hb3); have hX3 := HX2.out.next hb3; have X7 : w3.cell? ⟨g, 7, none⟩ = some (.int .i64 nn) := hX3.cell 7; have HB23 := Lib.hid hb3; clear hb3 hX3) | fail)
      clear x2 x3 x4 x7 x8 d1 d2 X7
      have y0 : w3.cell? ⟨g + 1, 0, none⟩ = some (.int .i64 0) := (HY.out.next HB3.out).cell 0
      have f0 : w3.frozen? ⟨g + 1, 0, none⟩ = false := (HY.out.next HB3.out).free 0
      have y1 : w3.cell? ⟨g + 1, 1, none⟩ = some (.int .u32 0) := (HY.out.next HB3.out).cell 1
      have f1 : w3.frozen? ⟨g + 1, 1, none⟩ = false := (HY.out.next HB3.out).free 1
      have y2 : w3.cell? ⟨g + 1, 2, none⟩ = some (.int .i64 0) := (HY.out.next HB3.out).cell 2
      have f2 : w3.frozen? ⟨g + 1, 2, none⟩ = false := (HY.out.next HB3.out).free 2
      have y3 : w3.cell? ⟨g + 1, 3, none⟩ = some (.int .i64 0) := (HY.out.next HB3.out).cell 3
      have f3 : w3.frozen? ⟨g + 1, 3, none⟩ = false := (HY.out.next HB3.out).free 3
      have y4 : w3.cell? ⟨g + 1, 4, none⟩ = some (.int .u32 0) := (HY.out.next HB3.out).cell 4
      have f4 : w3.frozen? ⟨g + 1, 4, none⟩ = false := (HY.out.next HB3.out).free 4
      have y5 : w3.cell? ⟨g + 1, 5, none⟩ = some (.int .u32 0) := (HY.out.next HB3.out).cell 5
      have f5 : w3.frozen? ⟨g + 1, 5, none⟩ = false := (HY.out.next HB3.out).free 5
      go_wp2_with fail
      have hY := set6 (HY.out.next HB3.out) (.int .i64 1) (.int .u32 0) (.int .i64 0) (.int .i64 0) (.int .u32 0) (.int .u32 0)
      have z0 : ((((((w3.setCell ⟨g + 1, 0, none⟩ (.int .i64 1)).setCell ⟨g + 1, 1, none⟩ (.int .u32 0)).setCell ⟨g + 1, 2, none⟩ (.int .i64 0)).setCell ⟨g + 1, 3, none⟩ (.int .i64 0)).setCell ⟨g + 1, 4, none⟩ (.int .u32 0)).setCell ⟨g + 1, 5, none⟩ (.int .u32 0)).cell? ⟨g + 1, 0, none⟩ = some (.int .i64 1) := hY.cell 0
      have z1 : ((((((w3.setCell ⟨g + 1, 0, none⟩ (.int .i64 1)).setCell ⟨g + 1, 1, none⟩ (.int .u32 0)).setCell ⟨g + 1, 2, none⟩ (.int .i64 0)).setCell ⟨g + 1, 3, none⟩ (.int .i64 0)).setCell ⟨g + 1, 4, none⟩ (.int .u32 0)).setCell ⟨g + 1, 5, none⟩ (.int .u32 0)).cell? ⟨g + 1, 1, none⟩ = some (.int .u32 0) := hY.cell 1
      have z2 : ((((((w3.setCell ⟨g + 1, 0, none⟩ (.int .i64 1)).setCell ⟨g + 1, 1, none⟩ (.int .u32 0)).setCell ⟨g + 1, 2, none⟩ (.int .i64 0)).setCell ⟨g + 1, 3, none⟩ (.int .i64 0)).setCell ⟨g + 1, 4, none⟩ (.int .u32 0)).setCell ⟨g + 1, 5, none⟩ (.int .u32 0)).cell? ⟨g + 1, 2, none⟩ = some (.int .i64 0) := hY.cell 2
      have z3 : ((((((w3.setCell ⟨g + 1, 0, none⟩ (.int .i64 1)).setCell ⟨g + 1, 1, none⟩ (.int .u32 0)).setCell ⟨g + 1, 2, none⟩ (.int .i64 0)).setCell ⟨g + 1, 3, none⟩ (.int .i64 0)).setCell ⟨g + 1, 4, none⟩ (.int .u32 0)).setCell ⟨g + 1, 5, none⟩ (.int .u32 0)).cell? ⟨g + 1, 3, none⟩ = some (.int .i64 0) := hY.cell 3
      have z4 : ((((((w3.setCell ⟨g + 1, 0, none⟩ (.int .i64 1)).setCell ⟨g + 1, 1, none⟩ (.int .u32 0)).setCell ⟨g + 1, 2, none⟩ (.int .i64 0)).setCell ⟨g + 1, 3, none⟩ (.int .i64 0)).setCell ⟨g + 1, 4, none⟩ (.int .u32 0)).setCell ⟨g + 1, 5, none⟩ (.int .u32 0)).cell? ⟨g + 1, 4, none⟩ = some (.int .u32 0) := hY.cell 4
      have z5 : ((((((w3.setCell ⟨g + 1, 0, none⟩ (.int .i64 1)).setCell ⟨g + 1, 1, none⟩ (.int .u32 0)).setCell ⟨g + 1, 2, none⟩ (.int .i64 0)).setCell ⟨g + 1, 3, none⟩ (.int .i64 0)).setCell ⟨g + 1, 4, none⟩ (.int .u32 0)).setCell ⟨g + 1, 5, none⟩ (.int .u32 0)).cell? ⟨g + 1, 5, none⟩ = some (.int .u32 0) := hY.cell 5
      refine bodyPost_ret (v := .agg #[.int .i64 1, .int .u32 0, .int .i64 0, .int .i64 0, .int .u32 0, .int .u32 0]) (by simp [results, Tryz.results58, go_sem, z0, z1, z2, z3, z4, z5]) rfl ?_
      exact post_same H.out (by rw [HE.out]; rfl) (by rw [HE.out]) (bel6 hg (HBr.out _ HB3.out))
    have b3 : tmR (⟨aw, at1, am⟩ : Tm) := Classical.not_not.1 b3
    have d3 : decide (tmR (⟨aw, at1, am⟩ : Tm)) = true := by simpa using b3
    rw [d3] at HR
    clear d3
    by_cases b4 : nn < 1
    · have HE : Hid (pinC C ⟨kd, dd, ⟨aw, at1, am⟩, ys, tk, nn, id, ws⟩ = (bad 1, C)) := Lib.hid (by rw [HE0.out, if_pos (.inr (.inr (.inr (.inl b4))))])
      have d4 : decide (nn < 1) = true := by simpa using b4
      clear b1 b2 b4
      clear hi
      go_upto_region 3 with (first | (go_at_call 73; refine (HR.out _).mono ?_; rintro e w3 ⟨rfl, hb3⟩; have HB3 := Lib.hid (bel_trans HBc.out hb3); have hX3 := HX2.out.next hb3; have X7 : w3.cell? ⟨g, 7, none⟩ = some (.int .i64 nn) := hX3.cell 7; have HB23 := Lib.hid hb3; clear hb3 hX3) | fail)
      clear x2 x3 x4 x7 x8 d1 d2 d4 X7
      have y0 : w3.cell? ⟨g + 1, 0, none⟩ = some (.int .i64 0) := (HY.out.next HB3.out).cell 0
      have f0 : w3.frozen? ⟨g + 1, 0, none⟩ = false := (HY.out.next HB3.out).free 0
      have y1 : w3.cell? ⟨g + 1, 1, none⟩ = some (.int .u32 0) := (HY.out.next HB3.out).cell 1
      have f1 : w3.frozen? ⟨g + 1, 1, none⟩ = false := (HY.out.next HB3.out).free 1
      have y2 : w3.cell? ⟨g + 1, 2, none⟩ = some (.int .i64 0) := (HY.out.next HB3.out).cell 2
      have f2 : w3.frozen? ⟨g + 1, 2, none⟩ = false := (HY.out.next HB3.out).free 2
      have y3 : w3.cell? ⟨g + 1, 3, none⟩ = some (.int .i64 0) := (HY.out.next HB3.out).cell 3
      have f3 : w3.frozen? ⟨g + 1, 3, none⟩ = false := (HY.out.next HB3.out).free 3
      have y4 : w3.cell? ⟨g + 1, 4, none⟩ = some (.int .u32 0) := (HY.out.next HB3.out).cell 4
      have f4 : w3.frozen? ⟨g + 1, 4, none⟩ = false := (HY.out.next HB3.out).free 4
      have y5 : w3.cell? ⟨g + 1, 5, none⟩ = some (.int .u32 0) := (HY.out.next HB3.out).cell 5
      have f5 : w3.frozen? ⟨g + 1, 5, none⟩ = false := (HY.out.next HB3.out).free 5
      go_wp2_with fail
      have hY := set6 (HY.out.next HB3.out) (.int .i64 1) (.int .u32 0) (.int .i64 0) (.int .i64 0) (.int .u32 0) (.int .u32 0)
      have z0 : ((((((w3.setCell ⟨g + 1, 0, none⟩ (.int .i64 1)).setCell ⟨g + 1, 1, none⟩ (.int .u32 0)).setCell ⟨g + 1, 2, none⟩ (.int .i64 0)).setCell ⟨g + 1, 3, none⟩ (.int .i64 0)).setCell ⟨g + 1, 4, none⟩ (.int .u32 0)).setCell ⟨g + 1, 5, none⟩ (.int .u32 0)).cell? ⟨g + 1, 0, none⟩ = some (.int .i64 1) := hY.cell 0
      have z1 : ((((((w3.setCell ⟨g + 1, 0, none⟩ (.int .i64 1)).setCell ⟨g + 1, 1, none⟩ (.int .u32 0)).setCell ⟨g + 1, 2, none⟩ (.int .i64 0)).setCell ⟨g + 1, 3, none⟩ (.int .i64 0)).setCell ⟨g + 1, 4, none⟩ (.int .u32 0)).setCell ⟨g + 1, 5, none⟩ (.int .u32 0)).cell? ⟨g + 1, 1, none⟩ = some (.int .u32 0) := hY.cell 1
      have z2 : ((((((w3.setCell ⟨g + 1, 0, none⟩ (.int .i64 1)).setCell ⟨g + 1, 1, none⟩ (.int .u32 0)).setCell ⟨g + 1, 2, none⟩ (.int .i64 0)).setCell ⟨g + 1, 3, none⟩ (.int .i64 0)).setCell ⟨g + 1, 4, none⟩ (.int .u32 0)).setCell ⟨g + 1, 5, none⟩ (.int .u32 0)).cell? ⟨g + 1, 2, none⟩ = some (.int .i64 0) := hY.cell 2
      have z3 : ((((((w3.setCell ⟨g + 1, 0, none⟩ (.int .i64 1)).setCell ⟨g + 1, 1, none⟩ (.int .u32 0)).setCell ⟨g + 1, 2, none⟩ (.int .i64 0)).setCell ⟨g + 1, 3, none⟩ (.int .i64 0)).setCell ⟨g + 1, 4, none⟩ (.int .u32 0)).setCell ⟨g + 1, 5, none⟩ (.int .u32 0)).cell? ⟨g + 1, 3, none⟩ = some (.int .i64 0) := hY.cell 3
      have z4 : ((((((w3.setCell ⟨g + 1, 0, none⟩ (.int .i64 1)).setCell ⟨g + 1, 1, none⟩ (.int .u32 0)).setCell ⟨g + 1, 2, none⟩ (.int .i64 0)).setCell ⟨g + 1, 3, none⟩ (.int .i64 0)).setCell ⟨g + 1, 4, none⟩ (.int .u32 0)).setCell ⟨g + 1, 5, none⟩ (.int .u32 0)).cell? ⟨g + 1, 4, none⟩ = some (.int .u32 0) := hY.cell 4
      have z5 : ((((((w3.setCell ⟨g + 1, 0, none⟩ (.int .i64 1)).setCell ⟨g + 1, 1, none⟩ (.int .u32 0)).setCell ⟨g + 1, 2, none⟩ (.int .i64 0)).setCell ⟨g + 1, 3, none⟩ (.int .i64 0)).setCell ⟨g + 1, 4, none⟩ (.int .u32 0)).setCell ⟨g + 1, 5, none⟩ (.int .u32 0)).cell? ⟨g + 1, 5, none⟩ = some (.int .u32 0) := hY.cell 5
      refine bodyPost_ret (v := .agg #[.int .i64 1, .int .u32 0, .int .i64 0, .int .i64 0, .int .u32 0, .int .u32 0]) (by simp [results, Tryz.results58, go_sem, z0, z1, z2, z3, z4, z5]) rfl ?_
      exact post_same H.out (by rw [HE.out]; rfl) (by rw [HE.out]) (bel6 hg (HBr.out _ HB3.out))
    have d4 : decide (nn < 1) = false := by simpa using b4
    by_cases b5 : 1048576 < nn
    · have HE : Hid (pinC C ⟨kd, dd, ⟨aw, at1, am⟩, ys, tk, nn, id, ws⟩ = (bad 1, C)) := Lib.hid (by rw [HE0.out, if_pos (.inr (.inr (.inr (.inr b5))))])
      have d5 : decide (1048576 < nn) = true := by simpa using b5
      clear b1 b2 b4 b5
      clear hi
      go_upto_region 3 with (first | (go_at_call 73; refine (HR.out _).mono ?_; rintro e w3 ⟨rfl, hb3⟩; have HB3 := Lib.hid (bel_trans HBc.out hb3); have hX3 := HX2.out.next hb3; have X7 : w3.cell? ⟨g, 7, none⟩ = some (.int .i64 nn) := hX3.cell 7; have HB23 := Lib.hid hb3; clear hb3 hX3) | fail)
      clear x2 x3 x4 x7 x8 d1 d2 d4 d5 X7
      have y0 : w3.cell? ⟨g + 1, 0, none⟩ = some (.int .i64 0) := (HY.out.next HB3.out).cell 0
      have f0 : w3.frozen? ⟨g + 1, 0, none⟩ = false := (HY.out.next HB3.out).free 0
      have y1 : w3.cell? ⟨g + 1, 1, none⟩ = some (.int .u32 0) := (HY.out.next HB3.out).cell 1
      have f1 : w3.frozen? ⟨g + 1, 1, none⟩ = false := (HY.out.next HB3.out).free 1
      have y2 : w3.cell? ⟨g + 1, 2, none⟩ = some (.int .i64 0) := (HY.out.next HB3.out).cell 2
      have f2 : w3.frozen? ⟨g + 1, 2, none⟩ = false := (HY.out.next HB3.out).free 2
      have y3 : w3.cell? ⟨g + 1, 3, none⟩ = some (.int .i64 0) := (HY.out.next HB3.out).cell 3
      have f3 : w3.frozen? ⟨g + 1, 3, none⟩ = false := (HY.out.next HB3.out).free 3
      have y4 : w3.cell? ⟨g + 1, 4, none⟩ = some (.int .u32 0) := (HY.out.next HB3.out).cell 4
      have f4 : w3.frozen? ⟨g + 1, 4, none⟩ = false := (HY.out.next HB3.out).free 4
      have y5 : w3.cell? ⟨g + 1, 5, none⟩ = some (.int .u32 0) := (HY.out.next HB3.out).cell 5
      have f5 : w3.frozen? ⟨g + 1, 5, none⟩ = false := (HY.out.next HB3.out).free 5
      go_wp2_with fail
      have hY := set6 (HY.out.next HB3.out) (.int .i64 1) (.int .u32 0) (.int .i64 0) (.int .i64 0) (.int .u32 0) (.int .u32 0)
      have z0 : ((((((w3.setCell ⟨g + 1, 0, none⟩ (.int .i64 1)).setCell ⟨g + 1, 1, none⟩ (.int .u32 0)).setCell ⟨g + 1, 2, none⟩ (.int .i64 0)).setCell ⟨g + 1, 3, none⟩ (.int .i64 0)).setCell ⟨g + 1, 4, none⟩ (.int .u32 0)).setCell ⟨g + 1, 5, none⟩ (.int .u32 0)).cell? ⟨g + 1, 0, none⟩ = some (.int .i64 1) := hY.cell 0
      have z1 : ((((((w3.setCell ⟨g + 1, 0, none⟩ (.int .i64 1)).setCell ⟨g + 1, 1, none⟩ (.int .u32 0)).setCell ⟨g + 1, 2, none⟩ (.int .i64 0)).setCell ⟨g + 1, 3, none⟩ (.int .i64 0)).setCell ⟨g + 1, 4, none⟩ (.int .u32 0)).setCell ⟨g + 1, 5, none⟩ (.int .u32 0)).cell? ⟨g + 1, 1, none⟩ = some (.int .u32 0) := hY.cell 1
      have z2 : ((((((w3.setCell ⟨g + 1, 0, none⟩ (.int .i64 1)).setCell ⟨g + 1, 1, none⟩ (.int .u32 0)).setCell ⟨g + 1, 2, none⟩ (.int .i64 0)).setCell ⟨g + 1, 3, none⟩ (.int .i64 0)).setCell ⟨g + 1, 4, none⟩ (.int .u32 0)).setCell ⟨g + 1, 5, none⟩ (.int .u32 0)).cell? ⟨g + 1, 2, none⟩ = some (.int .i64 0) := hY.cell 2
      have z3 : ((((((w3.setCell ⟨g + 1, 0, none⟩ (.int .i64 1)).setCell ⟨g + 1, 1, none⟩ (.int .u32 0)).setCell ⟨g + 1, 2, none⟩ (.int .i64 0)).setCell ⟨g + 1, 3, none⟩ (.int .i64 0)).setCell ⟨g + 1, 4, none⟩ (.int .u32 0)).setCell ⟨g + 1, 5, none⟩ (.int .u32 0)).cell? ⟨g + 1, 3, none⟩ = some (.int .i64 0) := hY.cell 3
      have z4 : ((((((w3.setCell ⟨g + 1, 0, none⟩ (.int .i64 1)).setCell ⟨g + 1, 1, none⟩ (.int .u32 0)).setCell ⟨g + 1, 2, none⟩ (.int .i64 0)).setCell ⟨g + 1, 3, none⟩ (.int .i64 0)).setCell ⟨g + 1, 4, none⟩ (.int .u32 0)).setCell ⟨g + 1, 5, none⟩ (.int .u32 0)).cell? ⟨g + 1, 4, none⟩ = some (.int .u32 0) := hY.cell 4
      have z5 : ((((((w3.setCell ⟨g + 1, 0, none⟩ (.int .i64 1)).setCell ⟨g + 1, 1, none⟩ (.int .u32 0)).setCell ⟨g + 1, 2, none⟩ (.int .i64 0)).setCell ⟨g + 1, 3, none⟩ (.int .i64 0)).setCell ⟨g + 1, 4, none⟩ (.int .u32 0)).setCell ⟨g + 1, 5, none⟩ (.int .u32 0)).cell? ⟨g + 1, 5, none⟩ = some (.int .u32 0) := hY.cell 5
      refine bodyPost_ret (v := .agg #[.int .i64 1, .int .u32 0, .int .i64 0, .int .i64 0, .int .u32 0, .int .u32 0]) (by simp [results, Tryz.results58, go_sem, z0, z1, z2, z3, z4, z5]) rfl ?_
      exact post_same H.out (by rw [HE.out]; rfl) (by rw [HE.out]) (bel6 hg (HBr.out _ HB3.out))
    have d5 : decide (1048576 < nn) = false := by simpa using b5
    have HE1 : Hid (pinC C ⟨kd, dd, ⟨aw, at1, am⟩, ys, tk, nn, id, ws⟩ = if (⟨aw, at1, am⟩ : Tm).lt C.safe then (bad 100, C) else
      if (C.pins.any fun p => decide (p.id = id ∧ p.at_ ≠ (⟨aw, at1, am⟩ : Tm))) = true then (bad 7, C) else
      (⟨0, 0, 0, ⟨aw, at1, am⟩⟩, { C with pins := (C.pins.filter fun p => decide (p.id ≠ id)) ++ [⟨id, ⟨aw, at1, am⟩, lasts C ⟨kd, dd, ⟨aw, at1, am⟩, ys, tk, nn, id, ws⟩⟩] })) := Lib.hid (by
      rw [HE0.out, if_neg (by rintro (h | h | h | h | h) <;> first | exact b1 h | exact b2 h | exact h b3 | exact b4 h | exact b5 h)])
    have HN : Hid (1 ≤ nn ∧ nn ≤ 1048576 ∧ 0 ≤ id ∧ id < 16) := Lib.hid (by omega)
    clear HE0 b1 b2 b3 b4 b5
    go_upto_region 4 with (first | (go_at_call 73; refine (HR.out _).mono ?_; rintro e w3 ⟨rfl, hb3⟩; have HB3 := Lib.hid (bel_trans HBc.out hb3); have hX3 := HX2.out.next hb3; have X7 : w3.cell? ⟨g, 7, none⟩ = some (.int .i64 nn) := hX3.cell 7; have HB23 := Lib.hid hb3; clear hb3 hX3) | fail)
    clear x2 x3 x4 x7 x8 d1 d2 d4 d5 X7 HR
    have H3 := Lib.hid (H.out.next (HBr.out _ HB3.out))
    have HX3 := Lib.hid (HX.out.next HB3.out)
    have HQ3 : Hid (Blk w3 g5 #[.int .i64 qw, .int .u32 qt, .int .u32 qm, .int .i64 qu] 149) := Lib.hid (HQb.out.next HB23.out)
    have hcl : c < w3.heap.size := H3.out.blk.lt
    have hgl : g < w3.heap.size := HX3.out.lt
    have HCm := Lib.hid (fun W => compare_any ⟨aw, at1, am⟩ C.safe W)
    unfold Tm.val at HCm
    simp only at HCm
    have HLt : Hid (cmpT ⟨aw, at1, am⟩ C.safe < 0 ↔ (⟨aw, at1, am⟩ : Tm).lt C.safe) := Lib.hid cmpT_lt
    generalize cmpT ⟨aw, at1, am⟩ C.safe = z at HCm HLt
    have HKs : Hid (∀ W, Below w3.heap.size w3 W → W.cell? ⟨c, 8, none⟩ = some (.int .i64 C.safe.wall) ∧ W.cell? ⟨c, 9, none⟩ = some (.int .u32 C.safe.tick) ∧ W.cell? ⟨c, 10, none⟩ = some (.int .u32 C.safe.mark) ∧ W.cell? ⟨g, 2, none⟩ = some (.int .i64 aw) ∧ W.cell? ⟨g, 3, none⟩ = some (.int .u32 at1) ∧ W.cell? ⟨g, 4, none⟩ = some (.int .u32 am)) := Lib.hid (fun W hW => ⟨(H3.out.blk.next hW).cell 8, (H3.out.blk.next hW).cell 9, (H3.out.blk.next hW).cell 10, (HX3.out.next hW).cell 2, (HX3.out.next hW).cell 3, (HX3.out.next hW).cell 4⟩)
    have hx0 := bel_refl w3
    obtain ⟨q0, q1, q2, q3, q4, q5⟩ := HKs.out w3 hx0
    go_region_held3 (fun W => W.cell? ⟨c, 8, none⟩ = some (.int .i64 C.safe.wall) ∧ W.cell? ⟨c, 9, none⟩ = some (.int .u32 C.safe.tick) ∧ W.cell? ⟨c, 10, none⟩ = some (.int .u32 C.safe.mark) ∧ W.cell? ⟨g, 2, none⟩ = some (.int .i64 aw) ∧ W.cell? ⟨g, 3, none⟩ = some (.int .u32 at1) ∧ W.cell? ⟨g, 4, none⟩ = some (.int .u32 am))
      (first | (with_reducible exact ⟨q0, q1, q2, q3, q4, q5⟩) | (with_reducible refine HKs.out _ ?_; (repeat (first | assumption | apply bel_alloc | apply bel_drew)); done) | go_keep)
      (first
        | (go_simp; go_at_call 26; refine (HCm.out _).mono ?_; rintro e w4 ⟨rfl, hb4⟩; have hx4 : Below w3.heap.size w3 w4 := bel_trans (by repeat (first | exact bel_refl _ | assumption | apply bel_alloc | apply bel_drew)) hb4; clear hb4))
    clear q0 q1 q2 q3 q4 q5 HKs hx0
    have HB4 := Lib.hid (bel_trans HB3.out hx4)
    have HQ4 := Lib.hid (HQ3.out.next hx4)
    clear hx4 hcl hgl HCm H3 HX3 HB3 HQ3 HQb HBc HX2 HB23
    by_cases hz : z < 0
    · have HE : Hid (pinC C ⟨kd, dd, ⟨aw, at1, am⟩, ys, tk, nn, id, ws⟩ = (bad 100, C)) := Lib.hid (by rw [HE1.out, if_pos (HLt.out.1 hz)])
      clear hi
      go_upto_region 5 with fail
      clear hz
      have y0 : w4.cell? ⟨g + 1, 0, none⟩ = some (.int .i64 0) := (HY.out.next HB4.out).cell 0
      have f0 : w4.frozen? ⟨g + 1, 0, none⟩ = false := (HY.out.next HB4.out).free 0
      have y1 : w4.cell? ⟨g + 1, 1, none⟩ = some (.int .u32 0) := (HY.out.next HB4.out).cell 1
      have f1 : w4.frozen? ⟨g + 1, 1, none⟩ = false := (HY.out.next HB4.out).free 1
      have y2 : w4.cell? ⟨g + 1, 2, none⟩ = some (.int .i64 0) := (HY.out.next HB4.out).cell 2
      have f2 : w4.frozen? ⟨g + 1, 2, none⟩ = false := (HY.out.next HB4.out).free 2
      have y3 : w4.cell? ⟨g + 1, 3, none⟩ = some (.int .i64 0) := (HY.out.next HB4.out).cell 3
      have f3 : w4.frozen? ⟨g + 1, 3, none⟩ = false := (HY.out.next HB4.out).free 3
      have y4 : w4.cell? ⟨g + 1, 4, none⟩ = some (.int .u32 0) := (HY.out.next HB4.out).cell 4
      have f4 : w4.frozen? ⟨g + 1, 4, none⟩ = false := (HY.out.next HB4.out).free 4
      have y5 : w4.cell? ⟨g + 1, 5, none⟩ = some (.int .u32 0) := (HY.out.next HB4.out).cell 5
      have f5 : w4.frozen? ⟨g + 1, 5, none⟩ = false := (HY.out.next HB4.out).free 5
      go_wp2_with fail
      have hY := set6 (HY.out.next HB4.out) (.int .i64 100) (.int .u32 0) (.int .i64 0) (.int .i64 0) (.int .u32 0) (.int .u32 0)
      have z0 : ((((((w4.setCell ⟨g + 1, 0, none⟩ (.int .i64 100)).setCell ⟨g + 1, 1, none⟩ (.int .u32 0)).setCell ⟨g + 1, 2, none⟩ (.int .i64 0)).setCell ⟨g + 1, 3, none⟩ (.int .i64 0)).setCell ⟨g + 1, 4, none⟩ (.int .u32 0)).setCell ⟨g + 1, 5, none⟩ (.int .u32 0)).cell? ⟨g + 1, 0, none⟩ = some (.int .i64 100) := hY.cell 0
      have z1 : ((((((w4.setCell ⟨g + 1, 0, none⟩ (.int .i64 100)).setCell ⟨g + 1, 1, none⟩ (.int .u32 0)).setCell ⟨g + 1, 2, none⟩ (.int .i64 0)).setCell ⟨g + 1, 3, none⟩ (.int .i64 0)).setCell ⟨g + 1, 4, none⟩ (.int .u32 0)).setCell ⟨g + 1, 5, none⟩ (.int .u32 0)).cell? ⟨g + 1, 1, none⟩ = some (.int .u32 0) := hY.cell 1
      have z2 : ((((((w4.setCell ⟨g + 1, 0, none⟩ (.int .i64 100)).setCell ⟨g + 1, 1, none⟩ (.int .u32 0)).setCell ⟨g + 1, 2, none⟩ (.int .i64 0)).setCell ⟨g + 1, 3, none⟩ (.int .i64 0)).setCell ⟨g + 1, 4, none⟩ (.int .u32 0)).setCell ⟨g + 1, 5, none⟩ (.int .u32 0)).cell? ⟨g + 1, 2, none⟩ = some (.int .i64 0) := hY.cell 2
      have z3 : ((((((w4.setCell ⟨g + 1, 0, none⟩ (.int .i64 100)).setCell ⟨g + 1, 1, none⟩ (.int .u32 0)).setCell ⟨g + 1, 2, none⟩ (.int .i64 0)).setCell ⟨g + 1, 3, none⟩ (.int .i64 0)).setCell ⟨g + 1, 4, none⟩ (.int .u32 0)).setCell ⟨g + 1, 5, none⟩ (.int .u32 0)).cell? ⟨g + 1, 3, none⟩ = some (.int .i64 0) := hY.cell 3
      have z4 : ((((((w4.setCell ⟨g + 1, 0, none⟩ (.int .i64 100)).setCell ⟨g + 1, 1, none⟩ (.int .u32 0)).setCell ⟨g + 1, 2, none⟩ (.int .i64 0)).setCell ⟨g + 1, 3, none⟩ (.int .i64 0)).setCell ⟨g + 1, 4, none⟩ (.int .u32 0)).setCell ⟨g + 1, 5, none⟩ (.int .u32 0)).cell? ⟨g + 1, 4, none⟩ = some (.int .u32 0) := hY.cell 4
      have z5 : ((((((w4.setCell ⟨g + 1, 0, none⟩ (.int .i64 100)).setCell ⟨g + 1, 1, none⟩ (.int .u32 0)).setCell ⟨g + 1, 2, none⟩ (.int .i64 0)).setCell ⟨g + 1, 3, none⟩ (.int .i64 0)).setCell ⟨g + 1, 4, none⟩ (.int .u32 0)).setCell ⟨g + 1, 5, none⟩ (.int .u32 0)).cell? ⟨g + 1, 5, none⟩ = some (.int .u32 0) := hY.cell 5
      refine bodyPost_ret (v := .agg #[.int .i64 100, .int .u32 0, .int .i64 0, .int .i64 0, .int .u32 0, .int .u32 0]) (by simp [results, Tryz.results58, go_sem, z0, z1, z2, z3, z4, z5]) rfl ?_
      exact post_same H.out (by rw [HE.out]; rfl) (by rw [HE.out]) (bel6 hg (HBr.out _ HB4.out))
    have HE2 : Hid (pinC C ⟨kd, dd, ⟨aw, at1, am⟩, ys, tk, nn, id, ws⟩ = if (C.pins.any fun p => decide (p.id = id ∧ p.at_ ≠ (⟨aw, at1, am⟩ : Tm))) = true then (bad 7, C) else
      (⟨0, 0, 0, ⟨aw, at1, am⟩⟩, { C with pins := (C.pins.filter fun p => decide (p.id ≠ id)) ++ [⟨id, ⟨aw, at1, am⟩, lasts C ⟨kd, dd, ⟨aw, at1, am⟩, ys, tk, nn, id, ws⟩⟩] })) := Lib.hid (by rw [HE1.out, if_neg (fun h => hz (HLt.out.2 h))])
    clear HE1 HLt
    go_upto_region 6 with fail
    clear hz
    have H4 := Lib.hid (H.out.next (HBr.out _ HB4.out))
    have HX4 := Lib.hid (HX.out.next HB4.out)
    have x2 : w4.cell? ⟨g, 2, none⟩ = some (.int .i64 aw) := HX4.out.cell 2
    have x3 : w4.cell? ⟨g, 3, none⟩ = some (.int .u32 at1) := HX4.out.cell 3
    have x4 : w4.cell? ⟨g, 4, none⟩ = some (.int .u32 am) := HX4.out.cell 4
    have v0 : w4.cell? ⟨g5, 0, none⟩ = some (.int .i64 qw) := HQ4.out.cell 0
    have v1 : w4.cell? ⟨g5, 1, none⟩ = some (.int .u32 qt) := HQ4.out.cell 1
    have v2 : w4.cell? ⟨g5, 2, none⟩ = some (.int .u32 qm) := HQ4.out.cell 2
    by_cases hb : ok = true ∧ (⟨qw, qt, qm⟩ : Tm) ≠ ⟨aw, at1, am⟩
    · have HE : Hid (pinC C ⟨kd, dd, ⟨aw, at1, am⟩, ys, tk, nn, id, ws⟩ = (bad 7, C)) := Lib.hid (by rw [HE2.out, if_pos ((found_any (m := ⟨kd, dd, ⟨aw, at1, am⟩, ys, tk, nn, id, ws⟩) H.out.inv HF.out).2 hb)])
      obtain ⟨rfl, hne⟩ := hb
      clear hi
      by_cases e1 : qw = aw
      · have k1 : (qw == aw) = true := by simp [e1]
        by_cases e2 : qt = at1
        · have k2 : (qt == at1) = true := by simp [e2]
          have k3 : (qm == am) = false := bne_of (fun e3 => hne (by rw [e1, e2, e3]))
          clear e1 e2 hne
          go_upto_region 7 with fail
          clear x2 x3 x4 v0 v1 v2 k1 k2 k3
          have y0 : w4.cell? ⟨g + 1, 0, none⟩ = some (.int .i64 0) := (HY.out.next HB4.out).cell 0
          have f0 : w4.frozen? ⟨g + 1, 0, none⟩ = false := (HY.out.next HB4.out).free 0
          have y1 : w4.cell? ⟨g + 1, 1, none⟩ = some (.int .u32 0) := (HY.out.next HB4.out).cell 1
          have f1 : w4.frozen? ⟨g + 1, 1, none⟩ = false := (HY.out.next HB4.out).free 1
          have y2 : w4.cell? ⟨g + 1, 2, none⟩ = some (.int .i64 0) := (HY.out.next HB4.out).cell 2
          have f2 : w4.frozen? ⟨g + 1, 2, none⟩ = false := (HY.out.next HB4.out).free 2
          have y3 : w4.cell? ⟨g + 1, 3, none⟩ = some (.int .i64 0) := (HY.out.next HB4.out).cell 3
          have f3 : w4.frozen? ⟨g + 1, 3, none⟩ = false := (HY.out.next HB4.out).free 3
          have y4 : w4.cell? ⟨g + 1, 4, none⟩ = some (.int .u32 0) := (HY.out.next HB4.out).cell 4
          have f4 : w4.frozen? ⟨g + 1, 4, none⟩ = false := (HY.out.next HB4.out).free 4
          have y5 : w4.cell? ⟨g + 1, 5, none⟩ = some (.int .u32 0) := (HY.out.next HB4.out).cell 5
          have f5 : w4.frozen? ⟨g + 1, 5, none⟩ = false := (HY.out.next HB4.out).free 5
          go_wp2_with fail
          have hY := set6 (HY.out.next HB4.out) (.int .i64 7) (.int .u32 0) (.int .i64 0) (.int .i64 0) (.int .u32 0) (.int .u32 0)
          have z0 : ((((((w4.setCell ⟨g + 1, 0, none⟩ (.int .i64 7)).setCell ⟨g + 1, 1, none⟩ (.int .u32 0)).setCell ⟨g + 1, 2, none⟩ (.int .i64 0)).setCell ⟨g + 1, 3, none⟩ (.int .i64 0)).setCell ⟨g + 1, 4, none⟩ (.int .u32 0)).setCell ⟨g + 1, 5, none⟩ (.int .u32 0)).cell? ⟨g + 1, 0, none⟩ = some (.int .i64 7) := hY.cell 0
          have z1 : ((((((w4.setCell ⟨g + 1, 0, none⟩ (.int .i64 7)).setCell ⟨g + 1, 1, none⟩ (.int .u32 0)).setCell ⟨g + 1, 2, none⟩ (.int .i64 0)).setCell ⟨g + 1, 3, none⟩ (.int .i64 0)).setCell ⟨g + 1, 4, none⟩ (.int .u32 0)).setCell ⟨g + 1, 5, none⟩ (.int .u32 0)).cell? ⟨g + 1, 1, none⟩ = some (.int .u32 0) := hY.cell 1
          have z2 : ((((((w4.setCell ⟨g + 1, 0, none⟩ (.int .i64 7)).setCell ⟨g + 1, 1, none⟩ (.int .u32 0)).setCell ⟨g + 1, 2, none⟩ (.int .i64 0)).setCell ⟨g + 1, 3, none⟩ (.int .i64 0)).setCell ⟨g + 1, 4, none⟩ (.int .u32 0)).setCell ⟨g + 1, 5, none⟩ (.int .u32 0)).cell? ⟨g + 1, 2, none⟩ = some (.int .i64 0) := hY.cell 2
          have z3 : ((((((w4.setCell ⟨g + 1, 0, none⟩ (.int .i64 7)).setCell ⟨g + 1, 1, none⟩ (.int .u32 0)).setCell ⟨g + 1, 2, none⟩ (.int .i64 0)).setCell ⟨g + 1, 3, none⟩ (.int .i64 0)).setCell ⟨g + 1, 4, none⟩ (.int .u32 0)).setCell ⟨g + 1, 5, none⟩ (.int .u32 0)).cell? ⟨g + 1, 3, none⟩ = some (.int .i64 0) := hY.cell 3
          have z4 : ((((((w4.setCell ⟨g + 1, 0, none⟩ (.int .i64 7)).setCell ⟨g + 1, 1, none⟩ (.int .u32 0)).setCell ⟨g + 1, 2, none⟩ (.int .i64 0)).setCell ⟨g + 1, 3, none⟩ (.int .i64 0)).setCell ⟨g + 1, 4, none⟩ (.int .u32 0)).setCell ⟨g + 1, 5, none⟩ (.int .u32 0)).cell? ⟨g + 1, 4, none⟩ = some (.int .u32 0) := hY.cell 4
          have z5 : ((((((w4.setCell ⟨g + 1, 0, none⟩ (.int .i64 7)).setCell ⟨g + 1, 1, none⟩ (.int .u32 0)).setCell ⟨g + 1, 2, none⟩ (.int .i64 0)).setCell ⟨g + 1, 3, none⟩ (.int .i64 0)).setCell ⟨g + 1, 4, none⟩ (.int .u32 0)).setCell ⟨g + 1, 5, none⟩ (.int .u32 0)).cell? ⟨g + 1, 5, none⟩ = some (.int .u32 0) := hY.cell 5
          refine bodyPost_ret (v := .agg #[.int .i64 7, .int .u32 0, .int .i64 0, .int .i64 0, .int .u32 0, .int .u32 0]) (by simp [results, Tryz.results58, go_sem, z0, z1, z2, z3, z4, z5]) rfl ?_
          exact post_same H.out (by rw [HE.out]; rfl) (by rw [HE.out]) (bel6 hg (HBr.out _ HB4.out))
        · have k2 : (qt == at1) = false := bne_of e2
          clear e1 e2 hne
          go_upto_region 7 with fail
          clear x2 x3 x4 v0 v1 v2 k1 k2
          have y0 : w4.cell? ⟨g + 1, 0, none⟩ = some (.int .i64 0) := (HY.out.next HB4.out).cell 0
          have f0 : w4.frozen? ⟨g + 1, 0, none⟩ = false := (HY.out.next HB4.out).free 0
          have y1 : w4.cell? ⟨g + 1, 1, none⟩ = some (.int .u32 0) := (HY.out.next HB4.out).cell 1
          have f1 : w4.frozen? ⟨g + 1, 1, none⟩ = false := (HY.out.next HB4.out).free 1
          have y2 : w4.cell? ⟨g + 1, 2, none⟩ = some (.int .i64 0) := (HY.out.next HB4.out).cell 2
          have f2 : w4.frozen? ⟨g + 1, 2, none⟩ = false := (HY.out.next HB4.out).free 2
          have y3 : w4.cell? ⟨g + 1, 3, none⟩ = some (.int .i64 0) := (HY.out.next HB4.out).cell 3
          have f3 : w4.frozen? ⟨g + 1, 3, none⟩ = false := (HY.out.next HB4.out).free 3
          have y4 : w4.cell? ⟨g + 1, 4, none⟩ = some (.int .u32 0) := (HY.out.next HB4.out).cell 4
          have f4 : w4.frozen? ⟨g + 1, 4, none⟩ = false := (HY.out.next HB4.out).free 4
          have y5 : w4.cell? ⟨g + 1, 5, none⟩ = some (.int .u32 0) := (HY.out.next HB4.out).cell 5
          have f5 : w4.frozen? ⟨g + 1, 5, none⟩ = false := (HY.out.next HB4.out).free 5
          go_wp2_with fail
          have hY := set6 (HY.out.next HB4.out) (.int .i64 7) (.int .u32 0) (.int .i64 0) (.int .i64 0) (.int .u32 0) (.int .u32 0)
          have z0 : ((((((w4.setCell ⟨g + 1, 0, none⟩ (.int .i64 7)).setCell ⟨g + 1, 1, none⟩ (.int .u32 0)).setCell ⟨g + 1, 2, none⟩ (.int .i64 0)).setCell ⟨g + 1, 3, none⟩ (.int .i64 0)).setCell ⟨g + 1, 4, none⟩ (.int .u32 0)).setCell ⟨g + 1, 5, none⟩ (.int .u32 0)).cell? ⟨g + 1, 0, none⟩ = some (.int .i64 7) := hY.cell 0
          have z1 : ((((((w4.setCell ⟨g + 1, 0, none⟩ (.int .i64 7)).setCell ⟨g + 1, 1, none⟩ (.int .u32 0)).setCell ⟨g + 1, 2, none⟩ (.int .i64 0)).setCell ⟨g + 1, 3, none⟩ (.int .i64 0)).setCell ⟨g + 1, 4, none⟩ (.int .u32 0)).setCell ⟨g + 1, 5, none⟩ (.int .u32 0)).cell? ⟨g + 1, 1, none⟩ = some (.int .u32 0) := hY.cell 1
          have z2 : ((((((w4.setCell ⟨g + 1, 0, none⟩ (.int .i64 7)).setCell ⟨g + 1, 1, none⟩ (.int .u32 0)).setCell ⟨g + 1, 2, none⟩ (.int .i64 0)).setCell ⟨g + 1, 3, none⟩ (.int .i64 0)).setCell ⟨g + 1, 4, none⟩ (.int .u32 0)).setCell ⟨g + 1, 5, none⟩ (.int .u32 0)).cell? ⟨g + 1, 2, none⟩ = some (.int .i64 0) := hY.cell 2
          have z3 : ((((((w4.setCell ⟨g + 1, 0, none⟩ (.int .i64 7)).setCell ⟨g + 1, 1, none⟩ (.int .u32 0)).setCell ⟨g + 1, 2, none⟩ (.int .i64 0)).setCell ⟨g + 1, 3, none⟩ (.int .i64 0)).setCell ⟨g + 1, 4, none⟩ (.int .u32 0)).setCell ⟨g + 1, 5, none⟩ (.int .u32 0)).cell? ⟨g + 1, 3, none⟩ = some (.int .i64 0) := hY.cell 3
          have z4 : ((((((w4.setCell ⟨g + 1, 0, none⟩ (.int .i64 7)).setCell ⟨g + 1, 1, none⟩ (.int .u32 0)).setCell ⟨g + 1, 2, none⟩ (.int .i64 0)).setCell ⟨g + 1, 3, none⟩ (.int .i64 0)).setCell ⟨g + 1, 4, none⟩ (.int .u32 0)).setCell ⟨g + 1, 5, none⟩ (.int .u32 0)).cell? ⟨g + 1, 4, none⟩ = some (.int .u32 0) := hY.cell 4
          have z5 : ((((((w4.setCell ⟨g + 1, 0, none⟩ (.int .i64 7)).setCell ⟨g + 1, 1, none⟩ (.int .u32 0)).setCell ⟨g + 1, 2, none⟩ (.int .i64 0)).setCell ⟨g + 1, 3, none⟩ (.int .i64 0)).setCell ⟨g + 1, 4, none⟩ (.int .u32 0)).setCell ⟨g + 1, 5, none⟩ (.int .u32 0)).cell? ⟨g + 1, 5, none⟩ = some (.int .u32 0) := hY.cell 5
          refine bodyPost_ret (v := .agg #[.int .i64 7, .int .u32 0, .int .i64 0, .int .i64 0, .int .u32 0, .int .u32 0]) (by simp [results, Tryz.results58, go_sem, z0, z1, z2, z3, z4, z5]) rfl ?_
          exact post_same H.out (by rw [HE.out]; rfl) (by rw [HE.out]) (bel6 hg (HBr.out _ HB4.out))
      · have k1 : (qw == aw) = false := bne_of e1
        clear e1 hne
        go_upto_region 7 with fail
        clear x2 x3 x4 v0 v1 v2 k1
        have y0 : w4.cell? ⟨g + 1, 0, none⟩ = some (.int .i64 0) := (HY.out.next HB4.out).cell 0
        have f0 : w4.frozen? ⟨g + 1, 0, none⟩ = false := (HY.out.next HB4.out).free 0
        have y1 : w4.cell? ⟨g + 1, 1, none⟩ = some (.int .u32 0) := (HY.out.next HB4.out).cell 1
        have f1 : w4.frozen? ⟨g + 1, 1, none⟩ = false := (HY.out.next HB4.out).free 1
        have y2 : w4.cell? ⟨g + 1, 2, none⟩ = some (.int .i64 0) := (HY.out.next HB4.out).cell 2
        have f2 : w4.frozen? ⟨g + 1, 2, none⟩ = false := (HY.out.next HB4.out).free 2
        have y3 : w4.cell? ⟨g + 1, 3, none⟩ = some (.int .i64 0) := (HY.out.next HB4.out).cell 3
        have f3 : w4.frozen? ⟨g + 1, 3, none⟩ = false := (HY.out.next HB4.out).free 3
        have y4 : w4.cell? ⟨g + 1, 4, none⟩ = some (.int .u32 0) := (HY.out.next HB4.out).cell 4
        have f4 : w4.frozen? ⟨g + 1, 4, none⟩ = false := (HY.out.next HB4.out).free 4
        have y5 : w4.cell? ⟨g + 1, 5, none⟩ = some (.int .u32 0) := (HY.out.next HB4.out).cell 5
        have f5 : w4.frozen? ⟨g + 1, 5, none⟩ = false := (HY.out.next HB4.out).free 5
        go_wp2_with fail
        have hY := set6 (HY.out.next HB4.out) (.int .i64 7) (.int .u32 0) (.int .i64 0) (.int .i64 0) (.int .u32 0) (.int .u32 0)
        have z0 : ((((((w4.setCell ⟨g + 1, 0, none⟩ (.int .i64 7)).setCell ⟨g + 1, 1, none⟩ (.int .u32 0)).setCell ⟨g + 1, 2, none⟩ (.int .i64 0)).setCell ⟨g + 1, 3, none⟩ (.int .i64 0)).setCell ⟨g + 1, 4, none⟩ (.int .u32 0)).setCell ⟨g + 1, 5, none⟩ (.int .u32 0)).cell? ⟨g + 1, 0, none⟩ = some (.int .i64 7) := hY.cell 0
        have z1 : ((((((w4.setCell ⟨g + 1, 0, none⟩ (.int .i64 7)).setCell ⟨g + 1, 1, none⟩ (.int .u32 0)).setCell ⟨g + 1, 2, none⟩ (.int .i64 0)).setCell ⟨g + 1, 3, none⟩ (.int .i64 0)).setCell ⟨g + 1, 4, none⟩ (.int .u32 0)).setCell ⟨g + 1, 5, none⟩ (.int .u32 0)).cell? ⟨g + 1, 1, none⟩ = some (.int .u32 0) := hY.cell 1
        have z2 : ((((((w4.setCell ⟨g + 1, 0, none⟩ (.int .i64 7)).setCell ⟨g + 1, 1, none⟩ (.int .u32 0)).setCell ⟨g + 1, 2, none⟩ (.int .i64 0)).setCell ⟨g + 1, 3, none⟩ (.int .i64 0)).setCell ⟨g + 1, 4, none⟩ (.int .u32 0)).setCell ⟨g + 1, 5, none⟩ (.int .u32 0)).cell? ⟨g + 1, 2, none⟩ = some (.int .i64 0) := hY.cell 2
        have z3 : ((((((w4.setCell ⟨g + 1, 0, none⟩ (.int .i64 7)).setCell ⟨g + 1, 1, none⟩ (.int .u32 0)).setCell ⟨g + 1, 2, none⟩ (.int .i64 0)).setCell ⟨g + 1, 3, none⟩ (.int .i64 0)).setCell ⟨g + 1, 4, none⟩ (.int .u32 0)).setCell ⟨g + 1, 5, none⟩ (.int .u32 0)).cell? ⟨g + 1, 3, none⟩ = some (.int .i64 0) := hY.cell 3
        have z4 : ((((((w4.setCell ⟨g + 1, 0, none⟩ (.int .i64 7)).setCell ⟨g + 1, 1, none⟩ (.int .u32 0)).setCell ⟨g + 1, 2, none⟩ (.int .i64 0)).setCell ⟨g + 1, 3, none⟩ (.int .i64 0)).setCell ⟨g + 1, 4, none⟩ (.int .u32 0)).setCell ⟨g + 1, 5, none⟩ (.int .u32 0)).cell? ⟨g + 1, 4, none⟩ = some (.int .u32 0) := hY.cell 4
        have z5 : ((((((w4.setCell ⟨g + 1, 0, none⟩ (.int .i64 7)).setCell ⟨g + 1, 1, none⟩ (.int .u32 0)).setCell ⟨g + 1, 2, none⟩ (.int .i64 0)).setCell ⟨g + 1, 3, none⟩ (.int .i64 0)).setCell ⟨g + 1, 4, none⟩ (.int .u32 0)).setCell ⟨g + 1, 5, none⟩ (.int .u32 0)).cell? ⟨g + 1, 5, none⟩ = some (.int .u32 0) := hY.cell 5
        refine bodyPost_ret (v := .agg #[.int .i64 7, .int .u32 0, .int .i64 0, .int .i64 0, .int .u32 0, .int .u32 0]) (by simp [results, Tryz.results58, go_sem, z0, z1, z2, z3, z4, z5]) rfl ?_
        exact post_same H.out (by rw [HE.out]; rfl) (by rw [HE.out]) (bel6 hg (HBr.out _ HB4.out))
    have HE : Hid (pinC C ⟨kd, dd, ⟨aw, at1, am⟩, ys, tk, nn, id, ws⟩ = (⟨0, 0, 0, ⟨aw, at1, am⟩⟩, { C with pins := (C.pins.filter fun p => decide (p.id ≠ id)) ++ [⟨id, ⟨aw, at1, am⟩, lasts C ⟨kd, dd, ⟨aw, at1, am⟩, ys, tk, nn, id, ws⟩⟩] })) := Lib.hid (by
      rw [HE2.out, if_neg (fun e => hb ((found_any (m := ⟨kd, dd, ⟨aw, at1, am⟩, ys, tk, nn, id, ws⟩) H.out.inv HF.out).1 e))])
    clear HE2
    go_cut [53] (fun b wd => b = .bool false ∧ wd = w4)
    case first =>
      by_cases ho : ok = true
      · have hat : (⟨qw, qt, qm⟩ : Tm) = ⟨aw, at1, am⟩ := Classical.byContradiction fun e => hb ⟨ho, e⟩
        injection hat with e1 e2 e3
        have k1 : (qw == aw) = true := by simp [e1]
        have k2 : (qt == at1) = true := by simp [e2]
        have k3 : (qm == am) = true := by simp [e3]
        subst ho
        clear hb e1 e2 e3
        go_wp2_with fail
        go_meet
        case rel => exact ⟨rfl, rfl⟩
      · have hof : ok = false := by cases ok with | true => exact absurd rfl ho | false => rfl
        subst hof
        clear hb ho
        go_wp2_with fail
        go_meet
        case rel => exact ⟨rfl, rfl⟩
    case rest =>
      obtain ⟨rfl, rfl⟩ := hcut
      clear hb v0 v1 v2 x2 x3 x4
      try (obtain ⟨w4, rfl⟩ : ∃ w4, w4 = wc := ⟨_, rfl⟩)
      have hpg : p.pm ≠ g + 1 := fun e => by have := H.out.lt _ H.out.Fp; omega
      have hpg0 : p.pm ≠ g := fun e => by have := H.out.lt _ H.out.Fp; omega
      have Hi : Hid (CInv ({ C with pins := (C.pins.filter fun p => decide (p.id ≠ id)) ++ [⟨id, ⟨aw, at1, am⟩, lasts C ⟨kd, dd, ⟨aw, at1, am⟩, ys, tk, nn, id, ws⟩⟩] } : Cl)) := Lib.hid (by have := hi; rw [HE.out] at this; exact this)
      clear hi
      have H4d := Lib.hid (H4.out.next (bel_drew (bel_refl w4)))
      have hxs : ∃ w8, (Instr.mapUpdate 137 (.map (some p.pm)) (.int .i64 id) (pval ⟨id, ⟨aw, at1, am⟩, lasts C ⟨kd, dd, ⟨aw, at1, am⟩, ys, tk, nn, id, ws⟩⟩)).run Tryz.prog w4.drew = .ok () w8 ∧ PinsAt w8 p.pm ((C.pins.filter fun p => decide (p.id ≠ id)) ++ [⟨id, ⟨aw, at1, am⟩, lasts C ⟨kd, dd, ⟨aw, at1, am⟩, ys, tk, nn, id, ws⟩⟩]) (upd p.fp (litP id) (pval ⟨id, ⟨aw, at1, am⟩, lasts C ⟨kd, dd, ⟨aw, at1, am⟩, ys, tk, nn, id, ws⟩⟩)) ∧ w4.drew.grownBy w8 (some p.pm) := by
        obtain ⟨w8, hr8, hm8, hg8⟩ := H4d.out.pins.map.put key3 Tryz.underlying137 (by have := HPl.out; simp only [maxLen]; omega) (pval ⟨id, ⟨aw, at1, am⟩, lasts C ⟨kd, dd, ⟨aw, at1, am⟩, ys, tk, nn, id, ws⟩⟩) (keyOf3 hidr) trivial
        exact ⟨w8, hr8, PinsAt.put H.out.inv H4d.out.pins (m := ⟨kd, dd, ⟨aw, at1, am⟩, ys, tk, nn, id, ws⟩) HF.out (r := ⟨id, ⟨aw, at1, am⟩, lasts C ⟨kd, dd, ⟨aw, at1, am⟩, ys, tk, nn, id, ws⟩⟩) rfl hm8 rfl HL.out, hg8⟩
      obtain ⟨w8, hr8, hm8, hg8⟩ := hxs
      have HP8 := Lib.hid hm8
      have HT8 : Hid (Turn (fun x => x = p.pm) w w8) := Lib.hid ((Turn.of (bel_drew (HBr.out _ HB4.out))).trans (Turn.grown (F := fun x => x = p.pm) hg8 (fun b e => by injection e with e; exact e.symm)) (fun x hx => .inl hx))
      have HX8 := Lib.hid ((HX4.out.next (bel_drew (bel_refl w4))).grown hg8 (fun e => hpg0 (by injection e)))
      have HY8 := Lib.hid (((HY.out.next HB4.out).next (bel_drew (bel_refl w4))).grown hg8 (fun e => hpg (by injection e)))
      have hmx : lasts C ⟨kd, dd, ⟨aw, at1, am⟩, ys, tk, nn, id, ws⟩ = max qu (C.ticks + nn) := found_lasts (m := ⟨kd, dd, ⟨aw, at1, am⟩, ys, tk, nn, id, ws⟩) H.out.inv HF.out
      clear hm8 hg8
      unfold pval at hr8
      simp only at hr8
      have hw : IntKind.i64.wrap (C.ticks + nn) = C.ticks + nn := by have := HTk.out; have := HN.out; rw [IntKind.wrap_i64]; omega
      have v3 : w4.cell? ⟨g5, 3, none⟩ = some (.int .i64 qu) := HQ4.out.cell 3
      have c12 : w4.cell? ⟨c, 12, none⟩ = some (.map (some p.pm)) := H4.out.blk.cell 12
      have c13 : w4.cell? ⟨c, 13, none⟩ = some (.int .i64 C.ticks) := H4.out.blk.cell 13
      have hcl : c < w4.heap.size := H4.out.blk.lt
      have hgl : g < w4.heap.size := HX4.out.lt
      have x2 : w4.cell? ⟨g, 2, none⟩ = some (.int .i64 aw) := HX4.out.cell 2
      have x3 : w4.cell? ⟨g, 3, none⟩ = some (.int .u32 at1) := HX4.out.cell 3
      have x4 : w4.cell? ⟨g, 4, none⟩ = some (.int .u32 am) := HX4.out.cell 4
      have x7 : w4.cell? ⟨g, 7, none⟩ = some (.int .i64 nn) := HX4.out.cell 7
      have x8 : w4.cell? ⟨g, 8, none⟩ = some (.int .i64 id) := HX4.out.cell 8
      rw [hmx] at hr8
      go_upto_region 8 with fail
      go_region
      clear x2 x3 x4 x7 x8 v3 c12 c13 hr8 hw hgl hcl hmx
      have x2 : w8.cell? ⟨g, 2, none⟩ = some (.int .i64 aw) := HX8.out.cell 2
      have x3 : w8.cell? ⟨g, 3, none⟩ = some (.int .u32 at1) := HX8.out.cell 3
      have x4 : w8.cell? ⟨g, 4, none⟩ = some (.int .u32 am) := HX8.out.cell 4
      have y0 : w8.cell? ⟨g + 1, 0, none⟩ = some (.int .i64 0) := HY8.out.cell 0
      have f0 : w8.frozen? ⟨g + 1, 0, none⟩ = false := HY8.out.free 0
      have y1 : w8.cell? ⟨g + 1, 1, none⟩ = some (.int .u32 0) := HY8.out.cell 1
      have f1 : w8.frozen? ⟨g + 1, 1, none⟩ = false := HY8.out.free 1
      have y2 : w8.cell? ⟨g + 1, 2, none⟩ = some (.int .i64 0) := HY8.out.cell 2
      have f2 : w8.frozen? ⟨g + 1, 2, none⟩ = false := HY8.out.free 2
      have y3 : w8.cell? ⟨g + 1, 3, none⟩ = some (.int .i64 0) := HY8.out.cell 3
      have f3 : w8.frozen? ⟨g + 1, 3, none⟩ = false := HY8.out.free 3
      have y4 : w8.cell? ⟨g + 1, 4, none⟩ = some (.int .u32 0) := HY8.out.cell 4
      have f4 : w8.frozen? ⟨g + 1, 4, none⟩ = false := HY8.out.free 4
      have y5 : w8.cell? ⟨g + 1, 5, none⟩ = some (.int .u32 0) := HY8.out.cell 5
      have f5 : w8.frozen? ⟨g + 1, 5, none⟩ = false := HY8.out.free 5
      go_wp2_with fail
      have hY := set6 HY8.out (.int .i64 0) (.int .u32 0) (.int .i64 0) (.int .i64 aw) (.int .u32 at1) (.int .u32 am)
      have z0 : ((((((w8.setCell ⟨g + 1, 0, none⟩ (.int .i64 0)).setCell ⟨g + 1, 1, none⟩ (.int .u32 0)).setCell ⟨g + 1, 2, none⟩ (.int .i64 0)).setCell ⟨g + 1, 3, none⟩ (.int .i64 aw)).setCell ⟨g + 1, 4, none⟩ (.int .u32 at1)).setCell ⟨g + 1, 5, none⟩ (.int .u32 am)).cell? ⟨g + 1, 0, none⟩ = some (.int .i64 0) := hY.cell 0
      have z1 : ((((((w8.setCell ⟨g + 1, 0, none⟩ (.int .i64 0)).setCell ⟨g + 1, 1, none⟩ (.int .u32 0)).setCell ⟨g + 1, 2, none⟩ (.int .i64 0)).setCell ⟨g + 1, 3, none⟩ (.int .i64 aw)).setCell ⟨g + 1, 4, none⟩ (.int .u32 at1)).setCell ⟨g + 1, 5, none⟩ (.int .u32 am)).cell? ⟨g + 1, 1, none⟩ = some (.int .u32 0) := hY.cell 1
      have z2 : ((((((w8.setCell ⟨g + 1, 0, none⟩ (.int .i64 0)).setCell ⟨g + 1, 1, none⟩ (.int .u32 0)).setCell ⟨g + 1, 2, none⟩ (.int .i64 0)).setCell ⟨g + 1, 3, none⟩ (.int .i64 aw)).setCell ⟨g + 1, 4, none⟩ (.int .u32 at1)).setCell ⟨g + 1, 5, none⟩ (.int .u32 am)).cell? ⟨g + 1, 2, none⟩ = some (.int .i64 0) := hY.cell 2
      have z3 : ((((((w8.setCell ⟨g + 1, 0, none⟩ (.int .i64 0)).setCell ⟨g + 1, 1, none⟩ (.int .u32 0)).setCell ⟨g + 1, 2, none⟩ (.int .i64 0)).setCell ⟨g + 1, 3, none⟩ (.int .i64 aw)).setCell ⟨g + 1, 4, none⟩ (.int .u32 at1)).setCell ⟨g + 1, 5, none⟩ (.int .u32 am)).cell? ⟨g + 1, 3, none⟩ = some (.int .i64 aw) := hY.cell 3
      have z4 : ((((((w8.setCell ⟨g + 1, 0, none⟩ (.int .i64 0)).setCell ⟨g + 1, 1, none⟩ (.int .u32 0)).setCell ⟨g + 1, 2, none⟩ (.int .i64 0)).setCell ⟨g + 1, 3, none⟩ (.int .i64 aw)).setCell ⟨g + 1, 4, none⟩ (.int .u32 at1)).setCell ⟨g + 1, 5, none⟩ (.int .u32 am)).cell? ⟨g + 1, 4, none⟩ = some (.int .u32 at1) := hY.cell 4
      have z5 : ((((((w8.setCell ⟨g + 1, 0, none⟩ (.int .i64 0)).setCell ⟨g + 1, 1, none⟩ (.int .u32 0)).setCell ⟨g + 1, 2, none⟩ (.int .i64 0)).setCell ⟨g + 1, 3, none⟩ (.int .i64 aw)).setCell ⟨g + 1, 4, none⟩ (.int .u32 at1)).setCell ⟨g + 1, 5, none⟩ (.int .u32 am)).cell? ⟨g + 1, 5, none⟩ = some (.int .u32 am) := hY.cell 5
      refine bodyPost_ret (v := .agg #[.int .i64 0, .int .u32 0, .int .i64 0, .int .i64 aw, .int .u32 at1, .int .u32 am]) (by simp [results, Tryz.results58, go_sem, z0, z1, z2, z3, z4, z5]) rfl ?_
      rw [HE.out]
      exact post_pins H.out rfl (turn6 (Nat.le_of_eq hg) HT8.out) (HP8.out.keep (own6 w8 g) hpg) rfl rfl rfl rfl Hi.out
end Go.Proofs.YtbaflgddpciadaaGreat
