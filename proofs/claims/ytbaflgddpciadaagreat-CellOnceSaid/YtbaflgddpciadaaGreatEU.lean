/- CellOnce (5). -/
import Derived.Test.YtbaflgddpciadaaGreatPW
import Derived.Test.YtbaflgddpciadaaGreatEQ
set_option linter.unusedVariables false
set_option linter.unusedSimpArgs false
namespace Go.Proofs.YtbaflgddpciadaaGreat
open Go.RowKit Go.Kt Go.Ix Go.Sx Go.Cx
set_option maxRecDepth 100000
variable {S : Nat → Prop} {w wr w' : World} {c N : Nat} {C C' : Cl} {ft ff fp : Lit → Option Value}
/-- what the law has noted, in its maps -/
structure NoteM (C : Cl) (ft ff fp : Lit → Option Value) : Prop where
  token : ∀ k v, ft k = some v → ∃ x ∈ C.book, k = kl x.token ∧ v = .int .u32 x.deed
  fate : ∀ k v, ff k = some v → ∃ x ∈ C.book, k = litD x.deed ∧ v = replyV x.told ∧ x.state ≠ 1
  part : ∀ k v, fp k = some v → ∃ x ∈ C.deeds, k = litD x.id ∧ v = replyV x.told ∧ x.state ≠ 1
theorem NoteM.keep (h : NoteM C ft ff fp) (hk : Keeps C C') : NoteM C' ft ff fp :=
  ⟨fun k v e => by obtain ⟨x, hx, h1, h2⟩ := h.token k v e; obtain ⟨y, hy, h3, h4⟩ := hk.2.1 x hx; exact ⟨y, hy, by rw [h1, h3], by rw [h2, h4]⟩,
   fun k v e => by obtain ⟨x, hx, h1, h2, h3⟩ := h.fate k v e; exact ⟨x, hk.1 x hx h3, h1, h2, h3⟩,
   fun k v e => by obtain ⟨x, hx, h1, h2, h3⟩ := h.part k v e; exact ⟨x, hk.2.2 x hx h3, h1, h2, h3⟩⟩

theorem NoteM.tok (h : NoteM C ft ff fp) (hc : CInv C) {x : En} (hx : x ∈ C.book) {v : Value} (e : ft (kl x.token) = some v) : v = .int .u32 x.deed := by
  obtain ⟨y, hy, h1, h2⟩ := h.token _ _ e
  rw [h2, token_inj hc hy hx (kl_inj h1).symm]
theorem NoteM.fat (h : NoteM C ft ff fp) (hc : CInv C) {x : En} (hx : x ∈ C.book) {v : Value} (e : ff (litD x.deed) = some v) : v = replyV x.told := by
  obtain ⟨y, hy, h1, h2, -⟩ := h.fate _ _ e
  rw [h2, entry_inj hc hy hx (litD_inj h1).symm]
theorem NoteM.par (h : NoteM C ft ff fp) (hc : CInv C) {x : Dd} (hx : x ∈ C.deeds) {v : Value} (e : fp (litD x.id) = some v) : v = replyV x.told := by
  obtain ⟨y, hy, h1, h2, -⟩ := h.part _ _ e
  rw [h2, rise_same hc.rise hy hx (litD_inj h1).symm]
theorem NoteM.putT (h : NoteM C ft ff fp) {x : En} (hx : x ∈ C.book) : NoteM C (upd ft (kl x.token) (.int .u32 x.deed)) ff fp :=
  ⟨fun k v e => by
    unfold upd at e
    split at e
    · rename_i hk; injection e with e; exact ⟨x, hx, hk, e.symm⟩
    · exact h.token k v e, h.fate, h.part⟩
theorem NoteM.putF (h : NoteM C ft ff fp) {x : En} (hx : x ∈ C.book) (hs : x.state ≠ 1) : NoteM C ft (upd ff (litD x.deed) (replyV x.told)) fp :=
  ⟨h.token, fun k v e => by
    unfold upd at e
    split at e
    · rename_i hk; injection e with e; exact ⟨x, hx, hk, e.symm, hs⟩
    · exact h.fate k v e, h.part⟩
theorem NoteM.putP (h : NoteM C ft ff fp) {x : Dd} (hx : x ∈ C.deeds) (hs : x.state ≠ 1) : NoteM C ft ff (upd fp (litD x.id) (replyV x.told)) :=
  ⟨h.token, h.fate, fun k v e => by
    unfold upd at e
    split at e
    · rename_i hk; injection e with e; exact ⟨x, hx, hk, e.symm, hs⟩
    · exact h.part k v e⟩
/-- between two commands: the cell, the three maps -/
structure Ro (w wr : World) (S : Nat → Prop) (c : Nat) (C : Cl) (k q tb fb pb : Nat) (ft ff fp : Lit → Option Value) : Prop where
  rn : Rn w wr S c C k
  mt : ∃ n, n ≤ q ∧ MapIs Tryz.prog 9 wr tb ft n
  mf : ∃ n, n ≤ q ∧ MapIs Tryz.prog 24 wr fb ff n
  mp : ∃ n, n ≤ q ∧ MapIs Tryz.prog 24 wr pb fp n
  far : ¬ S tb ∧ ¬ S fb ∧ ¬ S pb
  ge : w.heap.size ≤ tb ∧ w.heap.size ≤ fb ∧ w.heap.size ≤ pb
  ne : tb ≠ fb ∧ tb ≠ pb ∧ fb ≠ pb
  note : NoteM C ft ff fp
variable {k q tb fb pb : Nat}
theorem Ro.next (h : Ro w wr S c C k q tb fb pb ft ff fp) (hb : Below wr.heap.size wr w') : Ro w w' S c C k q tb fb pb ft ff fp :=
  ⟨h.rn.next hb, by obtain ⟨n, h1, h2⟩ := h.mt; exact ⟨n, h1, h2.below hb⟩, by obtain ⟨n, h1, h2⟩ := h.mf; exact ⟨n, h1, h2.below hb⟩, by obtain ⟨n, h1, h2⟩ := h.mp; exact ⟨n, h1, h2.below hb⟩, h.far, h.ge, h.ne, h.note⟩
theorem Ro.done {W W' : World} {S' : Nat → Prop} (h : Ro w wr S c C k q tb fb pb ft ff fp) (hb : Below wr.heap.size wr W) {m : Cmd} (hc : Cel S' W' c (doC C m).2 (64 * k + 64)) (hS : ∀ x, S' x → S x ∨ W.heap.size ≤ x) (ht : Turn S W W') : Ro w W' S' c (doC C m).2 (k + 1) q tb fb pb ft ff fp := by
  have hW := h.next hb
  obtain ⟨n1, a1, b1⟩ := hW.mt
  obtain ⟨n2, a2, b2⟩ := hW.mf
  obtain ⟨n3, a3, b3⟩ := hW.mp
  have l1 := b1.lt
  have l2 := b2.lt
  have l3 := b3.lt
  refine ⟨h.rn.done hb hc hS ht, ⟨n1, a1, map_keep ht b1 h.far.1⟩, ⟨n2, a2, map_keep ht b2 h.far.2.1⟩, ⟨n3, a3, map_keep ht b3 h.far.2.2⟩, ⟨fun e => ?_, fun e => ?_, fun e => ?_⟩, h.ge, h.ne, h.note.keep (do_keeps h.rn.cel.inv m).1⟩
  all_goals
    rcases hS _ e with h1 | h1
    · first | exact h.far.1 h1 | exact h.far.2.1 h1 | exact h.far.2.2 h1
    · omega
theorem Rn.own (h : Rn w wr S c C k) {b : Nat} (hb : w.heap.size ≤ b) (hn : ¬ S b) (hg : wr.grownBy w' (some b)) : Rn w w' S c C k :=
  ⟨h.cel.keep (Turn.grown (F := fun x => x = b) hg (fun c e => by injection e with e; exact e.symm)) (fun x e hs => hn (e ▸ hs)), h.ticks, h.ge, h.bel.grown hg h.bel.size (fun c e => by injection e with e; omega)⟩
theorem Ro.putT (h : Ro w wr S c C (k + 1) q tb fb pb ft ff fp) {x : En} (hx : x ∈ C.book) {f' : Lit → Option Value} (hm : ∃ n, n ≤ q + 1 ∧ MapIs Tryz.prog 9 w' tb (upd ft (kl x.token) (.int .u32 x.deed)) n) (hg : wr.grownBy w' (some tb)) :
    Ro w w' S c C (k + 1) (q + 1) tb fb pb (upd ft (kl x.token) (.int .u32 x.deed)) ff fp :=
  ⟨h.rn.own h.ge.1 h.far.1 hg, hm, by obtain ⟨n, h1, h2⟩ := h.mf; exact ⟨n, Nat.le_succ_of_le h1, h2.grown hg (fun e => by injection e with e; exact h.ne.1 e.symm)⟩, by obtain ⟨n, h1, h2⟩ := h.mp; exact ⟨n, Nat.le_succ_of_le h1, h2.grown hg (fun e => by injection e with e; exact h.ne.2.1 e.symm)⟩, h.far, h.ge, h.ne, h.note.putT hx⟩
theorem Ro.putF (h : Ro w wr S c C (k + 1) q tb fb pb ft ff fp) {x : En} (hx : x ∈ C.book) (hs : x.state ≠ 1) (hm : ∃ n, n ≤ q + 1 ∧ MapIs Tryz.prog 24 w' fb (upd ff (litD x.deed) (replyV x.told)) n) (hg : wr.grownBy w' (some fb)) :
    Ro w w' S c C (k + 1) (q + 1) tb fb pb ft (upd ff (litD x.deed) (replyV x.told)) fp :=
  ⟨h.rn.own h.ge.2.1 h.far.2.1 hg, by obtain ⟨n, h1, h2⟩ := h.mt; exact ⟨n, Nat.le_succ_of_le h1, h2.grown hg (fun e => by injection e with e; exact h.ne.1 e)⟩, hm, by obtain ⟨n, h1, h2⟩ := h.mp; exact ⟨n, Nat.le_succ_of_le h1, h2.grown hg (fun e => by injection e with e; exact h.ne.2.2 e.symm)⟩, h.far, h.ge, h.ne, h.note.putF hx hs⟩
theorem Ro.putP (h : Ro w wr S c C (k + 1) q tb fb pb ft ff fp) {x : Dd} (hx : x ∈ C.deeds) (hs : x.state ≠ 1) (hm : ∃ n, n ≤ q + 1 ∧ MapIs Tryz.prog 24 w' pb (upd fp (litD x.id) (replyV x.told)) n) (hg : wr.grownBy w' (some pb)) :
    Ro w w' S c C (k + 1) (q + 1) tb fb pb ft ff (upd fp (litD x.id) (replyV x.told)) :=
  ⟨h.rn.own h.ge.2.2 h.far.2.2 hg, by obtain ⟨n, h1, h2⟩ := h.mt; exact ⟨n, Nat.le_succ_of_le h1, h2.grown hg (fun e => by injection e with e; exact h.ne.2.1 e)⟩, by obtain ⟨n, h1, h2⟩ := h.mf; exact ⟨n, Nat.le_succ_of_le h1, h2.grown hg (fun e => by injection e with e; exact h.ne.2.2 e)⟩, hm, h.far, h.ge, h.ne, h.note.putP hx hs⟩
/-- a map put into: at most one entry more -/
theorem put_le {kt t e : TypeId} {b : Nat} {f : Lit → Option Value} (h : ∃ n, n ≤ q ∧ MapIs Tryz.prog kt wr b f n) (hk : q ≤ 200) (K : Maps.Keyed Tryz.prog kt) (ht : Tryz.prog.underlying t = some (.map kt e)) {key : Value} (val : Value) {kl : Lit} (hkey : keyOf Tryz.prog kt key = some kl) (hl : WideAt.IsKeyLit kl) :
    ∃ w', (Instr.mapUpdate t (.map (some b)) key val).run Tryz.prog wr = .ok () w' ∧ (∃ n, n ≤ q + 1 ∧ MapIs Tryz.prog kt w' b (upd f kl val) n) ∧ wr.grownBy w' (some b) := by
  obtain ⟨n, h1, h2⟩ := h
  obtain ⟨w', a, b', c⟩ := h2.put K ht (by simp only [maxLen]; omega) val hkey hl
  exact ⟨w', a, ⟨_, by split <;> omega, b'⟩, c⟩
theorem zero46 (w : World) : (zeroValue 46).run Tryz.prog w = .ok (.agg #[.int .i64 0, .int .u32 0, .int .i64 0, .int .i64 0, .int .u32 0, .int .u32 0]) w := by kernel_rfl
theorem zero24 (w : World) : (zeroValue 24).run Tryz.prog w = .ok (.int .u32 0) w := by kernel_rfl
theorem look_reply {b : Nat} {f : Lit → Option Value} {n d : Int} {r : Array Value} (h : ∃ m, m ≤ k ∧ MapIs Tryz.prog 24 wr b f m) (hn : 0 ≤ n ∧ n ≤ 4294967295) (hr : ∀ v, f (litD n) = some v → v = .agg r) :
    (Instr.lookup 77 (.map (some b)) (.int .u32 n) true).run Tryz.prog wr = .ok (.tuple #[.agg #[.int .i64 0, .int .u32 0, .int .i64 0, .int .i64 0, .int .u32 0, .int .u32 0], .bool false]) wr ∨ (Instr.lookup 77 (.map (some b)) (.int .u32 n) true).run Tryz.prog wr = .ok (.tuple #[.agg r, .bool true]) wr := by
  obtain ⟨m, -, h2⟩ := h
  have hl := h2.look key24 Tryz.underlying77 (zero46 wr) (keyOf24 hn)
  cases hf : f (litD n) with
  | none => rw [hf] at hl; exact .inl hl
  | some v => rw [hf] at hl; obtain rfl := hr v hf; exact .inr hl
theorem look_tok {b : Nat} {f : Lit → Option Value} {s : ByteArray} {d : Int} (h : ∃ m, m ≤ k ∧ MapIs Tryz.prog 9 wr b f m) (hs : s.size ≤ maxLen) (hr : ∀ v, f (kl s) = some v → v = .int .u32 d) :
    (Instr.lookup 76 (.map (some b)) (.string s) true).run Tryz.prog wr = .ok (.tuple #[.int .u32 0, .bool false]) wr ∨ (Instr.lookup 76 (.map (some b)) (.string s) true).run Tryz.prog wr = .ok (.tuple #[.int .u32 d, .bool true]) wr := by
  obtain ⟨m, -, h2⟩ := h
  have hl := h2.look key9 Tryz.underlying76 (zero24 wr) (keyOf9 s hs)
  cases hf : f (kl s) with
  | none => rw [hf] at hl; exact .inl hl
  | some v => rw [hf] at hl; obtain rfl := hr v hf; exact .inr hl
set_option maxHeartbeats 16000000 in
theorem once_any (v : Value) (L : List Cw) (w : World) (hv : RdC w v L) (hg : Glob w) : Calls Tryz.prog 5 #[v] w fun e w' => e = .returned (.bool true) ∧ Below w.heap.size w w' := by
  have hmm := @run_makeMap Tryz.prog
  obtain ⟨la, lc, rfl, hcap, hbig, hcell⟩ := hv.open
  have Hcell := Lib.hid hcell
  have HG := Lib.hid hg
  have HNw := Lib.hid (new_cel 3 ⟨by decide, by decide⟩ w)
  clear hcell hv hg
  go_enter Tryz.func5, Tryz.ntmps5
  go_upto_region 4 with (first
    | (go_at_call 14; refine HNw.out.mono ?_; rintro e w1 ⟨c, S0, rfl, hc, hS, hb⟩; have HC0 := Lib.hid hc; have HS0 := Lib.hid hS; have HB1 := Lib.hid hb; clear hc hS hb)
    | (go_at_call 15; refine (awake_any _ (HG.out.below HB1.out)).mono ?_; rintro e w2 ⟨rfl, hb2⟩; have HB2 := Lib.hid hb2; clear hb2)
    | fail)
  have HR0 : Hid (Rn w w2 S0 c (newC 3) 0) := Lib.hid ⟨HC0.out.next HB2.out, (by decide), HS0.out, bel_trans HB1.out HB2.out⟩
  go_upto_region 7 with fail
  have HR1 : Hid (Ro w (((w2.alloc (.map #[] 0)).alloc (.map #[] 0)).alloc (.map #[] 0)) S0 c (newC 3) 0 0 w2.heap.size (w2.heap.size + 1) (w2.heap.size + 1 + 1) (fun _ => none) (fun _ => none) (fun _ => none)) := Lib.hid (by
    have hb := (below_alloc w2 (.map #[] 0))
    have hb2 := bel_alloc (o := .map #[] 0) hb
    have hlt := HR0.out.cel.lt
    have hs := HR0.out.bel.size
    have m1 := (MapIs.made w2 Tryz.prog 9).below (below_alloc _ (.map #[] 0))
    have m2 := MapIs.made (w2.alloc (.map #[] 0)) Tryz.prog 24
    have m3 := MapIs.made ((w2.alloc (.map #[] 0)).alloc (.map #[] 0)) Tryz.prog 24
    simp only [World.size_alloc] at m2 m3
    exact ⟨HR0.out.next (bel_alloc hb2), ⟨0, Nat.le_refl _, m1.below (below_alloc _ _)⟩, ⟨0, Nat.le_refl _, m2.below (below_alloc _ _)⟩, ⟨0, Nat.le_refl _, m3⟩, ⟨fun e => by have := hlt _ e; omega, fun e => by have := hlt _ e; omega, fun e => by have := hlt _ e; omega⟩, ⟨hs, by omega, by omega⟩, ⟨by omega, by omega, by omega⟩, ⟨(fun _ _ e => by cases e), (fun _ _ e => by cases e), (fun _ _ e => by cases e)⟩⟩)

  generalize ((w2.alloc (.map #[] 0)).alloc (.map #[] 0)).alloc (.map #[] 0) = w3 at HR1 ⊢
  generalize w2.heap.size = tb at HR1 ⊢
  obtain ⟨fb, hfb⟩ : ∃ fb, tb + 1 = fb := ⟨_, rfl⟩
  obtain ⟨pb, hpb⟩ : ∃ pb, fb + 1 = pb := ⟨_, rfl⟩
  rw [hfb, hpb] at HR1
  rw [hfb, hpb]
  clear hfb hpb
  go_upto_region 8 with fail
  go_loopw [32] (fun iv wr => ∃ (k q : Nat) (S : Nat → Prop) (C : Cl) (ft ff fp : Lit → Option Value), k ≤ L.length ∧ iv = .int .i64 k ∧ k ≤ 60 ∧ q ≤ 2 * k ∧ Hid (Ro w wr S c C k q tb fb pb ft ff fp)) (fun iv _ => L.length - (intOf iv).toNat)
  case atStart => exact ⟨0, 0, _, _, _, _, _, by omega, rfl, by omega, by omega, HR1⟩
  case round =>
    clear HR0 HR1
    obtain ⟨k, q, S, C, ft, ff, fp, hk, rfl, hk60, hq, HRo⟩ := hrel
    have Hq := Lib.hid hq
    clear hq
    obtain ⟨wo, rfl⟩ : ∃ wo, wo = wr := ⟨_, rfl⟩
    have HR := Lib.hid HRo.out.rn
    by_cases hlt : k < L.length
    · obtain ⟨o, ho⟩ : ∃ o, L[k]? = some o := ⟨L[k], List.getElem?_eq_getElem hlt⟩
      obtain ⟨hcw, b, off, rfl, hbl, c0, c1, c2, c3, c4, c5, c6, c7, c8, c9⟩ := Hcell.out k o ho
      obtain ⟨ova, ovc, hov, -⟩ := hcw.rd.open
      have HCw := Lib.hid hcw
      obtain ⟨⟨kd, dd, ⟨aw, at1, am⟩, ys, tk, nn, id, ws⟩, ov, OT⟩ := o
      simp only at c0 c1 c2 c3 c4 c5 c6 c7 c8 c9 hov
      subst hov
      have d0 : wo.cell? ⟨b, off + k * 10, none⟩ = some (.int .i64 kd) := (HR.out.bel.cell (p := ⟨b, _, none⟩) hbl).trans c0
      have d1 : wo.cell? ⟨b, off + k * 10 + 1, none⟩ = some (.int .u32 dd) := (HR.out.bel.cell (p := ⟨b, _, none⟩) hbl).trans c1
      have d2 : wo.cell? ⟨b, off + k * 10 + 2, none⟩ = some (.int .i64 aw) := (HR.out.bel.cell (p := ⟨b, _, none⟩) hbl).trans c2
      have d3 : wo.cell? ⟨b, off + k * 10 + 3, none⟩ = some (.int .u32 at1) := (HR.out.bel.cell (p := ⟨b, _, none⟩) hbl).trans c3
      have d4 : wo.cell? ⟨b, off + k * 10 + 4, none⟩ = some (.int .u32 am) := (HR.out.bel.cell (p := ⟨b, _, none⟩) hbl).trans c4
      have d5 : wo.cell? ⟨b, off + k * 10 + 5, none⟩ = some (.bool ys) := (HR.out.bel.cell (p := ⟨b, _, none⟩) hbl).trans c5
      have d6 : wo.cell? ⟨b, off + k * 10 + 6, none⟩ = some (.string tk) := (HR.out.bel.cell (p := ⟨b, _, none⟩) hbl).trans c6
      have d7 : wo.cell? ⟨b, off + k * 10 + 7, none⟩ = some (.int .i64 nn) := (HR.out.bel.cell (p := ⟨b, _, none⟩) hbl).trans c7
      have d8 : wo.cell? ⟨b, off + k * 10 + 8, none⟩ = some (.int .i64 id) := (HR.out.bel.cell (p := ⟨b, _, none⟩) hbl).trans c8
      have d9 : wo.cell? ⟨b, off + k * 10 + 9, none⟩ = some (.slice ova OT.length ovc) := (HR.out.bel.cell (p := ⟨b, _, none⟩) hbl).trans c9
      have hk1 : (0 : Int) ≤ (k : Int) := by omega
      have hk2 : (k : Int) < (L.length : Int) := by omega
      have HX3 := Lib.hid (Blk.new wo #[.int .i64 kd, .int .u32 dd, .int .i64 aw, .int .u32 at1, .int .u32 am, .bool ys, .string tk, .int .i64 nn, .int .i64 id, .slice ova OT.length ovc] 42)
      have HBx3 := Lib.hid (below_alloc wo (.cells #[.int .i64 kd, .int .u32 dd, .int .i64 aw, .int .u32 at1, .int .u32 am, .bool ys, .string tk, .int .i64 nn, .int .i64 id, .slice ova OT.length ovc] 42))
      have Hlt := Lib.hid hlt
      have Hng : Hid (¬ S wo.heap.size) := Lib.hid (fun e => by have := HR.out.cel.lt _ e; omega)
      clear c0 c1 c2 c3 c4 c5 c6 c7 c8 c9 ho hcw
      go_upto_region 10 with fail
      clear d0 d1 d2 d3 d4 d5 d6 d7 d8 d9
      generalize wo.alloc (.cells #[.int .i64 kd, .int .u32 dd, .int .i64 aw, .int .u32 at1, .int .u32 am, .bool ys, .string tk, .int .i64 nn, .int .i64 id, .slice ova OT.length ovc] 42) = w3 at HX3 HBx3 ⊢
      generalize wo.heap.size = g7 at HX3 Hng ⊢
      have HR3 := Lib.hid (HR.out.next HBx3.out)
      by_cases h60 : 60 ≤ k
      · have e1 : decide ((60 : Int) ≤ (k : Int)) = true := by simp; omega
        clear h60
        go_wp2_with fail
        go_ret
        exact ⟨rfl, HR3.out.bel⟩
      have e1 : decide ((60 : Int) ≤ (k : Int)) = false := by simp; omega
      have H60 : Hid (k < 60) := Lib.hid (by omega)
      clear h60
      have x0 : w3.cell? ⟨g7, 0, none⟩ = some (.int .i64 kd) := HX3.out.cell 0
      have x1 : w3.cell? ⟨g7, 1, none⟩ = some (.int .u32 dd) := HX3.out.cell 1
      have x2 : w3.cell? ⟨g7, 2, none⟩ = some (.int .i64 aw) := HX3.out.cell 2
      have x3 : w3.cell? ⟨g7, 3, none⟩ = some (.int .u32 at1) := HX3.out.cell 3
      have x4 : w3.cell? ⟨g7, 4, none⟩ = some (.int .u32 am) := HX3.out.cell 4
      have x5 : w3.cell? ⟨g7, 5, none⟩ = some (.bool ys) := HX3.out.cell 5
      have x6 : w3.cell? ⟨g7, 6, none⟩ = some (.string tk) := HX3.out.cell 6
      have x7 : w3.cell? ⟨g7, 7, none⟩ = some (.int .i64 nn) := HX3.out.cell 7
      have x8 : w3.cell? ⟨g7, 8, none⟩ = some (.int .i64 id) := HX3.out.cell 8
      have x9 : w3.cell? ⟨g7, 9, none⟩ = some (.slice ova OT.length ovc) := HX3.out.cell 9
      have HLt := Lib.hid (fun W (hW : Below w3.heap.size w3 W) => light_any ⟨kd, dd, ⟨aw, at1, am⟩, ys, tk, nn, id, ws⟩ (.slice ova OT.length ovc) OT W (HCw.out.rd.below (bel_trans HR3.out.bel hW)))
      unfold cmdV at HLt
      simp only at HLt
      by_cases hl : LightW tk OT
      · have HL := Lib.hid hl
        clear hl
        have HR4o := Lib.hid (HRo.out.next HBx3.out)
        go_upto_region 11 with (first
          | (go_at_call 16; refine (HLt.out _ (bel_refl _)).mono ?_; rintro e w4 ⟨hs4, hb4⟩; obtain ⟨z, rfl, hz⟩ := says_out hs4; obtain rfl : z = true := hz.2 HL.out; have HB4 := Lib.hid hb4; clear hs4 hz hb4)
          | fail)
        clear x0 x1 x2 x3 x4 x5 x6 x7 x8 x9
        have HR8 := Lib.hid (HR3.out.next HB4.out)
        have HR8o := Lib.hid (HR4o.out.next HB4.out)
        have HTo := Lib.hid (fun W (hW : Below w4.heap.size w4 W) => tocmd_any ⟨kd, dd, ⟨aw, at1, am⟩, ys, tk, nn, id, ws⟩ (.slice ova OT.length ovc) OT W (HCw.out.rd.below (bel_trans (bel_trans HR3.out.bel HB4.out) hW)) (by have := HL.out.1; omega) (fun x hx => (HCw.out.wr x hx).len))
        unfold cmdV at HTo
        simp only at HTo
        obtain ⟨z, hz⟩ : ∃ z, doC C ⟨kd, dd, ⟨aw, at1, am⟩, ys, tk, nn, id, ws⟩ = z := ⟨_, rfl⟩
        have Hz := Lib.hid hz
        have HDo : Hid (∀ W v' Q, Below w4.heap.size w4 W → CmdR W ⟨kd, dd, ⟨aw, at1, am⟩, ys, tk, nn, id, ws⟩ v' Q → Calls Tryz.prog 17 #[.pointer (some ⟨c, 0, none⟩), cmdV ⟨kd, dd, ⟨aw, at1, am⟩, ys, tk, nn, id, ws⟩ v'] W fun e w' => e = .returned (replyV z.1) ∧ ∃ S', Cel S' w' c z.2 (64 * k + 64) ∧ (∀ x, S' x → S x ∨ W.heap.size ≤ x) ∧ Turn S W w') := Lib.hid (fun W v' Q hW hm => by
          have := do_any ⟨kd, dd, ⟨aw, at1, am⟩, ys, tk, nn, id, ws⟩ v' Q W (HR8.out.cel.next hW) hm (by have := H60.out; omega) (by have := HR8.out.ticks; have := H60.out; omega) HCw.out.id
          rw [hz] at this
          exact this)
        obtain ⟨⟨ze, zd, zs, ⟨zw, zt, zm⟩⟩, C2⟩ := z
        unfold cmdV replyV replyA at HDo
        simp only at HDo
        clear hz
        have x0 : w4.cell? ⟨g7, 0, none⟩ = some (.int .i64 kd) := (HX3.out.next HB4.out).cell 0
        have x1 : w4.cell? ⟨g7, 1, none⟩ = some (.int .u32 dd) := (HX3.out.next HB4.out).cell 1
        have x2 : w4.cell? ⟨g7, 2, none⟩ = some (.int .i64 aw) := (HX3.out.next HB4.out).cell 2
        have x3 : w4.cell? ⟨g7, 3, none⟩ = some (.int .u32 at1) := (HX3.out.next HB4.out).cell 3
        have x4 : w4.cell? ⟨g7, 4, none⟩ = some (.int .u32 am) := (HX3.out.next HB4.out).cell 4
        have x5 : w4.cell? ⟨g7, 5, none⟩ = some (.bool ys) := (HX3.out.next HB4.out).cell 5
        have x6 : w4.cell? ⟨g7, 6, none⟩ = some (.string tk) := (HX3.out.next HB4.out).cell 6
        have x7 : w4.cell? ⟨g7, 7, none⟩ = some (.int .i64 nn) := (HX3.out.next HB4.out).cell 7
        have x8 : w4.cell? ⟨g7, 8, none⟩ = some (.int .i64 id) := (HX3.out.next HB4.out).cell 8
        have x9 : w4.cell? ⟨g7, 9, none⟩ = some (.slice ova OT.length ovc) := (HX3.out.next HB4.out).cell 9
        go_upto_region 12 with (first
          | (go_at_call 18; refine (HTo.out _ (bel_refl _)).mono ?_; rintro e w9 ⟨v', Q, rfl, hq, hpl, hb9⟩; obtain ⟨qa, qc, hqv, -⟩ := hq.open; subst hqv; have HB9 := Lib.hid hb9; have HCm := Lib.hid (to_cmdr (HCw.out.below (bel_trans HR8.out.bel hb9)) HL.out hq hpl); clear hq hpl hb9)
          | (go_at_call 17; refine (HDo.out _ _ _ HB9.out HCm.out).mono ?_; rintro e w10 ⟨rfl, S2, hc10, hS10, ht10⟩; have HC10 := Lib.hid hc10; have HS10 := Lib.hid hS10; have HT10 := Lib.hid ht10; clear hc10 hS10 ht10)
          | fail)
        clear x0 x1 x2 x3 x4 x5 x6 x7 x8 x9
        clear HLt HTo HDo
        have HR10 : Hid (Ro w w10 S2 c C2 (k + 1) q tb fb pb ft ff fp) := Lib.hid (by
          have h1 := HR8o.out.done HB9.out (m := ⟨kd, dd, ⟨aw, at1, am⟩, ys, tk, nn, id, ws⟩) (S' := S2) (W' := w10) (by rw [Hz.out]; exact HC10.out) HS10.out HT10.out
          rw [Hz.out] at h1
          exact h1)
        have HX10 := Lib.hid (blk_keep HT10.out ((HX3.out.next HB4.out).next HB9.out) Hng.out)
        have HY11 := Lib.hid (Blk.new w10 #[.int .i64 ze, .int .u32 zd, .int .i64 zs, .int .i64 zw, .int .u32 zt, .int .u32 zm] 46)
        have HB11 := Lib.hid (below_alloc w10 (.cells #[.int .i64 ze, .int .u32 zd, .int .i64 zs, .int .i64 zw, .int .u32 zt, .int .u32 zm] 46))
        generalize w10.alloc (.cells #[.int .i64 ze, .int .u32 zd, .int .i64 zs, .int .i64 zw, .int .u32 zt, .int .u32 zm] 46) = w11 at HY11 HB11 ⊢
        generalize w10.heap.size = gr at HY11 ⊢
        have HR11 := Lib.hid (HR10.out.next HB11.out)
        have HX11 := Lib.hid (HX10.out.next HB11.out)
        have HKp : Hid (ze = 0 → ((kd = 1 ∨ kd = 2) → ∃ x ∈ C2.book, x.told = ⟨ze, zd, zs, ⟨zw, zt, zm⟩⟩ ∧ (kd = 1 → x.token = tk)) ∧ ((kd = 3 ∨ kd = 4) → ∃ x ∈ C2.deeds, x.told = ⟨ze, zd, zs, ⟨zw, zt, zm⟩⟩)) := Lib.hid (by
          have h1 := (do_keeps HR8.out.cel.inv ⟨kd, dd, ⟨aw, at1, am⟩, ys, tk, nn, id, ws⟩).2
          rw [Hz.out] at h1
          exact h1)
        have HBd : Hid (ze ≠ 0 → zd = 0 ∧ zs = 0 ∧ zw = 0 ∧ zt = 0 ∧ zm = 0) := Lib.hid (by
          have h1 := do_bad C ⟨kd, dd, ⟨aw, at1, am⟩, ys, tk, nn, id, ws⟩
          rw [Hz.out] at h1
          intro h
          have h2 := h1 h
          unfold bad t0 at h2
          injection h2 with _ h3 h4 h5
          injection h5 with h5 h6 h7
          exact ⟨h3, h4, h5, h6, h7⟩)
        have HTk : Hid (tk.size ≤ maxLen) := Lib.hid HCw.out.tok
        have y0 : w11.cell? ⟨gr, 0, none⟩ = some (.int .i64 ze) := HY11.out.cell 0
        by_cases hze : ze = 0
        · have e0 : (ze != 0) = false := by rw [hze]; rfl
          have HZe := Lib.hid hze
          clear hze
          have x0 : w11.cell? ⟨g7, 0, none⟩ = some (.int .i64 kd) := HX11.out.cell 0
          go_upto_region 15 with fail
          clear y0 e0
          by_cases h1 : kd = 1
          · subst h1
            obtain ⟨xe, hxe, htl, htk⟩ := (HKp.out HZe.out).1 (.inl rfl)
            have HXe := Lib.hid hxe
            have hzd : zd = xe.deed := by have := congrArg Rep.deed htl; exact this.symm
            have hzs : zs = xe.state := by have := congrArg Rep.state htl; exact this.symm
            have HTl : Hid (replyV xe.told = .agg #[.int .i64 ze, .int .u32 zd, .int .i64 zs, .int .i64 zw, .int .u32 zt, .int .u32 zm]) := Lib.hid (by rw [htl]; rfl)
            have HLt1 : Hid (∀ v, ft (kl tk) = some v → v = .int .u32 zd) := Lib.hid (fun v e => by rw [← htk rfl] at e; rw [hzd]; exact HR11.out.note.tok HR11.out.rn.cel.inv hxe e)
            have HPt : Hid (∀ (W W' : World), Ro w W S2 c C2 (k + 1) q tb fb pb ft ff fp → (∃ n, n ≤ q + 1 ∧ MapIs Tryz.prog 9 W' tb (upd ft (kl tk) (.int .u32 zd)) n) → W.grownBy W' (some tb) → Ro w W' S2 c C2 (k + 1) (q + 1) tb fb pb (upd ft (kl tk) (.int .u32 zd)) ff fp) := Lib.hid (fun W W' h2 h3 h4 => by
              rw [← htk rfl, hzd] at h3 ⊢
              exact h2.putT (f' := ft) HXe.out h3 h4)
            clear hxe htl htk
            have HZd : Hid (0 ≤ zd ∧ zd ≤ 4294967295) := Lib.hid (by
              obtain ⟨i, hi⟩ := List.getElem?_of_mem HXe.out
              have h1 := (HR11.out.rn.cel.inv.entry i xe hi).1
              have h2 := HR11.out.rn.cel.inv.nbook
              have h3 := (List.getElem?_eq_some_iff.1 hi).1
              have h4 := HR11.out.rn.cel.inv.ids
              omega)
            have HL9 : Hid (∀ v, ff (litD zd) = some v → v = .agg #[.int .i64 ze, .int .u32 zd, .int .i64 zs, .int .i64 zw, .int .u32 zt, .int .u32 zm]) := Lib.hid (fun v e => by rw [← HTl.out]; rw [hzd] at e; exact HR11.out.note.fat HR11.out.rn.cel.inv HXe.out e)
            have HPut : Hid (∀ (W : World) (W' : World) {ft : Lit → Option Value} {q : Nat}, zs ≠ 1 → Ro w W S2 c C2 (k + 1) q tb fb pb ft ff fp → (∃ n, n ≤ q + 1 ∧ MapIs Tryz.prog 24 W' fb (upd ff (litD zd) (.agg #[.int .i64 ze, .int .u32 zd, .int .i64 zs, .int .i64 zw, .int .u32 zt, .int .u32 zm])) n) → W.grownBy W' (some fb) → Ro w W' S2 c C2 (k + 1) (q + 1) tb fb pb ft (upd ff (litD zd) (.agg #[.int .i64 ze, .int .u32 zd, .int .i64 zs, .int .i64 zw, .int .u32 zt, .int .u32 zm])) fp) := Lib.hid (fun W W' _ _ h1 h2 h3 h4 => by
              rw [← HTl.out] at h3 ⊢
              rw [hzd] at h3 ⊢
              exact h2.putF HXe.out (by rw [← hzs]; exact h1) h3 h4)
            clear hzd hzs
            have x4 : w11.cell? ⟨g7, 6, none⟩ = some (.string tk) := HX11.out.cell 6
            have y1 : w11.cell? ⟨gr, 1, none⟩ = some (.int .u32 zd) := HY11.out.cell 1
            have hlt1 := look_tok HR11.out.mt HTk.out HLt1.out
            obtain ⟨w13, hr13, hm13, hg13⟩ := put_le HR11.out.mt (by have := H60.out; have := Hq.out; omega) key9 Tryz.underlying76 (.int .u32 zd) (keyOf9 tk HTk.out) trivial
            have HR13 := Lib.hid (HPt.out _ _ HR11.out hm13 hg13)
            have HY13 : Hid (Blk w13 gr #[.int .i64 ze, .int .u32 zd, .int .i64 zs, .int .i64 zw, .int .u32 zt, .int .u32 zm] 46) := Lib.hid (HY11.out.grown hg13 (fun e => by injection e with e; obtain ⟨n, -, h2⟩ := HR11.out.mt; exact blk_no_map HY11.out h2 e.symm))
            clear hm13 hg13
            rcases hlt1 with hlt1 | hlt1
            · as_aux_lemma =>
                go_upto_region 23 with fail
                clear x0 x4 y1 hr13 hlt1
                have hlr := look_reply (d := 0) (r := #[.int .i64 ze, .int .u32 zd, .int .i64 zs, .int .i64 zw, .int .u32 zt, .int .u32 zm]) HR13.out.mf HZd.out (fun v e => HL9.out v e)
                have y0 : w13.cell? ⟨gr, 0, none⟩ = some (.int .i64 ze) := HY13.out.cell 0
                have y1 : w13.cell? ⟨gr, 1, none⟩ = some (.int .u32 zd) := HY13.out.cell 1
                have y2 : w13.cell? ⟨gr, 2, none⟩ = some (.int .i64 zs) := HY13.out.cell 2
                have y3 : w13.cell? ⟨gr, 3, none⟩ = some (.int .i64 zw) := HY13.out.cell 3
                have y4 : w13.cell? ⟨gr, 4, none⟩ = some (.int .u32 zt) := HY13.out.cell 4
                have y5 : w13.cell? ⟨gr, 5, none⟩ = some (.int .u32 zm) := HY13.out.cell 5
                rcases hlr with hlr | hlr
                · as_aux_lemma =>
                    have HY20 := Lib.hid (HY13.out.next (below_alloc _ (.cells #[.int .i64 0, .int .u32 0, .int .i64 0, .int .i64 0, .int .u32 0, .int .u32 0] 46)))
                    have HR20 := Lib.hid (HR13.out.next (below_alloc _ (.cells #[.int .i64 0, .int .u32 0, .int .i64 0, .int .i64 0, .int .u32 0, .int .u32 0] 46)))
                    have HQ20 := Lib.hid (Blk.new w13 #[.int .i64 0, .int .u32 0, .int .i64 0, .int .i64 0, .int .u32 0, .int .u32 0] 46)
                    go_upto_region 24 with fail
                    clear hlr y0 y1 y2 y3 y4 y5
                    generalize w13.alloc (.cells #[.int .i64 0, .int .u32 0, .int .i64 0, .int .i64 0, .int .u32 0, .int .u32 0] 46) = w20 at HY20 HR20 HQ20 ⊢
                    generalize w13.heap.size = gq at HQ20 ⊢
                    have y0 : w20.cell? ⟨gr, 0, none⟩ = some (.int .i64 ze) := HY20.out.cell 0
                    have y1 : w20.cell? ⟨gr, 1, none⟩ = some (.int .u32 zd) := HY20.out.cell 1
                    have y2 : w20.cell? ⟨gr, 2, none⟩ = some (.int .i64 zs) := HY20.out.cell 2
                    have y3 : w20.cell? ⟨gr, 3, none⟩ = some (.int .i64 zw) := HY20.out.cell 3
                    have y4 : w20.cell? ⟨gr, 4, none⟩ = some (.int .u32 zt) := HY20.out.cell 4
                    have y5 : w20.cell? ⟨gr, 5, none⟩ = some (.int .u32 zm) := HY20.out.cell 5
                    have u0 : w20.cell? ⟨gq, 0, none⟩ = some (.int .i64 0) := HQ20.out.cell 0
                    have u1 : w20.cell? ⟨gq, 1, none⟩ = some (.int .u32 0) := HQ20.out.cell 1
                    have u2 : w20.cell? ⟨gq, 2, none⟩ = some (.int .i64 0) := HQ20.out.cell 2
                    have u3 : w20.cell? ⟨gq, 3, none⟩ = some (.int .i64 0) := HQ20.out.cell 3
                    have u4 : w20.cell? ⟨gq, 4, none⟩ = some (.int .u32 0) := HQ20.out.cell 4
                    have u5 : w20.cell? ⟨gq, 5, none⟩ = some (.int .u32 0) := HQ20.out.cell 5
                    by_cases hs1 : zs = 1
                    · have e5 : (zs != 1) = false := by rw [hs1]; rfl
                      have e6 : zs = 1 := hs1
                      clear hs1
                      clear e6
                      go_wp2_with fail
                      go_roundw
                      case rel => exact ⟨k + 1, _, S2, C2, _, _, _, by have := Hlt.out; omega, by go_num, by have := H60.out; omega, by have := Hq.out; omega, HR20⟩
                      case measure => have := Hlt.out; simp [intOf]; omega
                    · have e5 : (zs != 1) = true := by simpa using hs1
                      obtain ⟨w21, hr21, hm21, hg21⟩ := put_le HR20.out.mf (by have := H60.out; have := Hq.out; omega) key24 Tryz.underlying77 (.agg #[.int .i64 ze, .int .u32 zd, .int .i64 zs, .int .i64 zw, .int .u32 zt, .int .u32 zm]) (keyOf24 HZd.out) trivial
                      have HR21 := Lib.hid (HPut.out _ _ hs1 HR20.out hm21 hg21)
                      clear hs1 hm21 hg21
                      go_wp2_with fail
                      go_roundw
                      case rel => exact ⟨k + 1, _, S2, C2, _, _, _, by have := Hlt.out; omega, by go_num, by have := H60.out; omega, by have := Hq.out; omega, HR21⟩
                      case measure => have := Hlt.out; simp [intOf]; omega
                · as_aux_lemma =>
                    have HY20 := Lib.hid (HY13.out.next (below_alloc _ (.cells #[.int .i64 ze, .int .u32 zd, .int .i64 zs, .int .i64 zw, .int .u32 zt, .int .u32 zm] 46)))
                    have HR20 := Lib.hid (HR13.out.next (below_alloc _ (.cells #[.int .i64 ze, .int .u32 zd, .int .i64 zs, .int .i64 zw, .int .u32 zt, .int .u32 zm] 46)))
                    have HQ20 := Lib.hid (Blk.new w13 #[.int .i64 ze, .int .u32 zd, .int .i64 zs, .int .i64 zw, .int .u32 zt, .int .u32 zm] 46)
                    go_upto_region 24 with fail
                    clear hlr y0 y1 y2 y3 y4 y5
                    generalize w13.alloc (.cells #[.int .i64 ze, .int .u32 zd, .int .i64 zs, .int .i64 zw, .int .u32 zt, .int .u32 zm] 46) = w20 at HY20 HR20 HQ20 ⊢
                    generalize w13.heap.size = gq at HQ20 ⊢
                    have y0 : w20.cell? ⟨gr, 0, none⟩ = some (.int .i64 ze) := HY20.out.cell 0
                    have y1 : w20.cell? ⟨gr, 1, none⟩ = some (.int .u32 zd) := HY20.out.cell 1
                    have y2 : w20.cell? ⟨gr, 2, none⟩ = some (.int .i64 zs) := HY20.out.cell 2
                    have y3 : w20.cell? ⟨gr, 3, none⟩ = some (.int .i64 zw) := HY20.out.cell 3
                    have y4 : w20.cell? ⟨gr, 4, none⟩ = some (.int .u32 zt) := HY20.out.cell 4
                    have y5 : w20.cell? ⟨gr, 5, none⟩ = some (.int .u32 zm) := HY20.out.cell 5
                    have u0 : w20.cell? ⟨gq, 0, none⟩ = some (.int .i64 ze) := HQ20.out.cell 0
                    have u1 : w20.cell? ⟨gq, 1, none⟩ = some (.int .u32 zd) := HQ20.out.cell 1
                    have u2 : w20.cell? ⟨gq, 2, none⟩ = some (.int .i64 zs) := HQ20.out.cell 2
                    have u3 : w20.cell? ⟨gq, 3, none⟩ = some (.int .i64 zw) := HQ20.out.cell 3
                    have u4 : w20.cell? ⟨gq, 4, none⟩ = some (.int .u32 zt) := HQ20.out.cell 4
                    have u5 : w20.cell? ⟨gq, 5, none⟩ = some (.int .u32 zm) := HQ20.out.cell 5
                    by_cases hs1 : zs = 1
                    · have e5 : (zs != 1) = false := by rw [hs1]; rfl
                      have e6 : zs = 1 := hs1
                      clear hs1
                      clear e6
                      go_wp2_with fail
                      go_roundw
                      case rel => exact ⟨k + 1, _, S2, C2, _, _, _, by have := Hlt.out; omega, by go_num, by have := H60.out; omega, by have := Hq.out; omega, HR20⟩
                      case measure => have := Hlt.out; simp [intOf]; omega
                    · have e5 : (zs != 1) = true := by simpa using hs1
                      obtain ⟨w21, hr21, hm21, hg21⟩ := put_le HR20.out.mf (by have := H60.out; have := Hq.out; omega) key24 Tryz.underlying77 (.agg #[.int .i64 ze, .int .u32 zd, .int .i64 zs, .int .i64 zw, .int .u32 zt, .int .u32 zm]) (keyOf24 HZd.out) trivial
                      have HR21 := Lib.hid (HPut.out _ _ hs1 HR20.out hm21 hg21)
                      clear hs1 hm21 hg21
                      go_wp2_with fail
                      go_roundw
                      case rel => exact ⟨k + 1, _, S2, C2, _, _, _, by have := Hlt.out; omega, by go_num, by have := H60.out; omega, by have := Hq.out; omega, HR21⟩
                      case measure => have := Hlt.out; simp [intOf]; omega
            · as_aux_lemma =>
                go_upto_region 23 with fail
                clear x0 x4 y1 hr13 hlt1
                have hlr := look_reply (d := 0) (r := #[.int .i64 ze, .int .u32 zd, .int .i64 zs, .int .i64 zw, .int .u32 zt, .int .u32 zm]) HR13.out.mf HZd.out (fun v e => HL9.out v e)
                have y0 : w13.cell? ⟨gr, 0, none⟩ = some (.int .i64 ze) := HY13.out.cell 0
                have y1 : w13.cell? ⟨gr, 1, none⟩ = some (.int .u32 zd) := HY13.out.cell 1
                have y2 : w13.cell? ⟨gr, 2, none⟩ = some (.int .i64 zs) := HY13.out.cell 2
                have y3 : w13.cell? ⟨gr, 3, none⟩ = some (.int .i64 zw) := HY13.out.cell 3
                have y4 : w13.cell? ⟨gr, 4, none⟩ = some (.int .u32 zt) := HY13.out.cell 4
                have y5 : w13.cell? ⟨gr, 5, none⟩ = some (.int .u32 zm) := HY13.out.cell 5
                rcases hlr with hlr | hlr
                · as_aux_lemma =>
                    have HY20 := Lib.hid (HY13.out.next (below_alloc _ (.cells #[.int .i64 0, .int .u32 0, .int .i64 0, .int .i64 0, .int .u32 0, .int .u32 0] 46)))
                    have HR20 := Lib.hid (HR13.out.next (below_alloc _ (.cells #[.int .i64 0, .int .u32 0, .int .i64 0, .int .i64 0, .int .u32 0, .int .u32 0] 46)))
                    have HQ20 := Lib.hid (Blk.new w13 #[.int .i64 0, .int .u32 0, .int .i64 0, .int .i64 0, .int .u32 0, .int .u32 0] 46)
                    go_upto_region 24 with fail
                    clear hlr y0 y1 y2 y3 y4 y5
                    generalize w13.alloc (.cells #[.int .i64 0, .int .u32 0, .int .i64 0, .int .i64 0, .int .u32 0, .int .u32 0] 46) = w20 at HY20 HR20 HQ20 ⊢
                    generalize w13.heap.size = gq at HQ20 ⊢
                    have y0 : w20.cell? ⟨gr, 0, none⟩ = some (.int .i64 ze) := HY20.out.cell 0
                    have y1 : w20.cell? ⟨gr, 1, none⟩ = some (.int .u32 zd) := HY20.out.cell 1
                    have y2 : w20.cell? ⟨gr, 2, none⟩ = some (.int .i64 zs) := HY20.out.cell 2
                    have y3 : w20.cell? ⟨gr, 3, none⟩ = some (.int .i64 zw) := HY20.out.cell 3
                    have y4 : w20.cell? ⟨gr, 4, none⟩ = some (.int .u32 zt) := HY20.out.cell 4
                    have y5 : w20.cell? ⟨gr, 5, none⟩ = some (.int .u32 zm) := HY20.out.cell 5
                    have u0 : w20.cell? ⟨gq, 0, none⟩ = some (.int .i64 0) := HQ20.out.cell 0
                    have u1 : w20.cell? ⟨gq, 1, none⟩ = some (.int .u32 0) := HQ20.out.cell 1
                    have u2 : w20.cell? ⟨gq, 2, none⟩ = some (.int .i64 0) := HQ20.out.cell 2
                    have u3 : w20.cell? ⟨gq, 3, none⟩ = some (.int .i64 0) := HQ20.out.cell 3
                    have u4 : w20.cell? ⟨gq, 4, none⟩ = some (.int .u32 0) := HQ20.out.cell 4
                    have u5 : w20.cell? ⟨gq, 5, none⟩ = some (.int .u32 0) := HQ20.out.cell 5
                    by_cases hs1 : zs = 1
                    · have e5 : (zs != 1) = false := by rw [hs1]; rfl
                      have e6 : zs = 1 := hs1
                      clear hs1
                      clear e6
                      go_wp2_with fail
                      go_roundw
                      case rel => exact ⟨k + 1, _, S2, C2, _, _, _, by have := Hlt.out; omega, by go_num, by have := H60.out; omega, by have := Hq.out; omega, HR20⟩
                      case measure => have := Hlt.out; simp [intOf]; omega
                    · have e5 : (zs != 1) = true := by simpa using hs1
                      obtain ⟨w21, hr21, hm21, hg21⟩ := put_le HR20.out.mf (by have := H60.out; have := Hq.out; omega) key24 Tryz.underlying77 (.agg #[.int .i64 ze, .int .u32 zd, .int .i64 zs, .int .i64 zw, .int .u32 zt, .int .u32 zm]) (keyOf24 HZd.out) trivial
                      have HR21 := Lib.hid (HPut.out _ _ hs1 HR20.out hm21 hg21)
                      clear hs1 hm21 hg21
                      go_wp2_with fail
                      go_roundw
                      case rel => exact ⟨k + 1, _, S2, C2, _, _, _, by have := Hlt.out; omega, by go_num, by have := H60.out; omega, by have := Hq.out; omega, HR21⟩
                      case measure => have := Hlt.out; simp [intOf]; omega
                · as_aux_lemma =>
                    have HY20 := Lib.hid (HY13.out.next (below_alloc _ (.cells #[.int .i64 ze, .int .u32 zd, .int .i64 zs, .int .i64 zw, .int .u32 zt, .int .u32 zm] 46)))
                    have HR20 := Lib.hid (HR13.out.next (below_alloc _ (.cells #[.int .i64 ze, .int .u32 zd, .int .i64 zs, .int .i64 zw, .int .u32 zt, .int .u32 zm] 46)))
                    have HQ20 := Lib.hid (Blk.new w13 #[.int .i64 ze, .int .u32 zd, .int .i64 zs, .int .i64 zw, .int .u32 zt, .int .u32 zm] 46)
                    go_upto_region 24 with fail
                    clear hlr y0 y1 y2 y3 y4 y5
                    generalize w13.alloc (.cells #[.int .i64 ze, .int .u32 zd, .int .i64 zs, .int .i64 zw, .int .u32 zt, .int .u32 zm] 46) = w20 at HY20 HR20 HQ20 ⊢
                    generalize w13.heap.size = gq at HQ20 ⊢
                    have y0 : w20.cell? ⟨gr, 0, none⟩ = some (.int .i64 ze) := HY20.out.cell 0
                    have y1 : w20.cell? ⟨gr, 1, none⟩ = some (.int .u32 zd) := HY20.out.cell 1
                    have y2 : w20.cell? ⟨gr, 2, none⟩ = some (.int .i64 zs) := HY20.out.cell 2
                    have y3 : w20.cell? ⟨gr, 3, none⟩ = some (.int .i64 zw) := HY20.out.cell 3
                    have y4 : w20.cell? ⟨gr, 4, none⟩ = some (.int .u32 zt) := HY20.out.cell 4
                    have y5 : w20.cell? ⟨gr, 5, none⟩ = some (.int .u32 zm) := HY20.out.cell 5
                    have u0 : w20.cell? ⟨gq, 0, none⟩ = some (.int .i64 ze) := HQ20.out.cell 0
                    have u1 : w20.cell? ⟨gq, 1, none⟩ = some (.int .u32 zd) := HQ20.out.cell 1
                    have u2 : w20.cell? ⟨gq, 2, none⟩ = some (.int .i64 zs) := HQ20.out.cell 2
                    have u3 : w20.cell? ⟨gq, 3, none⟩ = some (.int .i64 zw) := HQ20.out.cell 3
                    have u4 : w20.cell? ⟨gq, 4, none⟩ = some (.int .u32 zt) := HQ20.out.cell 4
                    have u5 : w20.cell? ⟨gq, 5, none⟩ = some (.int .u32 zm) := HQ20.out.cell 5
                    by_cases hs1 : zs = 1
                    · have e5 : (zs != 1) = false := by rw [hs1]; rfl
                      have e6 : zs = 1 := hs1
                      clear hs1
                      clear e6
                      go_wp2_with fail
                      go_roundw
                      case rel => exact ⟨k + 1, _, S2, C2, _, _, _, by have := Hlt.out; omega, by go_num, by have := H60.out; omega, by have := Hq.out; omega, HR20⟩
                      case measure => have := Hlt.out; simp [intOf]; omega
                    · have e5 : (zs != 1) = true := by simpa using hs1
                      obtain ⟨w21, hr21, hm21, hg21⟩ := put_le HR20.out.mf (by have := H60.out; have := Hq.out; omega) key24 Tryz.underlying77 (.agg #[.int .i64 ze, .int .u32 zd, .int .i64 zs, .int .i64 zw, .int .u32 zt, .int .u32 zm]) (keyOf24 HZd.out) trivial
                      have HR21 := Lib.hid (HPut.out _ _ hs1 HR20.out hm21 hg21)
                      clear hs1 hm21 hg21
                      go_wp2_with fail
                      go_roundw
                      case rel => exact ⟨k + 1, _, S2, C2, _, _, _, by have := Hlt.out; omega, by go_num, by have := H60.out; omega, by have := Hq.out; omega, HR21⟩
                      case measure => have := Hlt.out; simp [intOf]; omega
          have b1 : (kd == 1) = false := bne_of h1
          by_cases h2 : kd = 2
          · subst h2
            clear h1 b1
            obtain ⟨xe, hxe, htl, htk⟩ := (HKp.out HZe.out).1 (.inr rfl)
            have HXe := Lib.hid hxe
            have hzd : zd = xe.deed := by have := congrArg Rep.deed htl; exact this.symm
            have hzs : zs = xe.state := by have := congrArg Rep.state htl; exact this.symm
            have HTl : Hid (replyV xe.told = .agg #[.int .i64 ze, .int .u32 zd, .int .i64 zs, .int .i64 zw, .int .u32 zt, .int .u32 zm]) := Lib.hid (by rw [htl]; rfl)
            clear hxe htl htk
            have HZd : Hid (0 ≤ zd ∧ zd ≤ 4294967295) := Lib.hid (by
              obtain ⟨i, hi⟩ := List.getElem?_of_mem HXe.out
              have h1 := (HR11.out.rn.cel.inv.entry i xe hi).1
              have h2 := HR11.out.rn.cel.inv.nbook
              have h3 := (List.getElem?_eq_some_iff.1 hi).1
              have h4 := HR11.out.rn.cel.inv.ids
              omega)
            have HL9 : Hid (∀ v, ff (litD zd) = some v → v = .agg #[.int .i64 ze, .int .u32 zd, .int .i64 zs, .int .i64 zw, .int .u32 zt, .int .u32 zm]) := Lib.hid (fun v e => by rw [← HTl.out]; rw [hzd] at e; exact HR11.out.note.fat HR11.out.rn.cel.inv HXe.out e)
            have HPut : Hid (∀ (W : World) (W' : World) {ft : Lit → Option Value} {q : Nat}, zs ≠ 1 → Ro w W S2 c C2 (k + 1) q tb fb pb ft ff fp → (∃ n, n ≤ q + 1 ∧ MapIs Tryz.prog 24 W' fb (upd ff (litD zd) (.agg #[.int .i64 ze, .int .u32 zd, .int .i64 zs, .int .i64 zw, .int .u32 zt, .int .u32 zm])) n) → W.grownBy W' (some fb) → Ro w W' S2 c C2 (k + 1) (q + 1) tb fb pb ft (upd ff (litD zd) (.agg #[.int .i64 ze, .int .u32 zd, .int .i64 zs, .int .i64 zw, .int .u32 zt, .int .u32 zm])) fp) := Lib.hid (fun W W' _ _ h1 h2 h3 h4 => by
              rw [← HTl.out] at h3 ⊢
              rw [hzd] at h3 ⊢
              exact h2.putF HXe.out (by rw [← hzs]; exact h1) h3 h4)
            clear hzd hzs
            go_upto_region 23 with fail
            clear x0
            have hlr := look_reply (d := 0) (r := #[.int .i64 ze, .int .u32 zd, .int .i64 zs, .int .i64 zw, .int .u32 zt, .int .u32 zm]) HR11.out.mf HZd.out (fun v e => HL9.out v e)
            have y0 : w11.cell? ⟨gr, 0, none⟩ = some (.int .i64 ze) := HY11.out.cell 0
            have y1 : w11.cell? ⟨gr, 1, none⟩ = some (.int .u32 zd) := HY11.out.cell 1
            have y2 : w11.cell? ⟨gr, 2, none⟩ = some (.int .i64 zs) := HY11.out.cell 2
            have y3 : w11.cell? ⟨gr, 3, none⟩ = some (.int .i64 zw) := HY11.out.cell 3
            have y4 : w11.cell? ⟨gr, 4, none⟩ = some (.int .u32 zt) := HY11.out.cell 4
            have y5 : w11.cell? ⟨gr, 5, none⟩ = some (.int .u32 zm) := HY11.out.cell 5
            rcases hlr with hlr | hlr
            · as_aux_lemma =>
                have HY20 := Lib.hid (HY11.out.next (below_alloc _ (.cells #[.int .i64 0, .int .u32 0, .int .i64 0, .int .i64 0, .int .u32 0, .int .u32 0] 46)))
                have HR20 := Lib.hid (HR11.out.next (below_alloc _ (.cells #[.int .i64 0, .int .u32 0, .int .i64 0, .int .i64 0, .int .u32 0, .int .u32 0] 46)))
                have HQ20 := Lib.hid (Blk.new w11 #[.int .i64 0, .int .u32 0, .int .i64 0, .int .i64 0, .int .u32 0, .int .u32 0] 46)
                go_upto_region 24 with fail
                clear hlr y0 y1 y2 y3 y4 y5
                generalize w11.alloc (.cells #[.int .i64 0, .int .u32 0, .int .i64 0, .int .i64 0, .int .u32 0, .int .u32 0] 46) = w20 at HY20 HR20 HQ20 ⊢
                generalize w11.heap.size = gq at HQ20 ⊢
                have y0 : w20.cell? ⟨gr, 0, none⟩ = some (.int .i64 ze) := HY20.out.cell 0
                have y1 : w20.cell? ⟨gr, 1, none⟩ = some (.int .u32 zd) := HY20.out.cell 1
                have y2 : w20.cell? ⟨gr, 2, none⟩ = some (.int .i64 zs) := HY20.out.cell 2
                have y3 : w20.cell? ⟨gr, 3, none⟩ = some (.int .i64 zw) := HY20.out.cell 3
                have y4 : w20.cell? ⟨gr, 4, none⟩ = some (.int .u32 zt) := HY20.out.cell 4
                have y5 : w20.cell? ⟨gr, 5, none⟩ = some (.int .u32 zm) := HY20.out.cell 5
                have u0 : w20.cell? ⟨gq, 0, none⟩ = some (.int .i64 0) := HQ20.out.cell 0
                have u1 : w20.cell? ⟨gq, 1, none⟩ = some (.int .u32 0) := HQ20.out.cell 1
                have u2 : w20.cell? ⟨gq, 2, none⟩ = some (.int .i64 0) := HQ20.out.cell 2
                have u3 : w20.cell? ⟨gq, 3, none⟩ = some (.int .i64 0) := HQ20.out.cell 3
                have u4 : w20.cell? ⟨gq, 4, none⟩ = some (.int .u32 0) := HQ20.out.cell 4
                have u5 : w20.cell? ⟨gq, 5, none⟩ = some (.int .u32 0) := HQ20.out.cell 5
                by_cases hs1 : zs = 1
                · have e5 : (zs != 1) = false := by rw [hs1]; rfl
                  have e6 : zs = 1 := hs1
                  clear hs1
                  clear e6
                  go_wp2_with fail
                  go_roundw
                  case rel => exact ⟨k + 1, _, S2, C2, _, _, _, by have := Hlt.out; omega, by go_num, by have := H60.out; omega, by have := Hq.out; omega, HR20⟩
                  case measure => have := Hlt.out; simp [intOf]; omega
                · have e5 : (zs != 1) = true := by simpa using hs1
                  obtain ⟨w21, hr21, hm21, hg21⟩ := put_le HR20.out.mf (by have := H60.out; have := Hq.out; omega) key24 Tryz.underlying77 (.agg #[.int .i64 ze, .int .u32 zd, .int .i64 zs, .int .i64 zw, .int .u32 zt, .int .u32 zm]) (keyOf24 HZd.out) trivial
                  have HR21 := Lib.hid (HPut.out _ _ hs1 HR20.out hm21 hg21)
                  clear hs1 hm21 hg21
                  go_wp2_with fail
                  go_roundw
                  case rel => exact ⟨k + 1, _, S2, C2, _, _, _, by have := Hlt.out; omega, by go_num, by have := H60.out; omega, by have := Hq.out; omega, HR21⟩
                  case measure => have := Hlt.out; simp [intOf]; omega
            · as_aux_lemma =>
                have HY20 := Lib.hid (HY11.out.next (below_alloc _ (.cells #[.int .i64 ze, .int .u32 zd, .int .i64 zs, .int .i64 zw, .int .u32 zt, .int .u32 zm] 46)))
                have HR20 := Lib.hid (HR11.out.next (below_alloc _ (.cells #[.int .i64 ze, .int .u32 zd, .int .i64 zs, .int .i64 zw, .int .u32 zt, .int .u32 zm] 46)))
                have HQ20 := Lib.hid (Blk.new w11 #[.int .i64 ze, .int .u32 zd, .int .i64 zs, .int .i64 zw, .int .u32 zt, .int .u32 zm] 46)
                go_upto_region 24 with fail
                clear hlr y0 y1 y2 y3 y4 y5
                generalize w11.alloc (.cells #[.int .i64 ze, .int .u32 zd, .int .i64 zs, .int .i64 zw, .int .u32 zt, .int .u32 zm] 46) = w20 at HY20 HR20 HQ20 ⊢
                generalize w11.heap.size = gq at HQ20 ⊢
                have y0 : w20.cell? ⟨gr, 0, none⟩ = some (.int .i64 ze) := HY20.out.cell 0
                have y1 : w20.cell? ⟨gr, 1, none⟩ = some (.int .u32 zd) := HY20.out.cell 1
                have y2 : w20.cell? ⟨gr, 2, none⟩ = some (.int .i64 zs) := HY20.out.cell 2
                have y3 : w20.cell? ⟨gr, 3, none⟩ = some (.int .i64 zw) := HY20.out.cell 3
                have y4 : w20.cell? ⟨gr, 4, none⟩ = some (.int .u32 zt) := HY20.out.cell 4
                have y5 : w20.cell? ⟨gr, 5, none⟩ = some (.int .u32 zm) := HY20.out.cell 5
                have u0 : w20.cell? ⟨gq, 0, none⟩ = some (.int .i64 ze) := HQ20.out.cell 0
                have u1 : w20.cell? ⟨gq, 1, none⟩ = some (.int .u32 zd) := HQ20.out.cell 1
                have u2 : w20.cell? ⟨gq, 2, none⟩ = some (.int .i64 zs) := HQ20.out.cell 2
                have u3 : w20.cell? ⟨gq, 3, none⟩ = some (.int .i64 zw) := HQ20.out.cell 3
                have u4 : w20.cell? ⟨gq, 4, none⟩ = some (.int .u32 zt) := HQ20.out.cell 4
                have u5 : w20.cell? ⟨gq, 5, none⟩ = some (.int .u32 zm) := HQ20.out.cell 5
                by_cases hs1 : zs = 1
                · have e5 : (zs != 1) = false := by rw [hs1]; rfl
                  have e6 : zs = 1 := hs1
                  clear hs1
                  clear e6
                  go_wp2_with fail
                  go_roundw
                  case rel => exact ⟨k + 1, _, S2, C2, _, _, _, by have := Hlt.out; omega, by go_num, by have := H60.out; omega, by have := Hq.out; omega, HR20⟩
                  case measure => have := Hlt.out; simp [intOf]; omega
                · have e5 : (zs != 1) = true := by simpa using hs1
                  obtain ⟨w21, hr21, hm21, hg21⟩ := put_le HR20.out.mf (by have := H60.out; have := Hq.out; omega) key24 Tryz.underlying77 (.agg #[.int .i64 ze, .int .u32 zd, .int .i64 zs, .int .i64 zw, .int .u32 zt, .int .u32 zm]) (keyOf24 HZd.out) trivial
                  have HR21 := Lib.hid (HPut.out _ _ hs1 HR20.out hm21 hg21)
                  clear hs1 hm21 hg21
                  go_wp2_with fail
                  go_roundw
                  case rel => exact ⟨k + 1, _, S2, C2, _, _, _, by have := Hlt.out; omega, by go_num, by have := H60.out; omega, by have := Hq.out; omega, HR21⟩
                  case measure => have := Hlt.out; simp [intOf]; omega
          have b2 : (kd == 2) = false := bne_of h2
          by_cases h3 : kd = 3
          · subst h3
            clear h1 h2 b1 b2
            obtain ⟨xe, hxe, htl⟩ := (HKp.out HZe.out).2 (.inl rfl)
            have HXe := Lib.hid hxe
            have hzd : zd = xe.id := by have := congrArg Rep.deed htl; exact this.symm
            have hzs : zs = xe.state := by have := congrArg Rep.state htl; exact this.symm
            have HTl : Hid (replyV xe.told = .agg #[.int .i64 ze, .int .u32 zd, .int .i64 zs, .int .i64 zw, .int .u32 zt, .int .u32 zm]) := Lib.hid (by rw [htl]; rfl)
            clear hxe htl
            have HZd : Hid (0 ≤ zd ∧ zd ≤ 4294967295) := Lib.hid (by
              have h1 := (HR11.out.rn.cel.inv.deed xe HXe.out).1
              omega)
            have HL9 : Hid (∀ v, fp (litD zd) = some v → v = .agg #[.int .i64 ze, .int .u32 zd, .int .i64 zs, .int .i64 zw, .int .u32 zt, .int .u32 zm]) := Lib.hid (fun v e => by rw [← HTl.out]; rw [hzd] at e; exact HR11.out.note.par HR11.out.rn.cel.inv HXe.out e)
            have HPut : Hid (∀ (W : World) (W' : World) {q : Nat}, zs ≠ 1 → Ro w W S2 c C2 (k + 1) q tb fb pb ft ff fp → (∃ n, n ≤ q + 1 ∧ MapIs Tryz.prog 24 W' pb (upd fp (litD zd) (.agg #[.int .i64 ze, .int .u32 zd, .int .i64 zs, .int .i64 zw, .int .u32 zt, .int .u32 zm])) n) → W.grownBy W' (some pb) → Ro w W' S2 c C2 (k + 1) (q + 1) tb fb pb ft ff (upd fp (litD zd) (.agg #[.int .i64 ze, .int .u32 zd, .int .i64 zs, .int .i64 zw, .int .u32 zt, .int .u32 zm]))) := Lib.hid (fun W W' _ h1 h2 h3 h4 => by
              rw [← HTl.out] at h3 ⊢
              rw [hzd] at h3 ⊢
              exact h2.putP HXe.out (by rw [← hzs]; exact h1) h3 h4)
            clear hzd hzs
            go_upto_region 30 with fail
            clear x0
            have hlr := look_reply (d := 0) (r := #[.int .i64 ze, .int .u32 zd, .int .i64 zs, .int .i64 zw, .int .u32 zt, .int .u32 zm]) HR11.out.mp HZd.out (fun v e => HL9.out v e)
            have y0 : w11.cell? ⟨gr, 0, none⟩ = some (.int .i64 ze) := HY11.out.cell 0
            have y1 : w11.cell? ⟨gr, 1, none⟩ = some (.int .u32 zd) := HY11.out.cell 1
            have y2 : w11.cell? ⟨gr, 2, none⟩ = some (.int .i64 zs) := HY11.out.cell 2
            have y3 : w11.cell? ⟨gr, 3, none⟩ = some (.int .i64 zw) := HY11.out.cell 3
            have y4 : w11.cell? ⟨gr, 4, none⟩ = some (.int .u32 zt) := HY11.out.cell 4
            have y5 : w11.cell? ⟨gr, 5, none⟩ = some (.int .u32 zm) := HY11.out.cell 5
            rcases hlr with hlr | hlr
            · as_aux_lemma =>
                have HY20 := Lib.hid (HY11.out.next (below_alloc _ (.cells #[.int .i64 0, .int .u32 0, .int .i64 0, .int .i64 0, .int .u32 0, .int .u32 0] 46)))
                have HR20 := Lib.hid (HR11.out.next (below_alloc _ (.cells #[.int .i64 0, .int .u32 0, .int .i64 0, .int .i64 0, .int .u32 0, .int .u32 0] 46)))
                have HQ20 := Lib.hid (Blk.new w11 #[.int .i64 0, .int .u32 0, .int .i64 0, .int .i64 0, .int .u32 0, .int .u32 0] 46)
                go_upto_region 31 with fail
                clear hlr y0 y1 y2 y3 y4 y5
                generalize w11.alloc (.cells #[.int .i64 0, .int .u32 0, .int .i64 0, .int .i64 0, .int .u32 0, .int .u32 0] 46) = w20 at HY20 HR20 HQ20 ⊢
                generalize w11.heap.size = gq at HQ20 ⊢
                have y0 : w20.cell? ⟨gr, 0, none⟩ = some (.int .i64 ze) := HY20.out.cell 0
                have y1 : w20.cell? ⟨gr, 1, none⟩ = some (.int .u32 zd) := HY20.out.cell 1
                have y2 : w20.cell? ⟨gr, 2, none⟩ = some (.int .i64 zs) := HY20.out.cell 2
                have y3 : w20.cell? ⟨gr, 3, none⟩ = some (.int .i64 zw) := HY20.out.cell 3
                have y4 : w20.cell? ⟨gr, 4, none⟩ = some (.int .u32 zt) := HY20.out.cell 4
                have y5 : w20.cell? ⟨gr, 5, none⟩ = some (.int .u32 zm) := HY20.out.cell 5
                have u0 : w20.cell? ⟨gq, 0, none⟩ = some (.int .i64 0) := HQ20.out.cell 0
                have u1 : w20.cell? ⟨gq, 1, none⟩ = some (.int .u32 0) := HQ20.out.cell 1
                have u2 : w20.cell? ⟨gq, 2, none⟩ = some (.int .i64 0) := HQ20.out.cell 2
                have u3 : w20.cell? ⟨gq, 3, none⟩ = some (.int .i64 0) := HQ20.out.cell 3
                have u4 : w20.cell? ⟨gq, 4, none⟩ = some (.int .u32 0) := HQ20.out.cell 4
                have u5 : w20.cell? ⟨gq, 5, none⟩ = some (.int .u32 0) := HQ20.out.cell 5
                by_cases hs1 : zs = 1
                · have e5 : (zs != 1) = false := by rw [hs1]; rfl
                  have e6 : zs = 1 := hs1
                  clear hs1
                  clear e6
                  go_wp2_with fail
                  go_roundw
                  case rel => exact ⟨k + 1, _, S2, C2, _, _, _, by have := Hlt.out; omega, by go_num, by have := H60.out; omega, by have := Hq.out; omega, HR20⟩
                  case measure => have := Hlt.out; simp [intOf]; omega
                · have e5 : (zs != 1) = true := by simpa using hs1
                  obtain ⟨w21, hr21, hm21, hg21⟩ := put_le HR20.out.mp (by have := H60.out; have := Hq.out; omega) key24 Tryz.underlying77 (.agg #[.int .i64 ze, .int .u32 zd, .int .i64 zs, .int .i64 zw, .int .u32 zt, .int .u32 zm]) (keyOf24 HZd.out) trivial
                  have HR21 := Lib.hid (HPut.out _ _ hs1 HR20.out hm21 hg21)
                  clear hs1 hm21 hg21
                  go_wp2_with fail
                  go_roundw
                  case rel => exact ⟨k + 1, _, S2, C2, _, _, _, by have := Hlt.out; omega, by go_num, by have := H60.out; omega, by have := Hq.out; omega, HR21⟩
                  case measure => have := Hlt.out; simp [intOf]; omega
            · as_aux_lemma =>
                have HY20 := Lib.hid (HY11.out.next (below_alloc _ (.cells #[.int .i64 ze, .int .u32 zd, .int .i64 zs, .int .i64 zw, .int .u32 zt, .int .u32 zm] 46)))
                have HR20 := Lib.hid (HR11.out.next (below_alloc _ (.cells #[.int .i64 ze, .int .u32 zd, .int .i64 zs, .int .i64 zw, .int .u32 zt, .int .u32 zm] 46)))
                have HQ20 := Lib.hid (Blk.new w11 #[.int .i64 ze, .int .u32 zd, .int .i64 zs, .int .i64 zw, .int .u32 zt, .int .u32 zm] 46)
                go_upto_region 31 with fail
                clear hlr y0 y1 y2 y3 y4 y5
                generalize w11.alloc (.cells #[.int .i64 ze, .int .u32 zd, .int .i64 zs, .int .i64 zw, .int .u32 zt, .int .u32 zm] 46) = w20 at HY20 HR20 HQ20 ⊢
                generalize w11.heap.size = gq at HQ20 ⊢
                have y0 : w20.cell? ⟨gr, 0, none⟩ = some (.int .i64 ze) := HY20.out.cell 0
                have y1 : w20.cell? ⟨gr, 1, none⟩ = some (.int .u32 zd) := HY20.out.cell 1
                have y2 : w20.cell? ⟨gr, 2, none⟩ = some (.int .i64 zs) := HY20.out.cell 2
                have y3 : w20.cell? ⟨gr, 3, none⟩ = some (.int .i64 zw) := HY20.out.cell 3
                have y4 : w20.cell? ⟨gr, 4, none⟩ = some (.int .u32 zt) := HY20.out.cell 4
                have y5 : w20.cell? ⟨gr, 5, none⟩ = some (.int .u32 zm) := HY20.out.cell 5
                have u0 : w20.cell? ⟨gq, 0, none⟩ = some (.int .i64 ze) := HQ20.out.cell 0
                have u1 : w20.cell? ⟨gq, 1, none⟩ = some (.int .u32 zd) := HQ20.out.cell 1
                have u2 : w20.cell? ⟨gq, 2, none⟩ = some (.int .i64 zs) := HQ20.out.cell 2
                have u3 : w20.cell? ⟨gq, 3, none⟩ = some (.int .i64 zw) := HQ20.out.cell 3
                have u4 : w20.cell? ⟨gq, 4, none⟩ = some (.int .u32 zt) := HQ20.out.cell 4
                have u5 : w20.cell? ⟨gq, 5, none⟩ = some (.int .u32 zm) := HQ20.out.cell 5
                by_cases hs1 : zs = 1
                · have e5 : (zs != 1) = false := by rw [hs1]; rfl
                  have e6 : zs = 1 := hs1
                  clear hs1
                  clear e6
                  go_wp2_with fail
                  go_roundw
                  case rel => exact ⟨k + 1, _, S2, C2, _, _, _, by have := Hlt.out; omega, by go_num, by have := H60.out; omega, by have := Hq.out; omega, HR20⟩
                  case measure => have := Hlt.out; simp [intOf]; omega
                · have e5 : (zs != 1) = true := by simpa using hs1
                  obtain ⟨w21, hr21, hm21, hg21⟩ := put_le HR20.out.mp (by have := H60.out; have := Hq.out; omega) key24 Tryz.underlying77 (.agg #[.int .i64 ze, .int .u32 zd, .int .i64 zs, .int .i64 zw, .int .u32 zt, .int .u32 zm]) (keyOf24 HZd.out) trivial
                  have HR21 := Lib.hid (HPut.out _ _ hs1 HR20.out hm21 hg21)
                  clear hs1 hm21 hg21
                  go_wp2_with fail
                  go_roundw
                  case rel => exact ⟨k + 1, _, S2, C2, _, _, _, by have := Hlt.out; omega, by go_num, by have := H60.out; omega, by have := Hq.out; omega, HR21⟩
                  case measure => have := Hlt.out; simp [intOf]; omega
          have b3 : (kd == 3) = false := bne_of h3
          by_cases h4 : kd = 4
          · subst h4
            clear h1 h2 h3 b1 b2 b3
            obtain ⟨xe, hxe, htl⟩ := (HKp.out HZe.out).2 (.inr rfl)
            have HXe := Lib.hid hxe
            have hzd : zd = xe.id := by have := congrArg Rep.deed htl; exact this.symm
            have hzs : zs = xe.state := by have := congrArg Rep.state htl; exact this.symm
            have HTl : Hid (replyV xe.told = .agg #[.int .i64 ze, .int .u32 zd, .int .i64 zs, .int .i64 zw, .int .u32 zt, .int .u32 zm]) := Lib.hid (by rw [htl]; rfl)
            clear hxe htl
            have HZd : Hid (0 ≤ zd ∧ zd ≤ 4294967295) := Lib.hid (by
              have h1 := (HR11.out.rn.cel.inv.deed xe HXe.out).1
              omega)
            have HL9 : Hid (∀ v, fp (litD zd) = some v → v = .agg #[.int .i64 ze, .int .u32 zd, .int .i64 zs, .int .i64 zw, .int .u32 zt, .int .u32 zm]) := Lib.hid (fun v e => by rw [← HTl.out]; rw [hzd] at e; exact HR11.out.note.par HR11.out.rn.cel.inv HXe.out e)
            have HPut : Hid (∀ (W : World) (W' : World) {q : Nat}, zs ≠ 1 → Ro w W S2 c C2 (k + 1) q tb fb pb ft ff fp → (∃ n, n ≤ q + 1 ∧ MapIs Tryz.prog 24 W' pb (upd fp (litD zd) (.agg #[.int .i64 ze, .int .u32 zd, .int .i64 zs, .int .i64 zw, .int .u32 zt, .int .u32 zm])) n) → W.grownBy W' (some pb) → Ro w W' S2 c C2 (k + 1) (q + 1) tb fb pb ft ff (upd fp (litD zd) (.agg #[.int .i64 ze, .int .u32 zd, .int .i64 zs, .int .i64 zw, .int .u32 zt, .int .u32 zm]))) := Lib.hid (fun W W' _ h1 h2 h3 h4 => by
              rw [← HTl.out] at h3 ⊢
              rw [hzd] at h3 ⊢
              exact h2.putP HXe.out (by rw [← hzs]; exact h1) h3 h4)
            clear hzd hzs
            go_upto_region 30 with fail
            clear x0
            have hlr := look_reply (d := 0) (r := #[.int .i64 ze, .int .u32 zd, .int .i64 zs, .int .i64 zw, .int .u32 zt, .int .u32 zm]) HR11.out.mp HZd.out (fun v e => HL9.out v e)
            have y0 : w11.cell? ⟨gr, 0, none⟩ = some (.int .i64 ze) := HY11.out.cell 0
            have y1 : w11.cell? ⟨gr, 1, none⟩ = some (.int .u32 zd) := HY11.out.cell 1
            have y2 : w11.cell? ⟨gr, 2, none⟩ = some (.int .i64 zs) := HY11.out.cell 2
            have y3 : w11.cell? ⟨gr, 3, none⟩ = some (.int .i64 zw) := HY11.out.cell 3
            have y4 : w11.cell? ⟨gr, 4, none⟩ = some (.int .u32 zt) := HY11.out.cell 4
            have y5 : w11.cell? ⟨gr, 5, none⟩ = some (.int .u32 zm) := HY11.out.cell 5
            rcases hlr with hlr | hlr
            · as_aux_lemma =>
                have HY20 := Lib.hid (HY11.out.next (below_alloc _ (.cells #[.int .i64 0, .int .u32 0, .int .i64 0, .int .i64 0, .int .u32 0, .int .u32 0] 46)))
                have HR20 := Lib.hid (HR11.out.next (below_alloc _ (.cells #[.int .i64 0, .int .u32 0, .int .i64 0, .int .i64 0, .int .u32 0, .int .u32 0] 46)))
                have HQ20 := Lib.hid (Blk.new w11 #[.int .i64 0, .int .u32 0, .int .i64 0, .int .i64 0, .int .u32 0, .int .u32 0] 46)
                go_upto_region 31 with fail
                clear hlr y0 y1 y2 y3 y4 y5
                generalize w11.alloc (.cells #[.int .i64 0, .int .u32 0, .int .i64 0, .int .i64 0, .int .u32 0, .int .u32 0] 46) = w20 at HY20 HR20 HQ20 ⊢
                generalize w11.heap.size = gq at HQ20 ⊢
                have y0 : w20.cell? ⟨gr, 0, none⟩ = some (.int .i64 ze) := HY20.out.cell 0
                have y1 : w20.cell? ⟨gr, 1, none⟩ = some (.int .u32 zd) := HY20.out.cell 1
                have y2 : w20.cell? ⟨gr, 2, none⟩ = some (.int .i64 zs) := HY20.out.cell 2
                have y3 : w20.cell? ⟨gr, 3, none⟩ = some (.int .i64 zw) := HY20.out.cell 3
                have y4 : w20.cell? ⟨gr, 4, none⟩ = some (.int .u32 zt) := HY20.out.cell 4
                have y5 : w20.cell? ⟨gr, 5, none⟩ = some (.int .u32 zm) := HY20.out.cell 5
                have u0 : w20.cell? ⟨gq, 0, none⟩ = some (.int .i64 0) := HQ20.out.cell 0
                have u1 : w20.cell? ⟨gq, 1, none⟩ = some (.int .u32 0) := HQ20.out.cell 1
                have u2 : w20.cell? ⟨gq, 2, none⟩ = some (.int .i64 0) := HQ20.out.cell 2
                have u3 : w20.cell? ⟨gq, 3, none⟩ = some (.int .i64 0) := HQ20.out.cell 3
                have u4 : w20.cell? ⟨gq, 4, none⟩ = some (.int .u32 0) := HQ20.out.cell 4
                have u5 : w20.cell? ⟨gq, 5, none⟩ = some (.int .u32 0) := HQ20.out.cell 5
                by_cases hs1 : zs = 1
                · have e5 : (zs != 1) = false := by rw [hs1]; rfl
                  have e6 : zs = 1 := hs1
                  clear hs1
                  clear e6
                  go_wp2_with fail
                  go_roundw
                  case rel => exact ⟨k + 1, _, S2, C2, _, _, _, by have := Hlt.out; omega, by go_num, by have := H60.out; omega, by have := Hq.out; omega, HR20⟩
                  case measure => have := Hlt.out; simp [intOf]; omega
                · have e5 : (zs != 1) = true := by simpa using hs1
                  obtain ⟨w21, hr21, hm21, hg21⟩ := put_le HR20.out.mp (by have := H60.out; have := Hq.out; omega) key24 Tryz.underlying77 (.agg #[.int .i64 ze, .int .u32 zd, .int .i64 zs, .int .i64 zw, .int .u32 zt, .int .u32 zm]) (keyOf24 HZd.out) trivial
                  have HR21 := Lib.hid (HPut.out _ _ hs1 HR20.out hm21 hg21)
                  clear hs1 hm21 hg21
                  go_wp2_with fail
                  go_roundw
                  case rel => exact ⟨k + 1, _, S2, C2, _, _, _, by have := Hlt.out; omega, by go_num, by have := H60.out; omega, by have := Hq.out; omega, HR21⟩
                  case measure => have := Hlt.out; simp [intOf]; omega
            · as_aux_lemma =>
                have HY20 := Lib.hid (HY11.out.next (below_alloc _ (.cells #[.int .i64 ze, .int .u32 zd, .int .i64 zs, .int .i64 zw, .int .u32 zt, .int .u32 zm] 46)))
                have HR20 := Lib.hid (HR11.out.next (below_alloc _ (.cells #[.int .i64 ze, .int .u32 zd, .int .i64 zs, .int .i64 zw, .int .u32 zt, .int .u32 zm] 46)))
                have HQ20 := Lib.hid (Blk.new w11 #[.int .i64 ze, .int .u32 zd, .int .i64 zs, .int .i64 zw, .int .u32 zt, .int .u32 zm] 46)
                go_upto_region 31 with fail
                clear hlr y0 y1 y2 y3 y4 y5
                generalize w11.alloc (.cells #[.int .i64 ze, .int .u32 zd, .int .i64 zs, .int .i64 zw, .int .u32 zt, .int .u32 zm] 46) = w20 at HY20 HR20 HQ20 ⊢
                generalize w11.heap.size = gq at HQ20 ⊢
                have y0 : w20.cell? ⟨gr, 0, none⟩ = some (.int .i64 ze) := HY20.out.cell 0
                have y1 : w20.cell? ⟨gr, 1, none⟩ = some (.int .u32 zd) := HY20.out.cell 1
                have y2 : w20.cell? ⟨gr, 2, none⟩ = some (.int .i64 zs) := HY20.out.cell 2
                have y3 : w20.cell? ⟨gr, 3, none⟩ = some (.int .i64 zw) := HY20.out.cell 3
                have y4 : w20.cell? ⟨gr, 4, none⟩ = some (.int .u32 zt) := HY20.out.cell 4
                have y5 : w20.cell? ⟨gr, 5, none⟩ = some (.int .u32 zm) := HY20.out.cell 5
                have u0 : w20.cell? ⟨gq, 0, none⟩ = some (.int .i64 ze) := HQ20.out.cell 0
                have u1 : w20.cell? ⟨gq, 1, none⟩ = some (.int .u32 zd) := HQ20.out.cell 1
                have u2 : w20.cell? ⟨gq, 2, none⟩ = some (.int .i64 zs) := HQ20.out.cell 2
                have u3 : w20.cell? ⟨gq, 3, none⟩ = some (.int .i64 zw) := HQ20.out.cell 3
                have u4 : w20.cell? ⟨gq, 4, none⟩ = some (.int .u32 zt) := HQ20.out.cell 4
                have u5 : w20.cell? ⟨gq, 5, none⟩ = some (.int .u32 zm) := HQ20.out.cell 5
                by_cases hs1 : zs = 1
                · have e5 : (zs != 1) = false := by rw [hs1]; rfl
                  have e6 : zs = 1 := hs1
                  clear hs1
                  clear e6
                  go_wp2_with fail
                  go_roundw
                  case rel => exact ⟨k + 1, _, S2, C2, _, _, _, by have := Hlt.out; omega, by go_num, by have := H60.out; omega, by have := Hq.out; omega, HR20⟩
                  case measure => have := Hlt.out; simp [intOf]; omega
                · have e5 : (zs != 1) = true := by simpa using hs1
                  obtain ⟨w21, hr21, hm21, hg21⟩ := put_le HR20.out.mp (by have := H60.out; have := Hq.out; omega) key24 Tryz.underlying77 (.agg #[.int .i64 ze, .int .u32 zd, .int .i64 zs, .int .i64 zw, .int .u32 zt, .int .u32 zm]) (keyOf24 HZd.out) trivial
                  have HR21 := Lib.hid (HPut.out _ _ hs1 HR20.out hm21 hg21)
                  clear hs1 hm21 hg21
                  go_wp2_with fail
                  go_roundw
                  case rel => exact ⟨k + 1, _, S2, C2, _, _, _, by have := Hlt.out; omega, by go_num, by have := H60.out; omega, by have := Hq.out; omega, HR21⟩
                  case measure => have := Hlt.out; simp [intOf]; omega
          have b4 : (kd == 4) = false := bne_of h4
          clear h1 h2 h3 h4
          go_wp2_with fail
          go_roundw
          case rel => exact ⟨k + 1, _, S2, C2, _, _, _, by have := Hlt.out; omega, by go_num, by have := H60.out; omega, by have := Hq.out; omega, HR11⟩
          case measure => have := Hlt.out; simp [intOf]; omega
        · have e0 : (ze != 0) = true := by simpa using hze
          obtain ⟨rfl, rfl, rfl, rfl, rfl⟩ := HBd.out hze
          clear hze
          have y1 : w11.cell? ⟨gr, 1, none⟩ = some (.int .u32 0) := HY11.out.cell 1
          have y2 : w11.cell? ⟨gr, 2, none⟩ = some (.int .i64 0) := HY11.out.cell 2
          have y3 : w11.cell? ⟨gr, 3, none⟩ = some (.int .i64 0) := HY11.out.cell 3
          have y4 : w11.cell? ⟨gr, 4, none⟩ = some (.int .u32 0) := HY11.out.cell 4
          have y5 : w11.cell? ⟨gr, 5, none⟩ = some (.int .u32 0) := HY11.out.cell 5
          go_wp2_with fail
          go_roundw
          case rel => exact ⟨k + 1, _, S2, C2, _, _, _, by have := Hlt.out; omega, by go_num, by have := H60.out; omega, by have := Hq.out; omega, HR11⟩
          case measure => have := Hlt.out; simp [intOf]; omega
      · go_wp2_with (first
          | (go_at_call 16; refine (HLt.out _ (bel_refl _)).mono ?_; rintro e w4 ⟨hs4, hb4⟩; obtain ⟨z, rfl, hz⟩ := says_out hs4; have hzf : z = false := (by cases z with | false => rfl | true => exact absurd (hz.1 rfl) hl); subst hzf; have HB4 := Lib.hid hb4; clear hs4 hz hb4)
          | fail)
        go_ret
        exact ⟨rfl, bel_trans HR3.out.bel HB4.out⟩
    · obtain rfl : k = L.length := by omega
      go_wp2_with fail
      go_ret
      exact ⟨rfl, HR.out.bel⟩
end Go.Proofs.YtbaflgddpciadaaGreat
