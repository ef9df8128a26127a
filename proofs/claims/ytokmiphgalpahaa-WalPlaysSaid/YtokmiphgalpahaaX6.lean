/- A disk and the document's, side by side; Does (18). -/
import Derived.Test.YtokmiphgalpahaaX1
import Derived.Test.YtokmiphgalpahaaX3
import Derived.Test.YtokmiphgalpahaaX5
namespace Go.Proofs.Ytokmiphgalpahaa
open Go.RowKit Go.Kt
set_option maxRecDepth 100000

/-- a disk and the document's, made since w0, apart, and apart from what H names -/
structure B2 (w0 w : World) (d mb m : Nat) (P Q : Pd) (H : Nat → Prop) : Prop where
  ex : ∃ F G, DAt F w d mb P ∧ RAt G w m Q ∧ (∀ x, F x → w0.heap.size ≤ x ∧ x < w.heap.size ∧ ¬ G x ∧ ¬ H x) ∧ (∀ x, G x → w0.heap.size ≤ x ∧ x < w.heap.size ∧ ¬ H x)
  bel : Below w0.heap.size w0 w
variable {w0 w w' W : World} {d mb m : Nat} {P Q : Pd} {H H' : Nat → Prop}
theorem B2.next (h : B2 w0 w d mb m P Q H) (hb : Below w.heap.size w w') (hH : ∀ x, H' x → H x ∨ w.heap.size ≤ x) : B2 w0 w' d mb m P Q H' := by
  obtain ⟨⟨F, G, hD, ⟨lv, rs, hR⟩, hF, hG⟩, hbel⟩ := h
  have hs := hb.size
  have hn : ∀ x, H' x → x < w.heap.size → H x := fun x hx hl => by
    rcases hH x hx with h | h
    · exact h
    · omega
  exact ⟨⟨F, G, hD.next hb, ⟨lv, rs, hR.next hb⟩, fun x hx => by
    obtain ⟨a, b, c, e⟩ := hF x hx
    exact ⟨a, by omega, c, fun hh => e (hn x hh b)⟩, fun x hx => by
    obtain ⟨a, b, e⟩ := hG x hx
    exact ⟨a, by omega, fun hh => e (hn x hh b)⟩⟩, bel_trans hbel hb⟩
theorem B2.turn (h : B2 w0 w d mb m P Q H) (ht : Turn H w w') (hH : ∀ x, H x → w0.heap.size ≤ x) : B2 w0 w' d mb m P Q H := by
  obtain ⟨⟨F, G, hD, ⟨lv, rs, hR⟩, hF, hG⟩, hbel⟩ := h
  have hs := ht.size
  exact ⟨⟨F, G, hD.keep ht (fun x hx => (hF x hx).2.2.2), ⟨lv, rs, hR.keep ht (fun x hx => (hG x hx).2.2)⟩, fun x hx => by
    obtain ⟨a, b, c, e⟩ := hF x hx
    exact ⟨a, by omega, c, e⟩, fun x hx => by
    obtain ⟨a, b, e⟩ := hG x hx
    exact ⟨a, by omega, e⟩⟩, hbel.trans (ht.bel hbel.size hH)⟩
theorem B2.ok (h : B2 w0 w d mb m P Q H) : PdOk P := by
  obtain ⟨⟨F, G, hD, _⟩, _⟩ := h
  exact hD.ok
/-- a call that turns the disk -/
theorem B2.dcall (h : B2 w0 w d mb m P Q H) (hH : ∀ x, H x → x < w.heap.size) {r : Int × Pd} {f : FuncId} {args : Array Value} (hc : ∀ F, DAt F w d mb P → (∀ x, F x → w0.heap.size ≤ x ∧ ¬ H x) → Calls Try.prog f args w (Done F w d mb r)) :
    Calls Try.prog f args w fun e w' => e = .returned (.int .i64 r.1) ∧ B2 w0 w' d mb m r.2 Q H ∧ Turn (fun x => w0.heap.size ≤ x ∧ ¬ H x) w w' := by
  obtain ⟨⟨F, G, hD, ⟨lv, rs, hR⟩, hF, hG⟩, hbel⟩ := h
  refine (hc F hD (fun x hx => ⟨(hF x hx).1, (hF x hx).2.2.2⟩)).mono ?_
  rintro e w1 ⟨he, hD1, hT⟩
  have hs := hT.size
  have hs0 := hbel.size
  refine ⟨he, ⟨⟨_, G, hD1, ⟨lv, rs, hR.keep hT (fun x hx hf => (hF x hf).2.2.1 hx)⟩, fun x hx => ?_, fun x hx => ?_⟩, hbel.trans (hT.bel hs0 (fun x hx => (hF x hx).1))⟩, hT.mono (fun x hx => ⟨(hF x hx).1, (hF x hx).2.2.2⟩)⟩
  · rcases hx with hx | hx
    · obtain ⟨a, b, c, e⟩ := hF x hx
      exact ⟨a, by omega, c, e⟩
    · exact ⟨by omega, hx.2, fun hg => by have := (hG x hg).2.1; omega, fun hh => by have := hH x hh; omega⟩
  · obtain ⟨a, b, e⟩ := hG x hx
    exact ⟨a, by omega, e⟩
/-- a call that turns the document's disk -/
theorem B2.rcall (h : B2 w0 w d mb m P Q H) (hH : ∀ x, H x → x < w.heap.size) {Q' : Pd} {f : FuncId} {args : Array Value} {v : Value} (hc : ∀ G lv rs, RefIs G w m Q lv rs → (∀ x, G x → w0.heap.size ≤ x ∧ ¬ H x) → Calls Try.prog f args w fun e w' => e = .returned v ∧ RAt (Plus G w w') w' m Q' ∧ Turn G w w') :
    Calls Try.prog f args w fun e w' => e = .returned v ∧ B2 w0 w' d mb m P Q' H ∧ Turn (fun x => w0.heap.size ≤ x ∧ ¬ H x) w w' := by
  obtain ⟨⟨F, G, hD, ⟨lv, rs, hR⟩, hF, hG⟩, hbel⟩ := h
  refine (hc G lv rs hR (fun x hx => ⟨(hG x hx).1, (hG x hx).2.2⟩)).mono ?_
  rintro e w1 ⟨he, hR1, hT⟩
  have hs := hT.size
  have hs0 := hbel.size
  refine ⟨he, ⟨⟨F, _, hD.keep hT (fun x hx => (hF x hx).2.2.1), hR1, fun x hx => ?_, fun x hx => ?_⟩, hbel.trans (hT.bel hs0 (fun x hx => (hG x hx).1))⟩, hT.mono (fun x hx => ⟨(hG x hx).1, (hG x hx).2.2⟩)⟩
  · obtain ⟨a, b, c, e⟩ := hF x hx
    refine ⟨a, by omega, fun hg => ?_, e⟩
    rcases hg with hg | hg
    · exact c hg
    · omega
  · rcases hx with hx | hx
    · obtain ⟨a, b, e⟩ := hG x hx
      exact ⟨a, by omega, e⟩
    · exact ⟨by omega, hx.2, fun hh => by have := hH x hh; omega⟩
/-- the document's own cells -/
theorem B2.mcell (h : B2 w0 w d mb m P Q H) : w.cell? ⟨m, 2, none⟩ = some (.int .i64 Q.fuse) ∧ w.cell? ⟨m, 3, none⟩ = some (.bool Q.down) ∧ w.frozen? ⟨m, 2, none⟩ = false ∧ m < w.heap.size ∧ ¬ H m ∧ w0.heap.size ≤ m := by
  obtain ⟨⟨F, G, hD, ⟨lv, rs, hR⟩, hF, hG⟩, hbel⟩ := h
  exact ⟨hR.cell.2.2.1, hR.cell.2.2.2, hR.blk.free 2, hR.blk.lt, (hG m hR.Gm).2.2, (hG m hR.Gm).1⟩
theorem B2.mfuse (h : B2 w0 w d mb m P Q H) (x : Int) : B2 w0 (w.setCell ⟨m, 2, none⟩ (.int .i64 x)) d mb m P { Q with fuse := x } H := by
  obtain ⟨⟨F, G, hD, ⟨lv, rs, hR⟩, hF, hG⟩, hbel⟩ := h
  have hT : Turn (· = m) w (w.setCell ⟨m, 2, none⟩ (.int .i64 x)) := (Turn.refl (· = m) w).set (a := ⟨m, 2, none⟩) rfl _
  have hs := hT.size
  refine ⟨⟨F, G, hD.keep hT (fun y hy e => (hF y hy).2.2.1 (e ▸ hR.Gm)), ⟨lv, rs, ref_own (P' := { Q with fuse := x }) hR hT rfl (hR.blk.set 2 _)⟩, fun y hy => ?_, fun y hy => ?_⟩, hbel.trans (hT.bel hbel.size (fun y hy => hy ▸ (hG m hR.Gm).1))⟩
  · obtain ⟨a, b, c, e⟩ := hF y hy
    exact ⟨a, by omega, c, e⟩
  · obtain ⟨a, b, e⟩ := hG y hy
    exact ⟨a, by omega, e⟩
theorem ok29 : ElemOk Try.prog 36 3 (.int .i64 0) 1 8 := ⟨Try.underlying36, info_parts (by kernel_rfl), rfl, by decide⟩
theorem z_one (l : List Int) : ∀ u ∈ l.map encZ, u.oneCell' = true := by
  intro u hu
  obtain ⟨z, _, rfl⟩ := List.mem_map.1 hu
  rfl
/-- what a step does to the plain data -/
def Pd.step (P : Pd) (o : Op) : Pd :=
  if o.kind = 0 then (P.app o.n o.p).2
  else if o.kind = 1 then (P.sync o.n).2
  else if o.kind = 2 then (P.drop o.n).2
  else if o.kind = 3 then (P.setFuse o.n).2
  else if o.kind = 4 then P.crash o.keep
  else P
theorem xor_fin : ∀ n : Fin 256, bits BinOp.xor IntKind.u8 ((n.val : Nat) : Int) 255 = (((UInt8.ofNat (n.val ^^^ 255)).toNat : Nat) : Int) := by decide +kernel
theorem xor_byte (b : UInt8) : ∃ u : UInt8, bits BinOp.xor IntKind.u8 (b.toNat : Int) 255 = (u.toNat : Int) := ⟨_, xor_fin ⟨b.toNat, b.toNat_lt⟩⟩
theorem blk_turn {F : Nat → Prop} {g : Nat} {cs : Array Value} {t : TypeId} (h : Blk w g cs t) (ht : Turn F w w') (hg : ¬ F g) : Blk w' g cs t := (ht.block g h.lt hg).trans h
set_option maxRecDepth 100000 in
set_option maxHeartbeats 4000000 in
theorem does_any (h : B2 w0 w d mb m P P (fun _ => False)) (o : Op) {pv kv : Value} (hop : OpOk w0 o pv kv) (hkl : o.keep.length * 8 ≤ 140737488355328) (hpl : o.p.length ≤ 3000) : Calls Try.prog 14 #[.pointer (some ⟨d, 0, none⟩), .pointer (some ⟨m, 0, none⟩), .agg #[.int .i64 o.kind, .int .i64 o.n, pv, kv]] w fun e w' => e = .returned (.bool true) ∧ B2 w0 w' d mb m (P.step o) (P.step o) (fun _ => False) := by
  have Hok := Lib.hid h.ok
  have Hop := Lib.hid hop
  obtain ⟨pa, pc, rfl, hpc, hpb, _⟩ := hop.p.open
  obtain ⟨_, ka, kc, rfl, hkc, hkb, _⟩ := hop.keep
  have HB : Hid (∀ W, Below (w.alloc (.cells #[.int .i64 o.kind, .int .i64 o.n, .slice pa o.p.length pc, .slice ka o.keep.length kc] 46)).heap.size (w.alloc (.cells #[.int .i64 o.kind, .int .i64 o.n, .slice pa o.p.length pc, .slice ka o.keep.length kc] 46)) W →
      B2 w0 W d mb m P P (fun x => x = w.heap.size) ∧ (∀ x, x = w.heap.size → x < W.heap.size) ∧ Blk W w.heap.size #[.int .i64 o.kind, .int .i64 o.n, .slice pa o.p.length pc, .slice ka o.keep.length kc] 46) := Lib.hid (fun W hW => by
    have hb1 := below_alloc w (.cells #[.int .i64 o.kind, .int .i64 o.n, .slice pa o.p.length pc, .slice ka o.keep.length kc] 46)
    have hs : w.heap.size < W.heap.size := by have := hW.size; simp at this; omega
    exact ⟨h.next (bel_trans hb1 hW) (fun x hx => .inr (by omega)), fun x hx => by omega, (Blk.new w _ 46).next hW⟩)
  have Hbel := Lib.hid h.bel
  have hbs := h.bel.size
  have hx1 := bel_refl (w.alloc (.cells #[.int .i64 o.kind, .int .i64 o.n, .slice pa o.p.length pc, .slice ka o.keep.length kc] 46))
  have k0 := (HB.out _ hx1).2.2.cell 0
  have k1 := (HB.out _ hx1).2.2.cell 1
  have k2 := (HB.out _ hx1).2.2.cell 2
  have k3 := (HB.out _ hx1).2.2.cell 3
  have H0 := Lib.hid h
  clear h hop
  by_cases hk1 : o.kind = 1
  · have e0 : (o.kind == 0) = false := by rw [beq_eq_false_iff_ne]; omega
    have e1 : (o.kind == 1) = true := by rw [beq_iff_eq]; exact hk1
    have Hst : Hid (P.step o = (P.sync o.n).2) := Lib.hid (by unfold Pd.step; rw [if_neg (by omega), if_pos hk1])
    clear hk1
    go_enter Try.func14, Try.ntmps14
    go_upto_region 12 with fail
    go_region_held3 (fun w' => w'.cell? ⟨w.heap.size, 1, none⟩ = some (.int .i64 o.n))
      (first | go_keep | exact x3 | exact x4)
      (first
        | (go_at_call 28; refine (((HB.out _ (by repeat (first | assumption | apply bel_alloc | apply bel_drew | apply bel_drewN))).1).dcall (HB.out _ (by repeat (first | assumption | apply bel_alloc | apply bel_drew | apply bel_drewN))).2.1 (fun F hD _ => sync_any hD Hop.out.n)).mono ?_; rintro e w3 ⟨rfl, hB3, hT3⟩; have HB3 := Lib.hid hB3; have HX3 := Lib.hid (blk_turn (HB.out _ (by repeat (first | assumption | apply bel_alloc | apply bel_drew | apply bel_drewN))).2.2 hT3 (fun hh => hh.2 rfl)); have x3 : w3.cell? ⟨w.heap.size, 1, none⟩ = some (.int .i64 o.n) := HX3.out.cell 1; have hx3 := bel_refl w3; clear hB3 hT3)
        | (go_at_call 18; refine ((HB3.out.next (H' := fun x => x = w.heap.size) (by repeat (first | assumption | apply bel_alloc | apply bel_drew | apply bel_drewN)) (fun x hx => .inl hx)).rcall (fun x hx => by have := HX3.out.lt; subst hx; simpa using this) (fun G lv rs hR _ => sync_ref hR Hok.out o.n)).mono ?_; rintro e w4 ⟨rfl, hB4, hT4⟩; have HB4 := Lib.hid hB4; have x4 : w4.cell? ⟨w.heap.size, 1, none⟩ = some (.int .i64 o.n) := (blk_turn HX3.out hT4 (fun hh => hh.2 rfl)).cell 1; have hx4 := bel_refl w4; clear hB4 hT4))
    all_goals (go_wp2_with fail)
    all_goals go_ret
    all_goals (refine ⟨rfl, ?_⟩; rw [Hst.out]; exact HB4.out.next (by repeat (first | assumption | apply bel_alloc | apply bel_drew | apply bel_drewN)) (fun x hx => hx.elim))
  by_cases hk2 : o.kind = 2
  · have e0 : (o.kind == 0) = false := by rw [beq_eq_false_iff_ne]; omega
    have e1 : (o.kind == 1) = false := by rw [beq_eq_false_iff_ne]; omega
    have e2 : (o.kind == 2) = true := by rw [beq_iff_eq]; exact hk2
    have Hst : Hid (P.step o = (P.drop o.n).2) := Lib.hid (by unfold Pd.step; rw [if_neg (by omega), if_neg (by omega), if_pos hk2])
    clear hk2
    go_enter Try.func14, Try.ntmps14
    go_upto_region 14 with fail
    go_region_held3 (fun w' => w'.cell? ⟨w.heap.size, 1, none⟩ = some (.int .i64 o.n))
      (first | go_keep | exact x3 | exact x4)
      (first
        | (go_at_call 29; refine (((HB.out _ (by repeat (first | assumption | apply bel_alloc | apply bel_drew | apply bel_drewN))).1).dcall (HB.out _ (by repeat (first | assumption | apply bel_alloc | apply bel_drew | apply bel_drewN))).2.1 (fun F hD _ => drop_any hD Hop.out.n)).mono ?_; rintro e w3 ⟨rfl, hB3, hT3⟩; have HB3 := Lib.hid hB3; have HX3 := Lib.hid (blk_turn (HB.out _ (by repeat (first | assumption | apply bel_alloc | apply bel_drew | apply bel_drewN))).2.2 hT3 (fun hh => hh.2 rfl)); have x3 : w3.cell? ⟨w.heap.size, 1, none⟩ = some (.int .i64 o.n) := HX3.out.cell 1; have hx3 := bel_refl w3; clear hB3 hT3)
        | (go_at_call 31; refine ((HB3.out.next (H' := fun x => x = w.heap.size) (by repeat (first | assumption | apply bel_alloc | apply bel_drew | apply bel_drewN)) (fun x hx => .inl hx)).rcall (fun x hx => by have := HX3.out.lt; subst hx; simpa using this) (fun G lv rs hR _ => drop_ref hR Hok.out o.n)).mono ?_; rintro e w4 ⟨rfl, hB4, hT4⟩; have HB4 := Lib.hid hB4; have x4 : w4.cell? ⟨w.heap.size, 1, none⟩ = some (.int .i64 o.n) := (blk_turn HX3.out hT4 (fun hh => hh.2 rfl)).cell 1; have hx4 := bel_refl w4; clear hB4 hT4))
    all_goals (go_wp2_with fail)
    all_goals go_ret
    all_goals (refine ⟨rfl, ?_⟩; rw [Hst.out]; exact HB4.out.next (by repeat (first | assumption | apply bel_alloc | apply bel_drew | apply bel_drewN)) (fun x hx => hx.elim))
  by_cases hk3 : o.kind = 3
  · have e0 : (o.kind == 0) = false := by rw [beq_eq_false_iff_ne]; omega
    have e1 : (o.kind == 1) = false := by rw [beq_eq_false_iff_ne]; omega
    have e2 : (o.kind == 2) = false := by rw [beq_eq_false_iff_ne]; omega
    have e3 : (o.kind == 3) = true := by rw [beq_iff_eq]; exact hk3
    have Hst : Hid (P.step o = (P.setFuse o.n).2) := Lib.hid (by unfold Pd.step; rw [if_neg (by omega), if_neg (by omega), if_neg (by omega), if_pos hk3])
    obtain ⟨m2, m3, mf, ml, mh, mw⟩ := (HB.out _ hx1).1.mcell
    have Hmh := Lib.hid mh
    clear hk3 hk1 hk2 mh
    cases hdn : P.down with
    | true =>
      rw [hdn] at m3
      have HS : Hid (P.setFuse o.n = (5, P)) := Lib.hid (by unfold Pd.setFuse; rw [if_pos hdn])
      go_enter Try.func14, Try.ntmps14
      go_wp2_with (go_at_call 32; refine (((HB.out _ hx1).1).dcall (HB.out _ hx1).2.1 (fun F hD _ => setFuse_any hD Hop.out.n)).mono ?_; rw [HS.out]; rintro e w3 ⟨rfl, hB3, hT3⟩; have HB3 := Lib.hid hB3; clear hB3 hT3)
      go_ret
      refine ⟨rfl, ?_⟩
      rw [Hst.out, HS.out]
      exact HB3.out.next (bel_refl _) (fun x hx => hx.elim)
    | false =>
      rw [hdn] at m3
      have HS : Hid (P.setFuse o.n = (0, { P with fuse := max o.n (-1) })) := Lib.hid (by unfold Pd.setFuse; rw [if_neg (by rw [hdn]; simp)])
      have HBf := Lib.hid ((HB.out _ hx1).1.mfuse (max o.n (-1)))
      have hsz := (HB.out _ hx1).2.1 _ rfl
      have hmb : m ≠ w.heap.size := fun e => Hmh.out e
      have HBl := Lib.hid ((HB.out _ hx1).2.2.other (p := ⟨m, 2, none⟩) (fun e => Hmh.out e.symm) (.int .i64 (max o.n (-1))))
      have x1 := HBl.out.cell 1
      go_enter Try.func14, Try.ntmps14
      go_wp2_with (go_at_call 32; refine (HBf.out.dcall (fun x hx => by subst hx; exact HBl.out.lt) (fun F hD _ => setFuse_any hD Hop.out.n)).mono ?_; rw [HS.out]; rintro e w3 ⟨rfl, hB3, hT3⟩; have HB3 := Lib.hid hB3; clear hB3 hT3)
      go_ret
      refine ⟨rfl, ?_⟩
      rw [Hst.out, HS.out]
      exact HB3.out.next (bel_refl _) (fun x hx => hx.elim)
  by_cases hk4 : o.kind = 4
  · have e0 : (o.kind == 0) = false := by rw [beq_eq_false_iff_ne]; omega
    have e1 : (o.kind == 1) = false := by rw [beq_eq_false_iff_ne]; omega
    have e2 : (o.kind == 2) = false := by rw [beq_eq_false_iff_ne]; omega
    have e3 : (o.kind == 3) = false := by rw [beq_eq_false_iff_ne]; omega
    have e4 : (o.kind == 4) = true := by rw [beq_iff_eq]; exact hk4
    have Hst : Hid (P.step o = P.crash o.keep) := Lib.hid (by unfold Pd.step; rw [if_neg (by omega), if_neg (by omega), if_neg (by omega), if_neg (by omega), if_pos hk4])
    clear hk1 hk2 hk3 hk4
    go_enter Try.func14, Try.ntmps14
    go_wp2_with fail
    refine (((HB.out _ hx1).1).rcall (HB.out _ hx1).2.1 (fun G lv rs hR _ => crash_ref hR Hok.out (RdRow.below Hop.out.keep (HB.out _ hx1).1.bel))).mono ?_
    rintro e w3 ⟨rfl, hB3, hT3⟩
    have HB3 := Lib.hid hB3
    have HX3 := Lib.hid (blk_turn (HB.out _ hx1).2.2 hT3 (fun hh => hh.2 rfl))
    have x3 : w3.cell? ⟨w.heap.size, 3, none⟩ = some (.slice ka o.keep.length kc) := HX3.out.cell 3
    have hl3 := HX3.out.lt
    clear hB3 hT3
    go_wp2_with (at_builtin; apply Hold.mk)
    unfold Hold
    refine wpList_app rfl _ _ 36 rfl ok29 (by rfl) (by rfl) (own_lit_at (g := _) 3 1 #[] 0 (by simp [maxLen]) rfl (by simp)) (RdRow.below Hop.out.keep (bel_alloc HB3.out.bel)) (z_one _) (by simp only [maxLen]; omega) (by omega) ?_
    intro v7 w7 ho7 hg7 hn7
    simp only [List.nil_append, Nat.zero_add] at ho7
    have hs7 : w3.heap.size < w7.heap.size := by have := hg7.size; simp at this; omega
    have hb7 : Below w3.heap.size w3 w7 := (below_alloc w3 (.cells #[] 3)).grown hg7 (by simp) (fun k hk => by cases hk; simp)
    have HB7 := Lib.hid (HB3.out.next (H' := fun x => w3.heap.size ≤ x ∧ x < w7.heap.size) hb7 (fun x hx => .inr hx.1))
    have HO7 : Hid (RdRow 1 w7 v7 o.keep.length (o.keep.map encZ)) := Lib.hid (by simpa using ho7.rd)
    have HN7 : Hid (∀ x, v7.ownBlock = some x → w3.heap.size ≤ x ∧ x < w7.heap.size) := Lib.hid (fun x hx => ⟨by
      rcases hn7 x hx with h | h
      · cases h; simp
      · simp at h; omega, ho7.lt x hx⟩)
    clear ho7 hg7 hn7 hb7
    go_wp2_with fail
    refine (HB7.out.dcall (fun x hx => hx.2) (fun F hD hF => crashD_any hD HO7.out (fun x hx _ hf => (hF x hf).2 (HN7.out x hx)) (fun x hx _ => (HN7.out x hx).2))).mono ?_
    rintro e w8 ⟨rfl, hB8, hT8⟩
    have HB8 := Lib.hid hB8
    clear hB8 hT8
    go_wp2_with fail
    go_ret
    refine ⟨rfl, ?_⟩
    rw [Hst.out]
    exact HB8.out.next (bel_refl _) (fun x hx => hx.elim)
  by_cases hk0 : o.kind = 0
  · have e0 : (o.kind == 0) = true := by rw [beq_iff_eq]; exact hk0
    have Hst : Hid (P.step o = (P.app o.n o.p).2) := Lib.hid (by unfold Pd.step; rw [if_pos hk0])
    clear hk0 hk1 hk2 hk3 hk4
    go_enter Try.func14, Try.ntmps14
    go_wp2_with (at_builtin; apply Hold.mk)
    unfold Hold
    generalize hw1 : w.alloc (.cells #[.int .i64 o.kind, .int .i64 o.n, .slice pa o.p.length pc, .slice ka o.keep.length kc] 46) = w1 at *
    have hsz1 : w1.heap.size = w.heap.size + 1 := by rw [← hw1]; simp
    refine wpList_app8_mine rfl _ _ 22 rfl ok28 [] o.p (by rfl) (by rfl) w1 (below_alloc w1 _) (mine8_at (g := _) (n := 0) [] (by simp [maxLen]) rfl (by first | rfl | (rw [hsz1]) | (simp [hsz1])) (Nat.le_refl _) rfl) (Hop.out.p.below (bel_alloc (HB.out _ hx1).1.bel)) (by simp; omega) ?_
    intro v7 w7 hm7 hb7 hg7 hz7
    simp only [List.nil_append] at hm7
    have hs17 : w1.heap.size ≤ w7.heap.size := hb7.size
    obtain ⟨va, vcap, rfl, _⟩ := hm7.rd.open
    have HB7 := Lib.hid ((HB.out _ hx1).1.next (H' := fun x => w.heap.size ≤ x ∧ x < w7.heap.size) hb7 (fun x hx => by
      rcases Nat.lt_or_ge x w1.heap.size with h | h
      · exact .inl (by omega)
      · exact .inr h))
    have HM7 := Lib.hid hm7
    have HX7 := Lib.hid ((HB.out _ hx1).2.2.next hb7)
    have x1 : w7.cell? ⟨w.heap.size, 1, none⟩ = some (.int .i64 o.n) := HX7.out.cell 1
    have HV7 : Hid (∀ x, (Value.slice va o.p.length vcap).ownBlock = some x → w1.heap.size ≤ x ∧ x < w7.heap.size) := Lib.hid (fun x hx => ⟨hm7.2 x hx, hm7.1.lt x hx⟩)
    clear hm7 hb7 hg7 hz7 hw1
    go_wp2_with fail
    refine (HB7.out.dcall (fun x hx => hx.2) (fun F hD hF => app_any hD Hop.out.n HM7.out.rd (fun x hx _ hf => (hF x hf).2 ⟨by have := (HV7.out x hx).1; omega, (HV7.out x hx).2⟩) (fun x hx _ => (HV7.out x hx).2))).mono ?_
    rintro e w8 ⟨rfl, hB8, hT8⟩
    have hs78 : w7.heap.size ≤ w8.heap.size := hT8.size
    have HB8 := Lib.hid hB8
    have HX8 := Lib.hid (blk_turn HX7.out hT8 (fun hh => hh.2 ⟨Nat.le_refl _, HX7.out.lt⟩))
    have HM8 : Hid (Mine8 5 w1 w8 (.slice va o.p.length vcap) o.p) := Lib.hid ⟨Own.keep HM7.out.1 fun b hb => hT8.block b (HM7.out.1.lt b hb) (fun hh => hh.2 ⟨by have := (HV7.out b hb).1; omega, (HV7.out b hb).2⟩), HM7.out.2⟩
    clear hB8 hT8
    go_wp2_with fail
    go_loopw [9, 25] (fun _ iv wi => ∃ (j : Nat) (l' : List UInt8), j ≤ o.p.length ∧ iv = .int .i64 j ∧ Hid (l'.length = o.p.length) ∧ Hid (Mine8 5 w1 wi (.slice va o.p.length vcap) l') ∧ Hid (Turn (fun x => (Value.slice va o.p.length vcap).ownBlock = some x) w8 wi)) (fun _ iv _ => o.p.length - (intOf iv).toNat)
    case atStart => exact ⟨0, o.p, by omega, rfl, Lib.hid rfl, HM8, Lib.hid (Turn.refl _ _)⟩
    case round =>
      obtain ⟨j, l', hj, rfl, Hl', HMj, HTj⟩ := hrel
      by_cases hjl : j < o.p.length
      · obtain ⟨g2, hg2, hz2, c5, f5, hset⟩ := HMj.out.place j (by rw [Hl'.out]; exact hjl)
        subst hg2
        have Hset := Lib.hid hset
        have hj1 : (0 : Int) ≤ (j : Int) := by omega
        have hj2 : (j : Int) < (o.p.length : Int) := by omega
        generalize l'[j]'(by rw [Hl'.out]; exact hjl) = by1 at *
        obtain ⟨u, hu⟩ := xor_byte by1
        have Hu := Lib.hid hu
        clear hset hu
        go_wp2_with fail
        rw [Hu.out]
        go_roundw
        case rel => exact ⟨j + 1, l'.set j u, by omega, by go_num, Lib.hid (by rw [List.length_set, Hl'.out]), Lib.hid (Hset.out u), Lib.hid (HTj.out.set (a := ⟨g2, j, none⟩) rfl _)⟩
        case measure => simp [intOf] <;> omega
      · obtain rfl : j = o.p.length := by omega
        have HBi := Lib.hid (HB8.out.turn (HTj.out.mono (fun x hx => ⟨by have := (HV7.out x hx).1; omega, (HV7.out x hx).2⟩)) (fun x hx => by have := hx.1; omega))
        have HXi := Lib.hid (blk_turn HX8.out HTj.out (fun hh => by have := (HV7.out _ hh).1; omega))
        have hsi : w8.heap.size ≤ wr.heap.size := HTj.out.size
        have y1 : wr.cell? ⟨w.heap.size, 1, none⟩ = some (.int .i64 o.n) := HXi.out.cell 1
        have y2 : wr.cell? ⟨w.heap.size, 2, none⟩ = some (.slice pa o.p.length pc) := HXi.out.cell 2
        go_wp2_with fail
        refine (HBi.out.rcall (fun x hx => by have := hx.2; omega) (fun G lv rs hR hG => app_ref hR Hok.out o.n (Hop.out.p.below HBi.out.bel) (fun x hx hp hg => by have := rd_lt Hop.out.p (by simpa using hp) x hx; have := (hG x hg).1; omega))).mono ?_
        rintro e w9 ⟨rfl, hB9, hT9⟩
        have HB9 := Lib.hid hB9
        clear hB9 hT9
        go_wp2_with fail
        go_ret
        refine ⟨by simp, ?_⟩
        rw [Hst.out]
        exact HB9.out.next (bel_refl _) (fun x hx => hx.elim)
  · have e0 : (o.kind == 0) = false := by rw [beq_eq_false_iff_ne]; omega
    have e1 : (o.kind == 1) = false := by rw [beq_eq_false_iff_ne]; omega
    have e2 : (o.kind == 2) = false := by rw [beq_eq_false_iff_ne]; omega
    have e3 : (o.kind == 3) = false := by rw [beq_eq_false_iff_ne]; omega
    have e4 : (o.kind == 4) = false := by rw [beq_eq_false_iff_ne]; omega
    have Hst : Hid (P.step o = P) := Lib.hid (by unfold Pd.step; rw [if_neg (by omega), if_neg (by omega), if_neg (by omega), if_neg (by omega), if_neg (by omega)])
    clear hk0 hk1 hk2 hk3 hk4
    go_enter Try.func14, Try.ntmps14
    go_wp2_with fail
    go_ret
    refine ⟨rfl, ?_⟩
    rw [Hst.out]
    exact (HB.out _ hx1).1.next (bel_refl _) (fun x hx => hx.elim)
end Go.Proofs.Ytokmiphgalpahaa
