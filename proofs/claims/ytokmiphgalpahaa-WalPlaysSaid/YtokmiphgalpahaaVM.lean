/- Does (14) at a fuse or a crash, beside blocks that stay. -/
import Derived.Test.YtokmiphgalpahaaVL
namespace Go.Proofs.Ytokmiphgalpahaa
open Go.RowKit Go.Kt
set_option maxRecDepth 100000
variable {w0 w w' W : World} {d mb m : Nat} {P Q : Pd} {H H' : Nat → Prop}
set_option maxHeartbeats 4000000 in
theorem does34 (h : B2 w0 w d mb m P P H) (hH : ∀ x, H x → x < w.heap.size) (o : Op) (hk : o.kind = 3 ∨ o.kind = 4) {pv kv : Value} (hop : OpOk w0 o pv kv) (hkl : o.keep.length * 8 ≤ 140737488355328) : Calls Try.prog 14 #[.pointer (some ⟨d, 0, none⟩), .pointer (some ⟨m, 0, none⟩), .agg #[.int .i64 o.kind, .int .i64 o.n, pv, kv]] w fun e w' => e = .returned (.bool true) ∧ B2 w0 w' d mb m (P.step o) (P.step o) H ∧ Turn (fun x => w0.heap.size ≤ x ∧ ¬ H x) w w' := by
  have Hok := Lib.hid h.ok
  have Hop := Lib.hid hop
  obtain ⟨pa, pc, rfl, hpc, hpb, _⟩ := hop.p.open
  obtain ⟨_, ka, kc, rfl, hkc, hkb, _⟩ := hop.keep
  have HB : Hid (∀ W, Below (w.alloc (.cells #[.int .i64 o.kind, .int .i64 o.n, .slice pa o.p.length pc, .slice ka o.keep.length kc] 46)).heap.size (w.alloc (.cells #[.int .i64 o.kind, .int .i64 o.n, .slice pa o.p.length pc, .slice ka o.keep.length kc] 46)) W →
      B2 w0 W d mb m P P (fun x => H x ∨ x = w.heap.size) ∧ (∀ x, (H x ∨ x = w.heap.size) → x < W.heap.size) ∧ Blk W w.heap.size #[.int .i64 o.kind, .int .i64 o.n, .slice pa o.p.length pc, .slice ka o.keep.length kc] 46) := Lib.hid (fun W hW => by
    have hb1 := below_alloc w (.cells #[.int .i64 o.kind, .int .i64 o.n, .slice pa o.p.length pc, .slice ka o.keep.length kc] 46)
    have hs : w.heap.size < W.heap.size := by have := hW.size; simp at this; omega
    exact ⟨h.next (bel_trans hb1 hW) (fun x hx => hx.elim .inl (fun e => .inr (by omega))), fun x hx => by rcases hx with hx | hx; (have := hH x hx; omega); omega, (Blk.new w _ 46).next hW⟩)
  have HT0 : Hid (Turn (fun x => w0.heap.size ≤ x ∧ ¬ H x) w (w.alloc (.cells #[.int .i64 o.kind, .int .i64 o.n, .slice pa o.p.length pc, .slice ka o.keep.length kc] 46))) := Lib.hid (Turn.of (below_alloc w _))
  have HG : Hid (∀ (A B : World), Turn (fun x => w0.heap.size ≤ x ∧ ¬ H x) w A → Turn (fun x => w0.heap.size ≤ x ∧ ¬ (H x ∨ x = w.heap.size)) A B → Turn (fun x => w0.heap.size ≤ x ∧ ¬ H x) w B) := Lib.hid (fun A B hA hB => hA.trans hB (fun x hx => .inl ⟨hx.1, fun hh => hx.2 (.inl hh)⟩))
  have Hbel := Lib.hid h.bel
  have hbs := h.bel.size
  have hx1 := bel_refl (w.alloc (.cells #[.int .i64 o.kind, .int .i64 o.n, .slice pa o.p.length pc, .slice ka o.keep.length kc] 46))
  have k0 := (HB.out _ hx1).2.2.cell 0
  have k1 := (HB.out _ hx1).2.2.cell 1
  have k2 := (HB.out _ hx1).2.2.cell 2
  have k3 := (HB.out _ hx1).2.2.cell 3
  clear h hop
  by_cases hk3 : o.kind = 3
  · have e0 : (o.kind == 0) = false := by rw [beq_eq_false_iff_ne]; omega
    have e1 : (o.kind == 1) = false := by rw [beq_eq_false_iff_ne]; omega
    have e2 : (o.kind == 2) = false := by rw [beq_eq_false_iff_ne]; omega
    have e3 : (o.kind == 3) = true := by rw [beq_iff_eq]; exact hk3
    have Hst : Hid (P.step o = (P.setFuse o.n).2) := Lib.hid (by unfold Pd.step; rw [if_neg (by omega), if_neg (by omega), if_neg (by omega), if_pos hk3])
    obtain ⟨m2, m3, mf, ml, mh, mw⟩ := (HB.out _ hx1).1.mcell
    have Hmh := Lib.hid mh
    clear hk3 hk mh
    cases hdn : P.down with
    | true =>
      rw [hdn] at m3
      have HS : Hid (P.setFuse o.n = (5, P)) := Lib.hid (by unfold Pd.setFuse; rw [if_pos hdn])
      go_enter Try.func14, Try.ntmps14
      go_wp2_with (go_at_call 32; refine (((HB.out _ hx1).1).dcall (HB.out _ hx1).2.1 (fun F hD _ => setFuse_any hD Hop.out.n)).mono ?_; rw [HS.out]; rintro e w3 ⟨rfl, hB3, hT3⟩; have HB3 := Lib.hid hB3; have HT3 := Lib.hid hT3; clear hB3 hT3)
      go_ret
      refine ⟨rfl, ?_, HG.out _ _ HT0.out HT3.out⟩
      rw [Hst.out, HS.out]
      exact HB3.out.next (bel_refl _) (fun x hx => .inl (.inl hx))
    | false =>
      rw [hdn] at m3
      have HS : Hid (P.setFuse o.n = (0, { P with fuse := max o.n (-1) })) := Lib.hid (by unfold Pd.setFuse; rw [if_neg (by rw [hdn]; simp)])
      have HBf := Lib.hid ((HB.out _ hx1).1.mfuse (max o.n (-1)))
      have HTf : Hid (Turn (fun x => w0.heap.size ≤ x ∧ ¬ H x) w ((w.alloc (.cells #[.int .i64 o.kind, .int .i64 o.n, .slice pa o.p.length pc, .slice ka o.keep.length kc] 46)).setCell ⟨m, 2, none⟩ (.int .i64 (max o.n (-1))))) := Lib.hid (HT0.out.set (a := ⟨m, 2, none⟩) ⟨mw, fun hh => Hmh.out (.inl hh)⟩ _)
      have hmb : m ≠ w.heap.size := fun e => Hmh.out (.inr e)
      have HBl := Lib.hid ((HB.out _ hx1).2.2.other (p := ⟨m, 2, none⟩) (fun e => Hmh.out (.inr e.symm)) (.int .i64 (max o.n (-1))))
      have HHl := Lib.hid (HB.out _ hx1).2.1
      have x1 := HBl.out.cell 1
      go_enter Try.func14, Try.ntmps14
      go_wp2_with (go_at_call 32; refine (HBf.out.dcall (fun x hx => by have := HHl.out x hx; simpa using this) (fun F hD _ => setFuse_any hD Hop.out.n)).mono ?_; rw [HS.out]; rintro e w3 ⟨rfl, hB3, hT3⟩; have HB3 := Lib.hid hB3; have HT3 := Lib.hid hT3; clear hB3 hT3)
      go_ret
      refine ⟨rfl, ?_, HG.out _ _ HTf.out HT3.out⟩
      rw [Hst.out, HS.out]
      exact HB3.out.next (bel_refl _) (fun x hx => .inl (.inl hx))
  · have hk4 : o.kind = 4 := by omega
    have e0 : (o.kind == 0) = false := by rw [beq_eq_false_iff_ne]; omega
    have e1 : (o.kind == 1) = false := by rw [beq_eq_false_iff_ne]; omega
    have e2 : (o.kind == 2) = false := by rw [beq_eq_false_iff_ne]; omega
    have e3 : (o.kind == 3) = false := by rw [beq_eq_false_iff_ne]; omega
    have e4 : (o.kind == 4) = true := by rw [beq_iff_eq]; exact hk4
    have Hst : Hid (P.step o = P.crash o.keep) := Lib.hid (by unfold Pd.step; rw [if_neg (by omega), if_neg (by omega), if_neg (by omega), if_neg (by omega), if_pos hk4])
    clear hk3 hk4 hk
    go_enter Try.func14, Try.ntmps14
    go_wp2_with fail
    refine (((HB.out _ hx1).1).rcall (HB.out _ hx1).2.1 (fun G lv rs hR _ => crash_ref hR Hok.out (RdRow.below Hop.out.keep (HB.out _ hx1).1.bel))).mono ?_
    rintro e w3 ⟨rfl, hB3, hT3⟩
    have HB3 := Lib.hid hB3
    have HX3 := Lib.hid (blk_turn (HB.out _ hx1).2.2 hT3 (fun hh => hh.2 (.inr rfl)))
    have HT3 := Lib.hid (HG.out _ _ HT0.out hT3)
    have HL3 : Hid (∀ x, H x ∨ x = w.heap.size → x < w3.heap.size) := Lib.hid (fun x hx => by have := (HB.out _ hx1).2.1 x hx; have := hT3.size; omega)
    have x3 : w3.cell? ⟨w.heap.size, 3, none⟩ = some (.slice ka o.keep.length kc) := HX3.out.cell 3
    have hl3 := HX3.out.lt
    clear hB3 hT3
    go_wp2_with (at_builtin; apply Hold.mk)
    unfold Hold
    refine wpList_app rfl _ _ 36 rfl ok29 (by rfl) (by rfl) (own_lit_at (g := _) 3 1 #[] 0 (by simp [maxLen]) rfl (by simp)) (RdRow.below Hop.out.keep (bel_alloc HB3.out.bel)) (z_one _) (by simp only [maxLen]; omega) (by omega) ?_
    intro v7 w7 ho7 hg7 hn7
    simp only [List.nil_append, Nat.zero_add] at ho7
    have hs7 : w3.heap.size < w7.heap.size := by have := hg7.size; simp at this; omega
    have hb7 : Below w3.heap.size w3 w7 := (below_alloc w3 (.cells #[] 3)).grown hg7 (by simp) (fun k hk => by cases hk; simp)
    have HB7 := Lib.hid (HB3.out.next (H' := fun x => (H x ∨ x = w.heap.size) ∨ (w3.heap.size ≤ x ∧ x < w7.heap.size)) hb7 (fun x hx => hx.elim .inl (fun hx => .inr hx.1)))
    have HT7 : Hid (Turn (fun x => w0.heap.size ≤ x ∧ ¬ H x) w w7) := Lib.hid (HT3.out.trans (Turn.of (F := fun _ => False) hb7) (fun _ hx => hx.elim))
    have HL7 : Hid (∀ x, ((H x ∨ x = w.heap.size) ∨ (w3.heap.size ≤ x ∧ x < w7.heap.size)) → x < w7.heap.size) := Lib.hid (fun x hx => by
      rcases hx with hx | hx
      · have := HL3.out x hx; omega
      · exact hx.2)
    have HO7 : Hid (RdRow 1 w7 v7 o.keep.length (o.keep.map encZ)) := Lib.hid (by simpa using ho7.rd)
    have HN7 : Hid (∀ x, v7.ownBlock = some x → w3.heap.size ≤ x ∧ x < w7.heap.size) := Lib.hid (fun x hx => ⟨by
      rcases hn7 x hx with h | h
      · cases h; simp
      · simp at h; omega, ho7.lt x hx⟩)
    clear ho7 hg7 hn7 hb7
    go_wp2_with fail
    refine (HB7.out.dcall HL7.out (fun F hD hF => crashD_any hD HO7.out (fun x hx _ hf => (hF x hf).2 (.inr (HN7.out x hx))) (fun x hx _ => (HN7.out x hx).2))).mono ?_
    rintro e w8 ⟨rfl, hB8, hT8⟩
    have HB8 := Lib.hid hB8
    have HT8 : Hid (Turn (fun x => w0.heap.size ≤ x ∧ ¬ H x) w w8) := Lib.hid (HT7.out.trans hT8 (fun x hx => .inl ⟨hx.1, fun hh => hx.2 (.inl (.inl hh))⟩))
    clear hB8 hT8
    go_wp2_with fail
    go_ret
    refine ⟨rfl, ?_, HT8.out⟩
    rw [Hst.out]
    exact HB8.out.next (bel_refl _) (fun x hx => .inl (.inl (.inl hx)))
end Go.Proofs.Ytokmiphgalpahaa
