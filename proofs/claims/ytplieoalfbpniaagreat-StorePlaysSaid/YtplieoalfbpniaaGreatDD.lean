/- The document's 'ahead' (48). -/
import Derived.Test.YtplieoalfbpniaaGreatDC
set_option linter.unusedVariables false
set_option linter.unusedSimpArgs false
namespace Go.Proofs.YtplieoalfbpniaaGreat
open Go.RowKit Go.Kt Go.Ix Go.Sx
set_option maxRecDepth 100000
set_option maxHeartbeats 2000000 in
theorem rahead_any (xs : List Pr) (xt : Int) (xl : List Ver) (sv lv u : Value) (d : List Pr) (ti : Int) (w : World) (hs : RdP w sv xs) (hv : RdV w lv xl) (hu : RdP w u d) :
    Calls Tryz.prog 48 #[.agg #[sv, .int .i64 xt, lv], u, .int .i64 ti] w fun e w' => e = .returned (.bool (decide ((⟨xs, xt, xl⟩ : It).Ahead ltS d ti))) ∧ Below w.heap.size w w' := by
  obtain ⟨sa, sc, rfl, -⟩ := hs.open
  obtain ⟨la, lc, rfl, -⟩ := hv.open
  obtain ⟨ua, uc, rfl, -⟩ := hu.open
  have HC := Lib.hid (fun (W : World) (hW : Below w.heap.size w W) => compare_all _ _ xs d W (hs.below hW) (hu.below hW))
  have hP : (⟨xs, xt, xl⟩ : It).Ahead ltS d ti ↔ cmpS xs d = -1 ∨ (cmpS xs d = 0 ∧ xt < ti) := by
    unfold Item.Ahead ltS
    simp only
    constructor
    · rintro (h | ⟨h, h2⟩)
      · exact .inl h
      · exact .inr ⟨by rw [h]; exact cmpS_self d, h2⟩
    · rintro (h | ⟨h, h2⟩)
      · exact .inl h
      · exact .inr ⟨cmpS_zero h, h2⟩
  have hr := cmpS_rng xs d
  generalize hp : decide ((⟨xs, xt, xl⟩ : It).Ahead ltS d ti) = p
  have HP : Hid (p = decide (cmpS xs d = -1 ∨ (cmpS xs d = 0 ∧ xt < ti))) := Lib.hid (by rw [← hp]; exact decide_eq_decide.2 hP)
  clear hp hP hs hv hu
  generalize cmpS xs d = c at HC HP hr
  have HX := Lib.hid (Blk.new w #[.slice sa xs.length sc, .int .i64 xt, .slice la xl.length lc] 123)
  have HB := Lib.hid (below_alloc w (.cells #[.slice sa xs.length sc, .int .i64 xt, .slice la xl.length lc] 123))
  rcases hr with rfl | rfl | rfl
  all_goals
    go_enter Tryz.func48, Tryz.ntmps48
    go_wp2_with (first
      | (go_at_call 70; refine (HC.out _ HB.out).mono ?_; rintro e w2 ⟨rfl, t, rfl⟩; have hb2 := bel_drewN (bel_refl (w.alloc (.cells #[.slice sa xs.length sc, .int .i64 xt, .slice la xl.length lc] 123))) t; have x1 := (HX.out.next hb2).cell 1; have HB2 := Lib.hid (bel_trans HB.out hb2); clear hb2)
      | fail)
    go_ret
    exact ⟨by rw [HP.out]; simp, HB2.out⟩
end Go.Proofs.YtplieoalfbpniaaGreat
