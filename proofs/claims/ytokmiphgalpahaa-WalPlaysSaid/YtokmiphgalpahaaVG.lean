/- The document's Rebase (19). -/
import Derived.Test.YtokmiphgalpahaaVF
namespace Go.Proofs.Ytokmiphgalpahaa
open Go.RowKit Go.Kt
set_option maxRecDepth 100000
variable {F G K : Nat → Prop} {w w' w0 w1 w2 W : World} {m rb : Nat} {P : Pd}

/-- what Rebase does -/
def RRebIs (G : Nat → Prop) (w : World) (m rb : Nat) (bv rv : Value) (r : Int × Int × Pd) (e : Ending) (w' : World) : Prop :=
  e = .returned (.int .i64 r.1) ∧ RAt (Plus G w w') w' m r.2.2 ∧ Turn (fun x => G x ∨ x = rb) w w' ∧ Blk w' rb #[.pointer (some ⟨m, 0, none⟩), .int .i64 r.2.1, bv, rv] 52
theorem blk_set4 {g : Nat} {a b c e u : Value} {t : TypeId} (h : Blk w g #[a, b, c, e] t) : Blk (w.setCell ⟨g, 1, none⟩ u) g #[a, u, c, e] t := h.set 1 u
set_option maxHeartbeats 2000000 in
theorem refwal_rebase (h : RAt G w m P) (hok : PdN 4611686018427387904 P) {seg : Int} {bv rv : Value} (hW : Blk w rb #[.pointer (some ⟨m, 0, none⟩), .int .i64 seg, bv, rv] 52) (hwF : ¬ G rb) (hn0 : 0 ≤ seg) (hn1 : seg < 4611686018427387904) {v : Value} {p : List UInt8} (hv : Rd8 w v p) :
    Calls Try.prog 19 #[.pointer (some ⟨rb, 0, none⟩), v] w (RRebIs G w m rb bv rv (rebaseW P seg p)) := by
  obtain ⟨a, cap, rfl, hcap, hbig, -, -⟩ := hv.open
  unfold maxLen at hbig
  by_cases hlong : 1048576 < p.length
  · have d1 : decide (1048576 < (p.length : Int)) = true := by simp only [decide_eq_true_eq]; omega
    have HR : Hid (rebaseW P seg p = (8, seg, P)) := Lib.hid (by unfold rebaseW; rw [if_pos hlong])
    have H := Lib.hid h
    have HW := Lib.hid hW
    clear h hv hW
    go_enter Try.func19, Try.ntmps19
    go_wp2_with fail
    go_ret
    rw [HR.out]
    exact ⟨rfl, H.out.more (fun x hx => .inl hx), Turn.refl _ _, HW.out⟩
  · have d1 : decide (1048576 < (p.length : Int)) = false := by simp only [decide_eq_false_iff_not]; omega
    have hwl : (wholeW p []).length = 18 + p.length := by
      simp only [wholeW, recsB, List.length_append, Fm.Fr.sealed_len]
      simp
      omega
    have HR : Hid (rebaseW P seg p = if (P.app (seg + 1) (wholeW p [])).1 ≠ 0 then ((P.app (seg + 1) (wholeW p [])).1, seg, (P.app (seg + 1) (wholeW p [])).2)
      else if ((P.app (seg + 1) (wholeW p [])).2.sync (seg + 1)).1 ≠ 0 then (((P.app (seg + 1) (wholeW p [])).2.sync (seg + 1)).1, seg + 1, ((P.app (seg + 1) (wholeW p [])).2.sync (seg + 1)).2)
      else ((((P.app (seg + 1) (wholeW p [])).2.sync (seg + 1)).2.drop seg).1, seg + 1, (((P.app (seg + 1) (wholeW p [])).2.sync (seg + 1)).2.drop seg).2)) := Lib.hid (by unfold rebaseW; rw [if_neg hlong])
    have hok1 := hok.app (n := seg + 1) (by omega) (by omega) (wholeW p [])
    have hok2 := hok1.sync (seg + 1)
    have HX : Hid (∀ W, Below w.heap.size w W → W.cell? ⟨rb, 0, none⟩ = some (.pointer (some ⟨m, 0, none⟩)) ∧ W.cell? ⟨rb, 1, none⟩ = some (.int .i64 seg)) := Lib.hid (fun W hb => ⟨(hW.next hb).cell 0, (hW.next hb).cell 1⟩)
    have HS : Hid (∀ W, Below w.heap.size w W → Calls Try.prog 36 #[.slice a p.length cap, .slice none 0 0] W fun e w' => ∃ v', e = .returned v' ∧ Mine8 5 W w' v' (wholeW p []) ∧ Below W.heap.size W w') := Lib.hid (fun W hb => refwhole_any _ _ p [] W (hv.below hb) (ownBs_nil (fun _ => True) W).rd (by omega) (by simp) (by omega))
    have HA : Hid (∀ (W3 W : World) (v : Value), Below w.heap.size w W3 → Mine8 5 w W3 v (wholeW p []) → Below W3.heap.size W3 W → Calls Try.prog 30 #[.pointer (some ⟨m, 0, none⟩), .int .i64 (seg + 1), v] W (RDone G w m (P.app (seg + 1) (wholeW p [])))) := Lib.hid (fun W3 W v h1 h2 h3 => rapp_of h hok.1 (seg + 1) h1 h2 h3)
    have HT : Hid (∀ W, Turn G w W → Blk W rb #[.pointer (some ⟨m, 0, none⟩), .int .i64 seg, bv, rv] 52) := Lib.hid (fun W ht => blkT hW ht hwF)
    have hwl := hW.lt
    have hx1 := bel_refl w
    obtain ⟨x0, x1⟩ := HX.out w hx1
    have e3 : IntKind.i64.wrap (seg + 1) = seg + 1 := by rw [IntKind.wrap_i64]; omega
    generalize P.app (seg + 1) (wholeW p []) = r1 at *
    have Hok1 := Lib.hid hok1
    have Hok2 := Lib.hid hok2
    clear h hv hW hok1 hok2
    go_enter Try.func19, Try.ntmps19
    go_upto_region 4 with fail
    go_region_held3 (fun w' => w'.cell? ⟨rb, 0, none⟩ = some (.pointer (some ⟨m, 0, none⟩)))
      (first | go_keep | exact y0 | exact (HX.out _ (by repeat (first | assumption | apply bel_alloc | apply bel_drew | apply bel_drewN))).1)
      (first
        | (go_at_call 36; refine (HS.out _ (by repeat (first | assumption | apply bel_alloc | apply bel_drew | apply bel_drewN))).mono ?_; rintro e w3 ⟨sv, rfl, hm, hb3⟩; have hx3 : Below w.heap.size w w3 := bel_trans (by repeat (first | assumption | apply bel_alloc | apply bel_drew | apply bel_drewN)) hb3; have HM3 : Hid (Mine8 5 w w3 sv (wholeW p [])) := Lib.hid (hm.since (Below.size (by repeat (first | assumption | apply bel_alloc | apply bel_drew | apply bel_drewN)))); have hy3 := bel_refl w3; clear hm hb3)
        | (go_at_call 30; refine (HA.out _ _ _ hx3 HM3.out (by repeat (first | assumption | apply bel_alloc | apply bel_drew | apply bel_drewN))).mono ?_; rintro e w4 ⟨rfl, hD4, hT4⟩; have HD4 := Lib.hid hD4; have HT4 := Lib.hid hT4; have y0 := (HT.out _ hT4).cell 0; clear hD4 hT4))
    by_cases h1 : r1.1 = 0
    · rw [if_neg (by omega)] at HR
      have HB4 := Lib.hid (HT.out _ HT4.out)
      have y1 := HB4.out.free 1
      have y2 : w4.cell? ⟨rb, 1, none⟩ = some (.int .i64 seg) := HB4.out.cell 1
      have hs4 := HT4.out.size
      have HB5 := Lib.hid (blk_set4 (u := .int .i64 (seg + 1)) HB4.out)
      have HTs : Hid (Turn (· = rb) w4 (w4.setCell ⟨rb, 1, none⟩ (.int .i64 (seg + 1)))) := Lib.hid ((Turn.refl (fun x => x = rb) w4).set (a := ⟨rb, 1, none⟩) rfl _)
      have hnp : ¬ Plus G w w4 rb := fun h => by
        rcases h with h | h
        · exact hwF h
        · omega
      have HD5 : Hid (RAt (Plus G w w4) (w4.setCell ⟨rb, 1, none⟩ (.int .i64 (seg + 1))) m r1.2) := Lib.hid (HD4.out.keep HTs.out (fun x hx e => hnp (e ▸ hx)))
      have z0 : (w4.setCell ⟨rb, 1, none⟩ (.int .i64 (seg + 1))).cell? ⟨rb, 0, none⟩ = some (.pointer (some ⟨m, 0, none⟩)) := HB5.out.cell 0
      have z1 : (w4.setCell ⟨rb, 1, none⟩ (.int .i64 (seg + 1))).cell? ⟨rb, 1, none⟩ = some (.int .i64 (seg + 1)) := HB5.out.cell 1
      go_upto_region 8 with fail
      generalize hw5 : w4.setCell ⟨rb, 1, none⟩ (.int .i64 (seg + 1)) = w5 at *
      have hs5 : w4.heap.size = w5.heap.size := by rw [← hw5]; simp
      have HX5 : Hid (∀ W, Below w5.heap.size w5 W → W.cell? ⟨rb, 0, none⟩ = some (.pointer (some ⟨m, 0, none⟩)) ∧ W.cell? ⟨rb, 1, none⟩ = some (.int .i64 (seg + 1))) := Lib.hid (fun W hb => ⟨(HB5.out.next hb).cell 0, (HB5.out.next hb).cell 1⟩)
      have HA5 : Hid (∀ (W : World), Below w5.heap.size w5 W → Calls Try.prog 18 #[.pointer (some ⟨m, 0, none⟩), .int .i64 (seg + 1)] W (RDone (Plus G w w4) w5 m (r1.2.sync (seg + 1)))) := Lib.hid (fun W h1 => rsync_of HD5.out Hok1.out.1 (seg + 1) h1)
      have HT5 : Hid (∀ W, Turn (Plus G w w4) w5 W → Blk W rb #[.pointer (some ⟨m, 0, none⟩), .int .i64 (seg + 1), bv, rv] 52) := Lib.hid (fun W ht => blkT HB5.out ht hnp)
      generalize r1.2.sync (seg + 1) = r2 at *
      have hx5 := bel_refl w5
      clear hw5 y0 y1 y2
      go_region_held3 (fun w' => w'.cell? ⟨rb, 0, none⟩ = some (.pointer (some ⟨m, 0, none⟩)) ∧ w'.cell? ⟨rb, 1, none⟩ = some (.int .i64 (seg + 1)))
        (first | go_keep | exact q0 | exact q1 | exact ⟨q0, q1⟩ | exact HX5.out _ (by repeat (first | assumption | apply bel_alloc | apply bel_drew | apply bel_drewN)) | exact (HX5.out _ (by repeat (first | assumption | apply bel_alloc | apply bel_drew | apply bel_drewN))).1 | exact (HX5.out _ (by repeat (first | assumption | apply bel_alloc | apply bel_drew | apply bel_drewN))).2)
        ((go_at_call 18; refine (HA5.out _ (by repeat (first | assumption | apply bel_alloc | apply bel_drew | apply bel_drewN))).mono ?_; rintro e w6 ⟨rfl, hD6, hT6⟩; have HD6 := Lib.hid hD6; have HT6 := Lib.hid hT6; have q0 : w6.cell? ⟨rb, 0, none⟩ = some (.pointer (some ⟨m, 0, none⟩)) := (HT5.out _ hT6).cell 0; have q1 : w6.cell? ⟨rb, 1, none⟩ = some (.int .i64 (seg + 1)) := (HT5.out _ hT6).cell 1; clear hD6 hT6))
      all_goals (by_cases h2 : r2.1 = 0)
      all_goals first
        | (rw [if_neg (by omega)] at HR
           have b2 : (r2.1 == 0) = true := by rw [beq_iff_eq]; exact h2
           go_wp2_with fail
           have hs6 := HT6.out.size
           refine (rdrop_of HD6.out Hok2.out.1 seg (bel_refl _)).mono ?_
           rintro e w7 hd7
           obtain ⟨rfl, hD7, hT7⟩ := rdone_next HT6.out hd7
           go_wp2_with fail
           go_ret
           have hs7 := hT7.size
           rw [HR.out]
           exact ⟨rfl, hD7.more (fun x hx => plus_seq hx hs4 (by omega) hs7), turn_seq HT4.out HTs.out hT7, HT5.out _ hT7⟩)
        | (rw [if_pos h2] at HR
           have b2 : (r2.1 == 0) = false := by rw [beq_eq_false_iff_ne]; exact h2
           go_wp2_with fail
           go_ret
           have hs6 := HT6.out.size
           rw [HR.out]
           exact ⟨rfl, HD6.out.more (fun x hx => plus_seq hx hs4 (by omega) hs6), turn_seq HT4.out HTs.out HT6.out, HT5.out _ HT6.out⟩)
    · rw [if_pos h1] at HR
      have b1 := bne0 h1
      go_wp2_with fail
      go_ret
      rw [HR.out]
      exact ⟨rfl, HD4.out, HT4.out.mono (fun x hx => .inl hx), HT.out _ HT4.out⟩
end Go.Proofs.Ytokmiphgalpahaa
