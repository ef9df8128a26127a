/- Append (9) and Sync (10) of a log. -/
import Derived.Test.YtokmiphgalpahaaV6
import Derived.Test.YtokmiphgalpahaaWV
import Derived.BigQuiet
import Derived.Deep.QuietTactic
import Derived.Deep.RegionHeld3
namespace Go.Proofs.Ytokmiphgalpahaa
open Go.RowKit Go.Kt
set_option maxRecDepth 100000
variable {F G K : Nat → Prop} {w w' w0 w1 w2 W : World} {d mb wb : Nat}

theorem done_at {r : Int × Pd} {e : Ending} (hb : Below w.heap.size w W) (h : Done (fun x => F x ∧ x < w.heap.size) W d mb r e w') : Done F w d mb r e w' := by
  obtain ⟨h1, h2, h3⟩ := h
  have hs := hb.size
  refine ⟨h1, h2.more (fun x hx => ?_), (Turn.of (F := F) hb).trans (h3.mono (fun x hx => hx.1)) (fun x hx => .inl hx)⟩
  rcases hx with h | h
  · exact .inl h.1
  · exact .inr ⟨by omega, h.2⟩
theorem app_of {P : Pd} (h : DAt F w d mb P) {n : Int} (hn : Rng n) {W3 W : World} {v : Value} {l : List UInt8} (hb3 : Below w.heap.size w W3) (hm : Mine8 5 w W3 v l) (hb : Below W3.heap.size W3 W) :
    Calls Try.prog 26 #[.pointer (some ⟨d, 0, none⟩), .int .i64 n, v] W (Done F w d mb (P.app n l)) := by
  have hbw := bel_trans hb3 hb
  have hm' := hm.below hb
  exact (app_any (h.tight.next hbw) hn hm'.rd (fun x hx _ hf => by have := hm'.2 x hx; have := hf.2; omega) (fun x hx _ => Own.lt hm'.1 x hx)).mono fun _ _ hd => done_at hbw hd
theorem sync_of {P : Pd} (h : DAt F w d mb P) {n : Int} (hn : Rng n) {W : World} (hb : Below w.heap.size w W) :
    Calls Try.prog 28 #[.pointer (some ⟨d, 0, none⟩), .int .i64 n] W (Done F w d mb (P.sync n)) :=
  (sync_any (h.tight.next hb) hn).mono fun _ _ hd => done_at hb hd
theorem wal_append {P : Pd} (h : DAt F w d mb P) {seg : Int} (hW : Blk w wb #[.pointer (some ⟨d, 0, none⟩), .int .i64 seg] 64) (hwF : ¬ F wb) (hn : Rng seg) {v : Value} {p : List UInt8} (hv : Rd8 w v p) :
    Calls Try.prog 9 #[.pointer (some ⟨wb, 0, none⟩), v] w (Done F w d mb (recW P seg p)) := by
  obtain ⟨a, cap, rfl, hcap, hbig, -, -⟩ := hv.open
  unfold maxLen at hbig
  by_cases hlong : 1048576 < p.length
  · have d1 : decide (1048576 < (p.length : Int)) = true := by simp only [decide_eq_true_eq]; omega
    have HR : Hid (recW P seg p = (8, P)) := Lib.hid (by unfold recW; rw [if_pos hlong])
    have H := Lib.hid h
    clear h hv hW
    go_enter Try.func9, Try.ntmps9
    go_wp2_with fail
    go_ret
    rw [HR.out]
    exact ⟨rfl, H.out.more (fun x hx => .inl hx), Turn.refl _ _⟩
  · have d1 : decide (1048576 < (p.length : Int)) = false := by simp only [decide_eq_false_iff_not]; omega
    have HR : Hid (recW P seg p = P.app seg (Fm.Fr.sealed 1 p)) := Lib.hid (by unfold recW; rw [if_neg hlong])
    have HX : Hid (∀ W, Below w.heap.size w W → W.cell? ⟨wb, 0, none⟩ = some (.pointer (some ⟨d, 0, none⟩)) ∧ W.cell? ⟨wb, 1, none⟩ = some (.int .i64 seg)) := Lib.hid (fun W hb => ⟨(hW.next hb).cell 0, (hW.next hb).cell 1⟩)
    have HS : Hid (∀ W, Below w.heap.size w W → Calls Try.prog 27 #[.int .u8 1, .slice a p.length cap] W fun e w' => ∃ v', e = .returned v' ∧ Mine8 5 W w' v' (Fm.Fr.sealed 1 p) ∧ Below W.heap.size W w') := Lib.hid (fun W hb => sealed_any 1 _ p W (hv.below hb) (by omega))
    have HA : Hid (∀ (W3 W : World) (v : Value), Below w.heap.size w W3 → Mine8 5 w W3 v (Fm.Fr.sealed 1 p) → Below W3.heap.size W3 W → Calls Try.prog 26 #[.pointer (some ⟨d, 0, none⟩), .int .i64 seg, v] W (Done F w d mb (P.app seg (Fm.Fr.sealed 1 p)))) := Lib.hid (fun W3 W v h1 h2 h3 => app_of h hn h1 h2 h3)
    have HT : Hid (∀ W, Turn F w W → W.cell? ⟨wb, 0, none⟩ = some (.pointer (some ⟨d, 0, none⟩)) ∧ W.cell? ⟨wb, 1, none⟩ = some (.int .i64 seg)) := Lib.hid (fun W ht => ⟨(blkT hW ht hwF).cell 0, (blkT hW ht hwF).cell 1⟩)
    have hx1 := bel_refl w
    obtain ⟨x0, x1⟩ := HX.out w hx1
    clear h hv hW
    go_enter Try.func9, Try.ntmps9
    go_upto_region 5 with fail
    go_region_held3 (fun w' => w'.cell? ⟨wb, 0, none⟩ = some (.pointer (some ⟨d, 0, none⟩)) ∧ w'.cell? ⟨wb, 1, none⟩ = some (.int .i64 seg))
      (first | go_keep | exact y0 | exact y1 | exact ⟨y0, y1⟩ | exact HX.out _ (by repeat (first | assumption | apply bel_alloc | apply bel_drew | apply bel_drewN)) | exact (HX.out _ (by repeat (first | assumption | apply bel_alloc | apply bel_drew | apply bel_drewN))).1 | exact (HX.out _ (by repeat (first | assumption | apply bel_alloc | apply bel_drew | apply bel_drewN))).2)
      (first
        | (go_at_call 27; refine (HS.out _ (by repeat (first | assumption | apply bel_alloc | apply bel_drew | apply bel_drewN))).mono ?_; rintro e w3 ⟨sv, rfl, hm, hb3⟩; have hx3 : Below w.heap.size w w3 := bel_trans (by repeat (first | assumption | apply bel_alloc | apply bel_drew | apply bel_drewN)) hb3; have HM3 : Hid (Mine8 5 w w3 sv (Fm.Fr.sealed 1 p)) := Lib.hid (hm.since (Below.size (by repeat (first | assumption | apply bel_alloc | apply bel_drew | apply bel_drewN)))); have hy3 := bel_refl w3; clear hm hb3)
        | (go_at_call 26; refine (HA.out _ _ _ hx3 HM3.out (by repeat (first | assumption | apply bel_alloc | apply bel_drew | apply bel_drewN))).mono ?_; rintro e w4 ⟨rfl, hD4, hT4⟩; have HD4 := Lib.hid hD4; have HT4 := Lib.hid hT4; have y0 := (HT.out _ hT4).1; have y1 := (HT.out _ hT4).2; clear hD4 hT4))
    all_goals (go_wp2_with fail)
    all_goals go_ret
    all_goals (rw [HR.out]; exact ⟨rfl, HD4.out, HT4.out⟩)
theorem wal_sync {P : Pd} (h : DAt F w d mb P) {seg : Int} (hW : Blk w wb #[.pointer (some ⟨d, 0, none⟩), .int .i64 seg] 64) (hwF : ¬ F wb) (hn : Rng seg) :
    Calls Try.prog 10 #[.pointer (some ⟨wb, 0, none⟩)] w (Done F w d mb (P.sync seg)) := by
  have HX : Hid (∀ W, Below w.heap.size w W → W.cell? ⟨wb, 0, none⟩ = some (.pointer (some ⟨d, 0, none⟩)) ∧ W.cell? ⟨wb, 1, none⟩ = some (.int .i64 seg)) := Lib.hid (fun W hb => ⟨(hW.next hb).cell 0, (hW.next hb).cell 1⟩)
  have HA : Hid (∀ (W : World), Below w.heap.size w W → Calls Try.prog 28 #[.pointer (some ⟨d, 0, none⟩), .int .i64 seg] W (Done F w d mb (P.sync seg))) := Lib.hid (fun W h1 => sync_of h hn h1)
  have HT : Hid (∀ W, Turn F w W → W.cell? ⟨wb, 0, none⟩ = some (.pointer (some ⟨d, 0, none⟩)) ∧ W.cell? ⟨wb, 1, none⟩ = some (.int .i64 seg)) := Lib.hid (fun W ht => ⟨(blkT hW ht hwF).cell 0, (blkT hW ht hwF).cell 1⟩)
  have hx1 := bel_refl w
  obtain ⟨x0, x1⟩ := HX.out w hx1
  clear h hW
  go_enter Try.func10, Try.ntmps10
  go_upto_region 3 with fail
  go_region_held3 (fun w' => w'.cell? ⟨wb, 0, none⟩ = some (.pointer (some ⟨d, 0, none⟩)) ∧ w'.cell? ⟨wb, 1, none⟩ = some (.int .i64 seg))
    (first | go_keep | exact y0 | exact y1 | exact ⟨y0, y1⟩ | exact HX.out _ (by repeat (first | assumption | apply bel_alloc | apply bel_drew | apply bel_drewN)) | exact (HX.out _ (by repeat (first | assumption | apply bel_alloc | apply bel_drew | apply bel_drewN))).1 | exact (HX.out _ (by repeat (first | assumption | apply bel_alloc | apply bel_drew | apply bel_drewN))).2)
    ((go_at_call 28; refine (HA.out _ (by repeat (first | assumption | apply bel_alloc | apply bel_drew | apply bel_drewN))).mono ?_; rintro e w4 ⟨rfl, hD4, hT4⟩; have HD4 := Lib.hid hD4; have HT4 := Lib.hid hT4; have y0 := (HT.out _ hT4).1; have y1 := (HT.out _ hT4).2; clear hD4 hT4))
  all_goals (go_wp2_with fail)
  all_goals go_ret
  all_goals exact ⟨rfl, HD4.out, HT4.out⟩
theorem append_nilw (w : World) (v : Value) : Calls Try.prog 9 #[.pointer none, v] w fun e w' => e = .returned (.int .i64 2) ∧ w = w' := by
  go_enter Try.func9, Try.ntmps9
  go_wp2_with fail
  go_ret
  exact ⟨rfl, rfl⟩
theorem sync_nilw (w : World) : Calls Try.prog 10 #[.pointer none] w fun e w' => e = .returned (.int .i64 2) ∧ w = w' := by
  go_enter Try.func10, Try.ntmps10
  go_wp2_with fail
  go_ret
  exact ⟨rfl, rfl⟩
theorem rebase_nilw (w : World) (v : Value) : Calls Try.prog 11 #[.pointer none, v] w fun e w' => e = .returned (.int .i64 2) ∧ w = w' := by
  go_enter Try.func11, Try.ntmps11
  go_wp2_with fail
  go_ret
  exact ⟨rfl, rfl⟩
end Go.Proofs.Ytokmiphgalpahaa
