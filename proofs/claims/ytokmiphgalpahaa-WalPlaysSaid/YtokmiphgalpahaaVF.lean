/- The document's Append (17) and Rebase (19). -/
import Derived.Test.YtokmiphgalpahaaVA
import Derived.Test.YtokmiphgalpahaaV3
import Derived.Test.YtokmiphgalpahaaPY
import Derived.Test.YtokmiphgalpahaaX1
import Derived.Test.YtokmiphgalpahaaX3
namespace Go.Proofs.Ytokmiphgalpahaa
open Go.RowKit Go.Kt
set_option maxRecDepth 100000
variable {F G K : Nat → Prop} {w w' w0 w1 w2 W : World} {m rb : Nat} {P : Pd}

theorem RAt.next (h : RAt G w m P) (hb : Below w.heap.size w w') : RAt G w' m P := by
  obtain ⟨lv, rs, h⟩ := h
  exact ⟨lv, rs, h.next hb⟩
theorem RAt.keep (h : RAt G w m P) {H : Nat → Prop} (ht : Turn H w w') (hG : ∀ x, G x → ¬ H x) : RAt G w' m P := by
  obtain ⟨lv, rs, h⟩ := h
  exact ⟨lv, rs, h.keep ht hG⟩
theorem RAt.more (h : RAt G w m P) {H : Nat → Prop} (hG : ∀ x, G x → H x) : RAt H w m P := by
  obtain ⟨lv, rs, h⟩ := h
  exact ⟨lv, rs, h.more hG⟩
theorem RAt.tight (h : RAt G w m P) : RAt (fun x => G x ∧ x < w.heap.size) w m P := by
  obtain ⟨lv, rs, h⟩ := h
  exact ⟨lv, rs, h.tight⟩
theorem rdone_next {r : Int × Pd} {e : Ending} (ht : Turn G w w1) (h : RDone (Plus G w w1) w1 m r e w2) : RDone G w m r e w2 :=
  ⟨h.1, h.2.1.more (fun _ hx => plus_plus hx ht.size h.2.2.size), turn_next ht h.2.2⟩
theorem rdone_at {r : Int × Pd} {e : Ending} (hb : Below w.heap.size w W) (h : RDone (fun x => G x ∧ x < w.heap.size) W m r e w') : RDone G w m r e w' := by
  obtain ⟨h1, h2, h3⟩ := h
  have hs := hb.size
  refine ⟨h1, h2.more (fun x hx => ?_), (Turn.of (F := G) hb).trans (h3.mono (fun x hx => hx.1)) (fun x hx => .inl hx)⟩
  rcases hx with h | h
  · exact .inl h.1
  · exact .inr ⟨by omega, h.2⟩
theorem rapp_of (h : RAt G w m P) (hok : PdOk P) (n : Int) {W3 W : World} {v : Value} {l : List UInt8} (hb3 : Below w.heap.size w W3) (hm : Mine8 5 w W3 v l) (hb : Below W3.heap.size W3 W) :
    Calls Try.prog 30 #[.pointer (some ⟨m, 0, none⟩), .int .i64 n, v] W (RDone G w m (P.app n l)) := by
  have hbw := bel_trans hb3 hb
  have hm' := hm.below hb
  obtain ⟨lv, rs, hR⟩ := h.tight.next hbw
  exact (app_ref hR hok n hm'.rd (fun x hx _ hf => by have := hm'.2 x hx; have := hf.2; omega)).mono fun _ _ hd => rdone_at hbw hd
theorem rsync_of (h : RAt G w m P) (hok : PdOk P) (n : Int) {W : World} (hb : Below w.heap.size w W) :
    Calls Try.prog 18 #[.pointer (some ⟨m, 0, none⟩), .int .i64 n] W (RDone G w m (P.sync n)) := by
  obtain ⟨lv, rs, hR⟩ := h.tight.next hb
  exact (sync_ref hR hok n).mono fun _ _ hd => rdone_at hb hd
theorem rdrop_of (h : RAt G w m P) (hok : PdOk P) (n : Int) {W : World} (hb : Below w.heap.size w W) :
    Calls Try.prog 31 #[.pointer (some ⟨m, 0, none⟩), .int .i64 n] W (RDone G w m (P.drop n)) := by
  obtain ⟨lv, rs, hR⟩ := h.tight.next hb
  exact (drop_ref hR hok n).mono fun _ _ hd => rdone_at hb hd
theorem refwal_append (h : RAt G w m P) (hok : PdOk P) {seg : Int} {bv rv : Value} (hW : Blk w rb #[.pointer (some ⟨m, 0, none⟩), .int .i64 seg, bv, rv] 52) (hwF : ¬ G rb) {v : Value} {p : List UInt8} (hv : Rd8 w v p) :
    Calls Try.prog 17 #[.pointer (some ⟨rb, 0, none⟩), v] w (RDone G w m (recW P seg p)) := by
  obtain ⟨a, cap, rfl, hcap, hbig, -, -⟩ := hv.open
  unfold maxLen at hbig
  by_cases hlong : 1048576 < p.length
  · have d1 : decide (1048576 < (p.length : Int)) = true := by simp only [decide_eq_true_eq]; omega
    have HR : Hid (recW P seg p = (8, P)) := Lib.hid (by unfold recW; rw [if_pos hlong])
    have H := Lib.hid h
    clear h hv hW
    go_enter Try.func17, Try.ntmps17
    go_wp2_with fail
    go_ret
    rw [HR.out]
    exact ⟨rfl, H.out.more (fun x hx => .inl hx), Turn.refl _ _⟩
  · have d1 : decide (1048576 < (p.length : Int)) = false := by simp only [decide_eq_false_iff_not]; omega
    have HR : Hid (recW P seg p = P.app seg (Fm.Fr.sealed 1 p)) := Lib.hid (by unfold recW; rw [if_neg hlong])
    have HX : Hid (∀ W, Below w.heap.size w W → W.cell? ⟨rb, 0, none⟩ = some (.pointer (some ⟨m, 0, none⟩)) ∧ W.cell? ⟨rb, 1, none⟩ = some (.int .i64 seg)) := Lib.hid (fun W hb => ⟨(hW.next hb).cell 0, (hW.next hb).cell 1⟩)
    have HS : Hid (∀ W, Below w.heap.size w W → Calls Try.prog 40 #[.int .u8 1, .slice a p.length cap] W fun e w' => ∃ v', e = .returned (.tuple #[v', .int .i64 0]) ∧ Mine8 5 W w' v' (Fm.Fr.sealed 1 p) ∧ Below W.heap.size W w') := Lib.hid (fun W hb => Fm.refseal_ok 1 _ p W (hv.below hb) (by omega))
    have HA : Hid (∀ (W3 W : World) (v : Value), Below w.heap.size w W3 → Mine8 5 w W3 v (Fm.Fr.sealed 1 p) → Below W3.heap.size W3 W → Calls Try.prog 30 #[.pointer (some ⟨m, 0, none⟩), .int .i64 seg, v] W (RDone G w m (P.app seg (Fm.Fr.sealed 1 p)))) := Lib.hid (fun W3 W v h1 h2 h3 => rapp_of h hok seg h1 h2 h3)
    have HT : Hid (∀ W, Turn G w W → W.cell? ⟨rb, 0, none⟩ = some (.pointer (some ⟨m, 0, none⟩)) ∧ W.cell? ⟨rb, 1, none⟩ = some (.int .i64 seg)) := Lib.hid (fun W ht => ⟨(blkT hW ht hwF).cell 0, (blkT hW ht hwF).cell 1⟩)
    have hx1 := bel_refl w
    clear h hv hW
    go_enter Try.func17, Try.ntmps17
    go_upto_region 4 with (go_at_call 40; refine (HS.out _ hx1).mono ?_; rintro e w3 ⟨sv, rfl, hm, hb3⟩; have hx3 : Below w.heap.size w w3 := hb3; have HM3 := Lib.hid hm; have hy3 := bel_refl w3; obtain ⟨x0, x1⟩ := HX.out w3 hx3; clear hm hb3)
    go_region_held3 (fun w' => w'.cell? ⟨rb, 0, none⟩ = some (.pointer (some ⟨m, 0, none⟩)) ∧ w'.cell? ⟨rb, 1, none⟩ = some (.int .i64 seg))
      (first | go_keep | exact y0 | exact y1 | exact ⟨y0, y1⟩ | exact HX.out _ (by repeat (first | assumption | apply bel_alloc | apply bel_drew | apply bel_drewN)) | exact (HX.out _ (by repeat (first | assumption | apply bel_alloc | apply bel_drew | apply bel_drewN))).1 | exact (HX.out _ (by repeat (first | assumption | apply bel_alloc | apply bel_drew | apply bel_drewN))).2)
      ((go_at_call 30; refine (HA.out _ _ _ hx3 HM3.out (by repeat (first | assumption | apply bel_alloc | apply bel_drew | apply bel_drewN))).mono ?_; rintro e w4 ⟨rfl, hD4, hT4⟩; have HD4 := Lib.hid hD4; have HT4 := Lib.hid hT4; have y0 := (HT.out _ hT4).1; have y1 := (HT.out _ hT4).2; clear hD4 hT4))
    all_goals (go_wp2_with fail)
    all_goals go_ret
    all_goals (rw [HR.out]; exact ⟨rfl, HD4.out, HT4.out⟩)
end Go.Proofs.Ytokmiphgalpahaa
