/- The document's Bytes (33). -/
import Derived.Test.YtokmiphgalpahaaX2
namespace Go.Proofs.Ytokmiphgalpahaa
open Go.RowKit Go.Kt
set_option maxRecDepth 100000
variable {F G : Nat → Prop} {w w' w0 : World} {m : Nat} {P : Pd} {lv : Value} {rs : List RS}
set_option maxRecDepth 100000 in
set_option maxHeartbeats 2000000 in
theorem bytes_ref (h : RefIs G w m P lv rs) (hok : PdOk P) {i : Nat} {r : RS} (hr : rs[i]? = some r) : Calls Try.prog 34 #[.pointer (some ⟨m, 0, none⟩), .int .i64 (i : Int)] w fun e w' => ∃ v, e = .returned v ∧ Mine8 5 w w' v (r.sure ++ r.loose) ∧ Below w.heap.size w w' := by
  have H := Lib.hid h
  have Hr := Lib.hid hr
  have hlen : rs.length ≤ 1024 := by rw [h.len]; exact hok.len
  have hil := (List.getElem?_eq_some_iff.1 hr).1
  have hsm := seg_small h.eq hok hr
  obtain ⟨g, cap, rfl, k0, k1, k2, k3, kf, hgl⟩ := h.seg hr
  obtain ⟨q0, q1, q2, q3⟩ := h.cell
  have hro := h.rows r (List.mem_of_getElem? hr)
  obtain ⟨_, sa, sc, hsv, _⟩ := hro.1.rd
  obtain ⟨_, la, lc, hlv, _⟩ := hro.2.1.rd
  rw [hsv] at k1
  rw [hlv] at k2
  have HJ : Hid (∀ W, Below w.heap.size w W → Calls Try.prog 43 #[.slice sa r.sure.length sc, .slice la r.loose.length lc] W fun e w' => ∃ v, e = .returned v ∧ Mine8 5 W w' v (r.sure ++ r.loose) ∧ Below W.heap.size W w') := Lib.hid (fun W hW => join_any _ _ r.sure r.loose W (by rw [← hsv]; exact hro.1.rd.below hW) (by rw [← hlv]; exact hro.2.1.rd.below hW) (by omega))
  have HC : Hid (∀ W, Below w.heap.size w W → W.cell? ⟨m, 1, none⟩ = some (.slice (some ⟨g, 0, none⟩) rs.length cap) ∧ W.cell? ⟨g, i * 4 + 1, none⟩ = some (.slice sa r.sure.length sc) ∧ W.cell? ⟨g, i * 4 + 2, none⟩ = some (.slice la r.loose.length lc)) := Lib.hid (fun W hW => by
    have h1 := h.next hW
    obtain ⟨g', cap', e, z0, z1, z2, z3, zf, zl⟩ := h1.seg hr
    injection e with e1 _ _
    injection e1 with e1
    injection e1 with e1
    subst e1
    rw [hsv] at z1
    rw [hlv] at z2
    exact ⟨h1.cell.2.1, z1, z2⟩)
  have hx1 := bel_refl w
  have j1 : (0 : Int) ≤ (i : Int) := by omega
  have j2 : (i : Int) < (rs.length : Int) := by omega
  clear hro hr h
  go_enter Try.func34, Try.ntmps34
  go_upto_region 1 with fail
  go_region_held3 (fun w' => w'.cell? ⟨m, 1, none⟩ = some (.slice (some ⟨g, 0, none⟩) rs.length cap) ∧ w'.cell? ⟨g, i * 4 + 1, none⟩ = some (.slice sa r.sure.length sc) ∧ w'.cell? ⟨g, i * 4 + 2, none⟩ = some (.slice la r.loose.length lc))
    (first | go_keep | exact HC.out _ (by repeat (first | assumption | apply bel_alloc | apply bel_drew | apply bel_drewN)))
    ((go_at_call 43; refine (HJ.out _ (by repeat (first | assumption | apply bel_alloc | apply bel_drew | apply bel_drewN))).mono ?_; rintro e w3 ⟨jv, rfl, hj, hb3⟩; have hx3 : Below w.heap.size w w3 := bel_trans (by repeat (first | assumption | apply bel_alloc | apply bel_drew | apply bel_drewN)) hb3; have HJ3 : Hid (Mine8 5 w w3 jv (r.sure ++ r.loose)) := Lib.hid hj; clear hb3 hj))
  all_goals (go_wp2_with fail)
  all_goals go_ret
  all_goals (exact ⟨_, rfl, HJ3.out, hx3⟩)
end Go.Proofs.Ytokmiphgalpahaa
