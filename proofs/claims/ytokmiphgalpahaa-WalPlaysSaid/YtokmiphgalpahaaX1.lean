/- The document's Sync (29). -/
import Derived.Test.YtokmiphgalpahaaWV
namespace Go.Proofs.Ytokmiphgalpahaa
open Go.RowKit Go.Kt
set_option maxRecDepth 100000
variable {F G : Nat → Prop} {w w' w0 : World} {m : Nat} {P : Pd} {lv : Value} {rs : List RS}
set_option maxRecDepth 100000 in
set_option maxHeartbeats 2000000 in
theorem sync_ref (h : RefIs G w m P lv rs) (hok : PdOk P) (n : Int) : Calls Try.prog 18 #[.pointer (some ⟨m, 0, none⟩), .int .i64 n] w (RDone G w m (P.sync n)) := by
  have H := Lib.hid h
  have Hok := Lib.hid hok
  obtain ⟨c0, c1, c2, c3⟩ := h.cell
  have hlen : rs.length ≤ 1024 := by rw [h.len]; exact hok.len
  unfold Pd.sync
  cases hd : P.down with
  | true =>
    rw [hd] at c3
    clear h hok
    go_enter Try.func18, Try.ntmps18
    go_wp2_with fail
    go_ret
    exact ⟨rfl, ⟨_, _, H.out.more (fun x hx => .inl hx)⟩, Turn.refl _ _⟩
  | false =>
    rw [hd] at c3
    rw [if_neg (by simp)]
    by_cases hh : HasP n P.L
    · rw [if_neg (fun h => h hh)]
      obtain ⟨i, r, hr, rfl, hi⟩ := idx_has h.eq hh
      have hil := (List.getElem?_eq_some_iff.1 hr).1
      have dn : decide ((i : Int) < 0) = false := by simp only [decide_eq_false_iff_not]; omega
      by_cases hf : P.fuse = 0
      · have e1 : decide (P.fuse ≠ 0) = false := by simpa using hf
        rw [if_pos hf]
        have HP := Lib.hid (power_ref h hok)
        rw [if_pos hf, e1] at HP
        clear h hok hr hh
        go_enter Try.func18, Try.ntmps18
        go_wp2_with (first
          | (go_at_call 41; refine (find_ref H.out r.n hlen).mono ?_; rw [hi]; rintro e w1 ⟨rfl, rfl⟩)
          | (go_at_call 42; refine HP.out.mono ?_; rintro e w1 ⟨rfl, hr1, ht1⟩; have HR1 := Lib.hid hr1; have HT1 := Lib.hid ht1; clear hr1 ht1))
        go_ret
        exact ⟨rfl, ⟨_, _, HR1.out.more (fun x hx => .inl hx)⟩, HT1.out.mono (fun x hx => hx ▸ H.out.Gm)⟩
      · have e1 : decide (P.fuse ≠ 0) = true := by simpa using hf
        rw [if_neg hf]
        have HP := Lib.hid (power_ref h hok)
        rw [if_neg hf, e1] at HP
        have hsm := seg_small h.eq hok hr
        have Hr := Lib.hid hr
        have HpL : Hid (P.L.map (syncP r.n) = P.L.set i ⟨r.n, r.sure ++ r.loose, (r.sure ++ r.loose).length, true⟩) := Lib.hid (map_at (f := fun q => { q with sure := q.b.length, kept := true }) P.L hok.inc i r.pg (pg_at h.eq hr))
        clear h hok hr hh
        go_enter Try.func18, Try.ntmps18
        go_upto_region 8 with (first
          | (go_at_call 41; refine (find_ref H.out r.n hlen).mono ?_; rw [hi]; rintro e w1 ⟨rfl, rfl⟩)
          | (go_at_call 42; refine HP.out.mono ?_; rintro e w1 ⟨rfl, hr1, ht1⟩; have HR1 := Lib.hid hr1; have HT1 := Lib.hid ht1; clear hr1 ht1))
        obtain ⟨g, cap, rfl, k0, k1, k2, k3, kf, hgl⟩ := HR1.out.seg Hr.out
        obtain ⟨q0, q1, q2, q3⟩ := HR1.out.cell
        have hro := HR1.out.rows r (List.mem_of_getElem? Hr.out)
        obtain ⟨_, sa, sc, hsv, _⟩ := hro.1.rd
        obtain ⟨_, la, lc, hlv, _⟩ := hro.2.1.rd
        rw [hsv] at k1
        rw [hlv] at k2
        have HJ : Hid (∀ W, Below w1.heap.size w1 W → Calls Try.prog 43 #[.slice sa r.sure.length sc, .slice la r.loose.length lc] W fun e w' => ∃ v, e = .returned v ∧ Mine8 5 W w' v (r.sure ++ r.loose) ∧ Below W.heap.size W w') := Lib.hid (fun W hW => join_any _ _ r.sure r.loose W (by rw [← hsv]; exact hro.1.rd.below hW) (by rw [← hlv]; exact hro.2.1.rd.below hW) (by omega))
        have HC : Hid (∀ W, Below w1.heap.size w1 W → W.cell? ⟨m, 1, none⟩ = some (.slice (some ⟨g, 0, none⟩) rs.length cap) ∧ (∀ j, W.frozen? ⟨g, j, none⟩ = false) ∧ g < W.heap.size ∧ W.cell? ⟨g, i * 4, none⟩ = some (.int .i64 r.n) ∧ W.cell? ⟨g, i * 4 + 1, none⟩ = some (.slice sa r.sure.length sc) ∧ W.cell? ⟨g, i * 4 + 2, none⟩ = some (.slice la r.loose.length lc) ∧ W.cell? ⟨g, i * 4 + 3, none⟩ = some (.bool r.kept)) := Lib.hid (fun W hW => by
          have h1 := HR1.out.next hW
          obtain ⟨g', cap', e, z0, z1, z2, z3, zf, zl⟩ := h1.seg Hr.out
          injection e with e1 _ _
          injection e1 with e1
          injection e1 with e1
          subst e1
          rw [hsv] at z1
          rw [hlv] at z2
          exact ⟨h1.cell.2.1, zf, zl, z0, z1, z2, z3⟩)
        have hx1 := bel_refl w1
        have j1 : (0 : Int) ≤ (i : Int) := by omega
        have j2 : (i : Int) < (rs.length : Int) := by omega
        clear hro
        go_region_law
          (go_simp; go_at_call 43; refine (HJ.out _ (by repeat (first | assumption | apply bel_alloc | apply bel_drew))).mono ?_; rintro e w3 ⟨jv, rfl, hj, hb3⟩; obtain ⟨ja, jc, rfl, _⟩ := hj.rd.open; have hx3 : Below w1.heap.size w1 w3 := bel_trans (by repeat (first | assumption | apply bel_alloc | apply bel_drew)) hb3; obtain ⟨y1, yf, yl, y2, y3, y4, y5⟩ := HC.out _ hx3; have HJ3 : Hid (Mine8 5 w1 w3 (.slice ja (r.sure.length + r.loose.length) jc) (r.sure ++ r.loose)) := Lib.hid (by rw [List.length_append] at hj; exact hj); have HX3 := Lib.hid hx3; clear hb3 hj)
        all_goals (go_wp2_with fail)
        all_goals go_ret
        all_goals (
          have hz := ref_store (P' := { P with fuse := powF P.fuse, L := P.L.map (syncP r.n) }) (r' := ⟨r.n, .slice ja (r.sure.length + r.loose.length) jc, r.sure ++ r.loose, .slice none 0 0, [], true⟩) (HT1.out.mono (fun x hx => hx ▸ H.out.Gm)) HR1.out HX3.out Hr.out HJ3.out (mine8_nil 5 w1 w3) rfl rfl rfl (by
            show P.L.map (syncP r.n) = P.L.set i ⟨r.n, (r.sure ++ r.loose) ++ [], (r.sure ++ r.loose).length, true⟩
            rw [List.append_nil]
            exact HpL.out)
          exact ⟨rfl, ⟨_, _, by rw [hd] at hz; exact hz.1⟩, hz.2⟩)
    · rw [if_pos hh]
      have hi := idx_no h.eq hh
      clear h hok hh
      go_enter Try.func18, Try.ntmps18
      go_wp2_with (go_at_call 41; refine (find_ref H.out n hlen).mono ?_; rw [hi]; rintro e w1 ⟨rfl, rfl⟩)
      go_ret
      exact ⟨rfl, ⟨_, _, H.out.more (fun x hx => .inl hx)⟩, Turn.refl _ _⟩
end Go.Proofs.Ytokmiphgalpahaa
