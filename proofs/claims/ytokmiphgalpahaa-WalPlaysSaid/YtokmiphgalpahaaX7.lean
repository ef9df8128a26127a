/- Is (19). -/
import Derived.Test.YtokmiphgalpahaaX6
namespace Go.Proofs.Ytokmiphgalpahaa
open Go.RowKit Go.Kt
set_option maxRecDepth 100000
variable {F G : Nat → Prop} {w w' W : World} {d mb m : Nat} {P : Pd} {lv : Value} {rs : List RS} {l : List Sg}
theorem encZ_def (z : Int) : encZ z = .int .i64 z := rfl
set_option maxRecDepth 100000 in
set_option maxHeartbeats 4000000 in
theorem is_any (hI : DiskIs F w d mb P.room P.fuse P.down l) (hL : l.map Sg.pg = P.L) (hR : RefIs G w m P lv rs) (hok : PdOk P) : Calls Try.prog 16 #[.pointer (some ⟨d, 0, none⟩), .pointer (some ⟨m, 0, none⟩)] w fun e w' => e = .returned (.bool true) ∧ Below w.heap.size w w' := by
  have HI := Lib.hid hI
  have HR := Lib.hid hR
  have Hok := Lib.hid hok
  have hlr : rs.length = l.length := by rw [hR.len, ← hL, List.length_map]
  have hlen : l.length ≤ 1024 := hI.len
  have hul : used l = usedP P.L := by rw [← hL, ← used_pg]
  obtain ⟨la, lc, rfl⟩ := hR.form
  obtain ⟨c0, c1, c2, c3⟩ := hR.cell
  have Hpg : Hid (∀ (k : Nat) (s : Sg), l[k]? = some s → ∃ r, rs[k]? = some r ∧ r.n = s.n ∧ r.sure ++ r.loose = s.b) := Lib.hid (fun k s hs => by
    have h1 : (l.map Sg.pg)[k]? = some s.pg := by rw [List.getElem?_map, hs]; rfl
    rw [hL, ← hR.eq, List.getElem?_map] at h1
    cases hx : rs[k]? with
    | none => rw [hx] at h1; cases h1
    | some r =>
      rw [hx] at h1
      have h2 : r.pg = s.pg := by simpa using h1
      injection h2 with a b _ _
      exact ⟨r, rfl, a, b⟩)
  have hx0 := bel_refl w
  have HC0 : Hid (∀ W, Below w.heap.size w W → W.cell? ⟨m, 3, none⟩ = some (.bool P.down)) := Lib.hid (fun W hW => (hR.next hW).cell.2.2.2)
  have hpu := hok.tot
  have hpr := hok.room1
  generalize hup : usedP P.L = u at *
  have Hup := Lib.hid hup
  have Hul := Lib.hid hul
  clear hI hR hok hup hul
  cases hdn : P.down with
  | true =>
    rw [hdn] at c3 HC0
    have HIt : Hid (DiskIs F w d mb P.room P.fuse true l) := Lib.hid (by have := HI.out; rw [hdn] at this; exact this)
    go_enter Try.func16, Try.ntmps16
    go_upto_region 1 with fail
    go_region_held3 (fun w' => w'.cell? ⟨m, 3, none⟩ = some (.bool true))
      (first | go_keep | exact HC0.out _ (by repeat (first | assumption | apply bel_alloc | apply bel_drew | apply bel_drewN)))
      (first
        | (go_at_call 37; refine (down_any (HIt.out.next (by repeat (first | assumption | apply bel_alloc | apply bel_drew | apply bel_drewN)))).mono ?_; rintro e w3 ⟨rfl, rfl⟩)
        | (go_at_call 38; refine (used_any (HIt.out.next (by repeat (first | assumption | apply bel_alloc | apply bel_drew | apply bel_drewN)))).mono ?_; rw [Hul.out]; rintro e w4 ⟨rfl, hb4⟩; have hx4 : Below w.heap.size w w4 := bel_trans (by repeat (first | assumption | apply bel_alloc | apply bel_drew | apply bel_drewN)) hb4; clear hb4)
        | (go_at_call 39; refine (used_ref (HR.out.next (by repeat (first | assumption | apply bel_alloc | apply bel_drew | apply bel_drewN))) Hok.out).mono ?_; rw [Hup.out]; rintro e w5 ⟨rfl, hb5⟩; have hx5 : Below w.heap.size w w5 := bel_trans (by repeat (first | assumption | apply bel_alloc | apply bel_drew | apply bel_drewN)) hb5; clear hb5))
    have HX5 := Lib.hid hx5
    clear hx5 hx4
    go_wp2_with (go_at_call 20; refine (segs_down (HIt.out.next HX5.out)).mono ?_; rintro e w6 ⟨rfl, rfl⟩; have g1 : w5.cell? ⟨m, 3, none⟩ = some (.bool true) := HC0.out _ HX5.out)
    go_ret
    exact ⟨rfl, HX5.out⟩
  | false =>
    rw [hdn] at c3 HC0
    have HI' : Hid (DiskIs F w d mb P.room P.fuse false l) := Lib.hid (by have := HI.out; rw [hdn] at this; exact this)
    go_enter Try.func16, Try.ntmps16
    go_upto_region 1 with fail
    go_region_held3 (fun w' => w'.cell? ⟨m, 3, none⟩ = some (.bool false))
      (first | go_keep | exact HC0.out _ (by repeat (first | assumption | apply bel_alloc | apply bel_drew | apply bel_drewN)))
      (first
        | (go_at_call 37; refine (down_any (HI'.out.next (by repeat (first | assumption | apply bel_alloc | apply bel_drew | apply bel_drewN)))).mono ?_; rintro e w3 ⟨rfl, rfl⟩)
        | (go_at_call 38; refine (used_any (HI'.out.next (by repeat (first | assumption | apply bel_alloc | apply bel_drew | apply bel_drewN)))).mono ?_; rw [Hul.out]; rintro e w4 ⟨rfl, hb4⟩; have hx4 : Below w.heap.size w w4 := bel_trans (by repeat (first | assumption | apply bel_alloc | apply bel_drew | apply bel_drewN)) hb4; clear hb4)
        | (go_at_call 39; refine (used_ref (HR.out.next (by repeat (first | assumption | apply bel_alloc | apply bel_drew | apply bel_drewN))) Hok.out).mono ?_; rw [Hup.out]; rintro e w5 ⟨rfl, hb5⟩; have hx5 : Below w.heap.size w w5 := bel_trans (by repeat (first | assumption | apply bel_alloc | apply bel_drew | apply bel_drewN)) hb5; clear hb5))
    have HX5 := Lib.hid hx5
    clear hx5 hx4
    go_wp2_with (go_at_call 20; refine (segs_yes (HI'.out.next HX5.out)).mono ?_; rintro e w6 ⟨v6, rfl, hrow, hb6⟩; obtain ⟨_, va, vcap, rfl, hvc, hvb, _⟩ := (show Own 3 1 w6 v6 l.length (l.map (fun s => encZ s.n)) from ownsRow_base_a hrow (by omega)).rd; have Hrow := Lib.hid hrow; have HX6 := Lib.hid (bel_trans HX5.out hb6); have g1 : w6.cell? ⟨m, 3, none⟩ = some (.bool false) := HC0.out _ HX6.out; have g2 : w6.cell? ⟨m, 1, none⟩ = some (.slice la rs.length lc) := (HR.out.next HX6.out).cell.2.1; have Hs5 := Lib.hid HX5.out.size; rw [hlr] at g2; clear hrow hb6)
    go_loopw [7, 8, 9, 10, 55] (fun _ _ _ _ iv wr => ∃ k : Nat, k ≤ l.length ∧ iv = .int .i64 k ∧ Hid (Below w6.heap.size w6 wr)) (fun _ _ _ _ iv _ => l.length - (intOf iv).toNat)
    case atStart => exact ⟨0, by omega, rfl, Lib.hid (bel_refl w6)⟩
    case round =>
      obtain ⟨k, hk, rfl, HBw⟩ := hrel
      by_cases hlt : k < l.length
      · obtain ⟨s, hs⟩ : ∃ x, l[k]? = some x := ⟨l[k], List.getElem?_eq_getElem hlt⟩
        obtain ⟨r, hr, hrn, hrb⟩ := Hpg.out k s hs
        have HXr := Lib.hid (bel_trans HX6.out HBw.out)
        have HRr := Lib.hid (HR.out.next HXr.out)
        have HIr := Lib.hid (HI'.out.next HXr.out)
        have hmem := List.mem_of_getElem? hs
        obtain ⟨vb, hvb2, hvc2⟩ : ∃ b, va = some ⟨b, 0, none⟩ ∧ w6.cell? ⟨b, k, none⟩ = some (.int .i64 s.n) := by
          have hrow := Hrow.out
          rcases hrow.2 with ⟨e, h0⟩ | ⟨g, cap', cur, e, hb, hg, hn, hm, hcs, ht⟩
          · omega
          · injection e with e1 e2 e3
            subst e1
            refine ⟨g, rfl, ?_⟩
            rw [cell_of_row w6 g _ cur 3 (0, 0) hg]
            have h2 := congrArg (fun z => z[k]?) ht
            simp only [List.getElem?_take, if_pos (show k < l.length * 1 by omega)] at h2
            rw [List.getElem?_map, hs] at h2
            simpa [encZ] using h2
        subst hvb2
        have hvl := World.block_lt_of_cell? w6 _ hvc2
        have HVc : Hid (∀ W, Below wr.heap.size wr W → W.cell? ⟨vb, k, none⟩ = some (.int .i64 s.n)) := Lib.hid (fun W hW => ((bel_trans HBw.out hW).cell (p := ⟨vb, k, none⟩) hvl).trans hvc2)
        have v0 := HVc.out _ (bel_refl wr)
        have j1 : (0 : Int) ≤ (k : Int) := by omega
        have j2 : (k : Int) < (l.length : Int) := by omega
        have Hr := Lib.hid hr
        have Hrb := Lib.hid hrb
        have Hmem := Lib.hid hmem
        have hsm := HIr.out.small hmem
        clear hs hr hrb hmem hvc2
        go_wp2_with fail
        refine (read_yes HIr.out Hmem.out).mono ?_
        rintro e w7 ⟨bv, rfl, hm7, hb7⟩
        obtain ⟨ba, bc, rfl, _⟩ := hm7.rd.open
        have HM7 := Lib.hid hm7
        have HB7 := Lib.hid hb7
        have HRC : Hid (∀ W, Below w7.heap.size w7 W → W.cell? ⟨vb, k, none⟩ = some (.int .i64 s.n) ∧ ∃ g, la = some ⟨g, 0, none⟩ ∧ W.cell? ⟨m, 1, none⟩ = some (.slice (some ⟨g, 0, none⟩) l.length lc) ∧ W.cell? ⟨g, k * 4, none⟩ = some (.int .i64 s.n)) := Lib.hid (fun W hW => by
          have h1 := HRr.out.next (bel_trans HB7.out hW)
          obtain ⟨g, cap, e, z0, _⟩ := h1.seg Hr.out
          injection e with e1 _ _
          subst e1
          refine ⟨HVc.out _ (bel_trans HB7.out hW), g, rfl, ?_, by rw [← hrn]; exact z0⟩
          have := h1.cell.2.1
          rw [hlr] at this
          exact this)
        obtain ⟨y0, g, hga, y1, y2⟩ := HRC.out _ (bel_refl w7)
        subst hga
        have HRD : Hid (∀ W, Below w7.heap.size w7 W → W.cell? ⟨vb, k, none⟩ = some (.int .i64 s.n) ∧ W.cell? ⟨m, 1, none⟩ = some (.slice (some ⟨g, 0, none⟩) l.length lc) ∧ W.cell? ⟨g, k * 4, none⟩ = some (.int .i64 s.n)) := Lib.hid (fun W hW => by
          obtain ⟨a, g', e, b, c⟩ := HRC.out W hW
          injection e with e
          injection e with e
          subst e
          exact ⟨a, b, c⟩)
        clear HRC
        have HCv : Hid (∀ W, Below w7.heap.size w7 W → (convert 22 9 (.slice ba s.b.length bc)).run Try.prog W = .ok (.string ⟨s.b.toArray⟩) W) := Lib.hid (fun W hW => run_str8 (src := 22) (dst := 9) Try.underlying22 Try.underlying5 Try.underlying9 (HM7.out.rd.below hW))
        have hcn : ∀ n, (convert 22 9 (.slice ba s.b.length bc)).run Try.prog (w7.drewN n) = .ok (.string ⟨s.b.toArray⟩) (w7.drewN n) := fun n => HCv.out _ (bel_drewN (bel_refl w7) n)
        have hc0 := HCv.out _ (bel_refl w7)
        have hc1 := HCv.out _ (bel_drew (bel_refl w7))
        have hx7 := bel_refl w7
        clear hm7 hb7
        go_upto_region 12 with fail
        refine wp_region_noPanic ?_
        refine wp_region_held_drew (S := (fun w' => w'.cell? ⟨vb, k, none⟩ = some (.int .i64 s.n) ∧ w'.cell? ⟨m, 1, none⟩ = some (.slice (some ⟨g, 0, none⟩) l.length lc) ∧ w'.cell? ⟨g, k * 4, none⟩ = some (.int .i64 s.n) ∧ (convert 22 9 (.slice ba s.b.length bc)).run Try.prog w' = .ok (.string ⟨s.b.toArray⟩) w')) (by kernel_rfl) ?hS0 (fun hHeld => ?_)
        case hS0 => (try dsimp only); (first | exact ⟨p0, p1, p2, hc8⟩ | (have hz := HRD.out _ (by repeat (first | assumption | apply bel_alloc | apply bel_drew | apply bel_drewN)); exact ⟨hz.1, hz.2.1, hz.2.2, HCv.out _ (by repeat (first | assumption | apply bel_alloc | apply bel_drew | apply bel_drewN))⟩) | go_keep)
        refine wpAnyH_take (i := 0) (oi := ?o0) (v := ?v0) ?hi0 (by kernel_rfl) (by kernel_rfl) (by kernel_rfl) (fun _ _ _ h => h) (Or.inl ⟨?hw0, ?hy0⟩) (by assumption) ?rest0
        case hi0 => (simp only [List.getElem?_toArray, List.getElem?_cons_succ, List.getElem?_cons_zero]; rfl)
        case hw0 => rfl
        case hy0 => (intro w hSw; (try dsimp only at hSw); go_simp; try (with_reducible rfl))
        try simp only [Act.put, List.setIfInBounds_toArray, List.set_cons_zero, List.set_cons_succ]
        refine wpAnyH_take (i := 1) (oi := ?o1) (v := ?v1) ?hi1 (by kernel_rfl) (by kernel_rfl) (by kernel_rfl) (fun _ _ _ h => h) (Or.inl ⟨?hw1, ?hy1⟩) (by assumption) ?rest1
        case hi1 => (simp only [List.getElem?_toArray, List.getElem?_cons_succ, List.getElem?_cons_zero]; rfl)
        case hw1 => rfl
        case hy1 => (intro w hSw; (try dsimp only at hSw); go_simp; try (with_reducible rfl))
        try simp only [Act.put, List.setIfInBounds_toArray, List.set_cons_zero, List.set_cons_succ]
        refine wpAnyH_take (i := 2) (oi := ?o2) (v := ?v2) ?hi2 (by kernel_rfl) (by kernel_rfl) (by kernel_rfl) (fun _ _ _ h => h) (Or.inl ⟨?hw2, ?hy2⟩) (by assumption) ?rest2
        case hi2 => (simp only [List.getElem?_toArray, List.getElem?_cons_succ, List.getElem?_cons_zero]; rfl)
        case hw2 => rfl
        case hy2 => (intro w hSw; (try dsimp only at hSw); go_simp; try (with_reducible rfl))
        try simp only [Act.put, List.setIfInBounds_toArray, List.set_cons_zero, List.set_cons_succ]
        refine wpAnyH_take (i := 3) (oi := ?o3) (v := ?v3) ?hi3 (by kernel_rfl) (by kernel_rfl) (by kernel_rfl) (fun _ _ _ h => h) (Or.inl ⟨?hw3, ?hy3⟩) (by assumption) ?rest3
        case hi3 => (simp only [List.getElem?_toArray, List.getElem?_cons_succ, List.getElem?_cons_zero]; rfl)
        case hw3 => rfl
        case hy3 => (intro w hSw; (try dsimp only at hSw); go_simp; try (with_reducible rfl))
        try simp only [Act.put, List.setIfInBounds_toArray, List.set_cons_zero, List.set_cons_succ]
        refine wpAnyH_take (i := 4) (oi := ?o4) (v := ?v4) ?hi4 (by kernel_rfl) (by kernel_rfl) (by kernel_rfl) (fun _ _ _ h => h) (Or.inl ⟨?hw4, ?hy4⟩) (by assumption) ?rest4
        case hi4 => (simp only [List.getElem?_toArray, List.getElem?_cons_succ, List.getElem?_cons_zero]; rfl)
        case hw4 => rfl
        case hy4 => (intro w hSw; (try dsimp only at hSw); go_simp; try (with_reducible rfl))
        try simp only [Act.put, List.setIfInBounds_toArray, List.set_cons_zero, List.set_cons_succ]
        refine wpAnyH_take (i := 5) (oi := ?o5) (v := ?v5) ?hi5 (by kernel_rfl) (by kernel_rfl) (by kernel_rfl) (fun _ _ _ h => h) (Or.inl ⟨?hw5, ?hy5⟩) (by assumption) ?rest5
        case hi5 => (simp only [List.getElem?_toArray, List.getElem?_cons_succ, List.getElem?_cons_zero]; rfl)
        case hw5 => rfl
        case hy5 => (intro w hSw; (try dsimp only at hSw); go_simp; try (with_reducible rfl))
        try simp only [Act.put, List.setIfInBounds_toArray, List.set_cons_zero, List.set_cons_succ]
        refine wpAnyH_take (i := 6) (oi := ?o6) (v := ?v6) ?hi6 (by kernel_rfl) (by kernel_rfl) (by kernel_rfl) (fun _ _ _ h => h) (Or.inl ⟨?hw6, ?hy6⟩) (by assumption) ?rest6
        case hi6 => (simp only [List.getElem?_toArray, List.getElem?_cons_succ, List.getElem?_cons_zero]; rfl)
        case hw6 => rfl
        case hy6 => (intro w hSw; (try dsimp only at hSw); go_simp; try (with_reducible rfl))
        try simp only [Act.put, List.setIfInBounds_toArray, List.set_cons_zero, List.set_cons_succ]
        refine wpAnyH_take (i := 7) (oi := ?o7) (v := ?v7) ?hi7 (by kernel_rfl) (by kernel_rfl) (by kernel_rfl) (fun _ _ _ h => h) (Or.inl ⟨?hw7, ?hy7⟩) (by assumption) ?rest7
        case hi7 => (simp only [List.getElem?_toArray, List.getElem?_cons_succ, List.getElem?_cons_zero]; rfl)
        case hw7 => rfl
        case hy7 => (intro w hSw; (try dsimp only at hSw); go_simp; try (with_reducible rfl))
        try simp only [Act.put, List.setIfInBounds_toArray, List.set_cons_zero, List.set_cons_succ]
        refine wpAnyH_take (i := 8) (oi := ?o8) (v := ?v8) ?hi8 (by kernel_rfl) (by kernel_rfl) (by kernel_rfl) (fun _ _ _ h => h) (Or.inl ⟨?hw8, ?hy8⟩) (by assumption) ?rest8
        case hi8 => (simp only [List.getElem?_toArray, List.getElem?_cons_succ, List.getElem?_cons_zero]; rfl)
        case hw8 => rfl
        case hy8 => (intro w hSw; (try dsimp only at hSw); go_simp; try (with_reducible rfl))
        try simp only [Act.put, List.setIfInBounds_toArray, List.set_cons_zero, List.set_cons_succ]
        refine wpAnyH_take (i := 9) (oi := ?o9) (v := ?v9) ?hi9 (by kernel_rfl) (by kernel_rfl) (by kernel_rfl) (fun _ _ _ h => h) (Or.inl ⟨?hw9, ?hy9⟩) (by assumption) ?rest9
        case hi9 => (simp only [List.getElem?_toArray, List.getElem?_cons_succ, List.getElem?_cons_zero]; rfl)
        case hw9 => rfl
        case hy9 => (intro w hSw; (try dsimp only at hSw); go_simp; try (with_reducible rfl))
        try simp only [Act.put, List.setIfInBounds_toArray, List.set_cons_zero, List.set_cons_succ]
        refine wpAnyH_take (i := 10) (oi := ?o10) (v := ?v10) ?hi10 (by kernel_rfl) (by kernel_rfl) (by kernel_rfl) (fun _ _ _ h => h) (Or.inl ⟨?hw10, ?hy10⟩) (by assumption) ?rest10
        case hi10 => (simp only [List.getElem?_toArray, List.getElem?_cons_succ, List.getElem?_cons_zero]; rfl)
        case hw10 => rfl
        case hy10 => (intro w hSw; (try dsimp only at hSw); go_simp; try (with_reducible rfl))
        try simp only [Act.put, List.setIfInBounds_toArray, List.set_cons_zero, List.set_cons_succ]
        refine wpAnyH_take (i := 11) (oi := ?o11) (v := ?v11) ?hi11 (by kernel_rfl) (by kernel_rfl) (by kernel_rfl) (fun _ _ _ h => h) (Or.inl ⟨?hw11, ?hy11⟩) (by assumption) ?rest11
        case hi11 => (simp only [List.getElem?_toArray, List.getElem?_cons_succ, List.getElem?_cons_zero]; rfl)
        case hw11 => rfl
        case hy11 => (intro w hSw; (try dsimp only at hSw); go_simp; try (with_reducible rfl))
        try simp only [Act.put, List.setIfInBounds_toArray, List.set_cons_zero, List.set_cons_succ]
        refine wpAnyH_take (i := 12) (oi := ?o12) (v := ?v12) ?hi12 (by kernel_rfl) (by kernel_rfl) (by kernel_rfl) (fun _ _ _ h => h) (Or.inl ⟨?hw12, ?hy12⟩) (by assumption) ?rest12
        case hi12 => (simp only [List.getElem?_toArray, List.getElem?_cons_succ, List.getElem?_cons_zero]; rfl)
        case hw12 => rfl
        case hy12 => (intro w hSw; (try dsimp only at hSw); go_simp; try (with_reducible rfl))
        try simp only [Act.put, List.setIfInBounds_toArray, List.set_cons_zero, List.set_cons_succ]
        refine wpAnyH_take (i := 13) (oi := ?o13) (v := ?v13) ?hi13 (by kernel_rfl) (by kernel_rfl) (by kernel_rfl) (fun _ _ _ h => h) (Or.inl ⟨?hw13, ?hy13⟩) (by assumption) ?rest13
        case hi13 => (simp only [List.getElem?_toArray, List.getElem?_cons_succ, List.getElem?_cons_zero]; rfl)
        case hw13 => rfl
        case hy13 => (intro w hSw; (try dsimp only at hSw); go_simp; try (with_reducible rfl))
        try simp only [Act.put, List.setIfInBounds_toArray, List.set_cons_zero, List.set_cons_succ]
        refine wpAnyH_take (i := 14) (oi := ?o14) (v := ?v14) ?hi14 (by kernel_rfl) (by kernel_rfl) (by kernel_rfl) (fun _ _ _ h => h) (Or.inl ⟨?hw14, ?hy14⟩) (by assumption) ?rest14
        case hi14 => (simp only [List.getElem?_toArray, List.getElem?_cons_succ, List.getElem?_cons_zero]; rfl)
        case hw14 => rfl
        case hy14 => (intro w hSw; (try dsimp only at hSw); go_simp; try (with_reducible rfl))
        try simp only [Act.put, List.setIfInBounds_toArray, List.set_cons_zero, List.set_cons_succ]
        refine wpAnyH_take (i := 15) (oi := ?o15) (v := ?v15) ?hi15 (by kernel_rfl) (by kernel_rfl) (by kernel_rfl) (fun _ _ _ h => h) (Or.inl ⟨?hw15, ?hy15⟩) (by assumption) ?rest15
        case hi15 => (simp only [List.getElem?_toArray, List.getElem?_cons_succ, List.getElem?_cons_zero]; rfl)
        case hw15 => rfl
        case hy15 => (intro w hSw; (try dsimp only at hSw); go_simp; try (with_reducible rfl))
        try simp only [Act.put, List.setIfInBounds_toArray, List.set_cons_zero, List.set_cons_succ]
        refine wpAnyH_take (i := 16) (oi := ?o16) (v := ?v16) ?hi16 (by kernel_rfl) (by kernel_rfl) (by kernel_rfl) (fun _ _ _ h => h) (Or.inl ⟨?hw16, ?hy16⟩) (by assumption) ?rest16
        case hi16 => (simp only [List.getElem?_toArray, List.getElem?_cons_succ, List.getElem?_cons_zero]; rfl)
        case hw16 => rfl
        case hy16 => (intro w hSw; (try dsimp only at hSw); go_simp; try (with_reducible rfl))
        try simp only [Act.put, List.setIfInBounds_toArray, List.set_cons_zero, List.set_cons_succ]
        refine wpAnyH_take (i := 17) (oi := ?o17) (v := ?v17) ?hi17 (by kernel_rfl) (by kernel_rfl) (by kernel_rfl) (fun _ _ _ h => h) (Or.inl ⟨?hw17, ?hy17⟩) (by assumption) ?rest17
        case hi17 => (simp only [List.getElem?_toArray, List.getElem?_cons_succ, List.getElem?_cons_zero]; rfl)
        case hw17 => rfl
        case hy17 => (intro w hSw; (try dsimp only at hSw); go_simp; try (with_reducible rfl))
        try simp only [Act.put, List.setIfInBounds_toArray, List.set_cons_zero, List.set_cons_succ]
        refine wpAnyH_take (i := 18) (oi := ?o18) (v := ?v18) ?hi18 (by kernel_rfl) (by kernel_rfl) (by kernel_rfl) (fun _ _ _ h => h) (Or.inl ⟨?hw18, ?hy18⟩) (by assumption) ?rest18
        case hi18 => (simp only [List.getElem?_toArray, List.getElem?_cons_succ, List.getElem?_cons_zero]; rfl)
        case hw18 => rfl
        case hy18 => (intro w hSw; (try dsimp only at hSw); go_simp; try (with_reducible rfl))
        try simp only [Act.put, List.setIfInBounds_toArray, List.set_cons_zero, List.set_cons_succ]
        refine wpAnyH_take (i := 19) (oi := ?o19) (v := ?v19) ?hi19 (by kernel_rfl) (by kernel_rfl) (by kernel_rfl) (fun _ _ _ h => h) (Or.inl ⟨?hw19, ?hy19⟩) (by assumption) ?rest19
        case hi19 => (simp only [List.getElem?_toArray, List.getElem?_cons_succ, List.getElem?_cons_zero]; rfl)
        case hw19 => rfl
        case hy19 => (intro w hSw; (try dsimp only at hSw); go_simp; try (with_reducible rfl))
        try simp only [Act.put, List.setIfInBounds_toArray, List.set_cons_zero, List.set_cons_succ]
        refine wpAnyH_take (i := 20) (oi := ?o20) (v := ?v20) ?hi20 (by kernel_rfl) (by kernel_rfl) (by kernel_rfl) (fun _ _ _ h => h) (Or.inl ⟨?hw20, ?hy20⟩) (by assumption) ?rest20
        case hi20 => (simp only [List.getElem?_toArray, List.getElem?_cons_succ, List.getElem?_cons_zero]; rfl)
        case hw20 => rfl
        case hy20 => (intro w hSw; (try dsimp only at hSw); go_simp; try (with_reducible rfl))
        try simp only [Act.put, List.setIfInBounds_toArray, List.set_cons_zero, List.set_cons_succ]
        refine wpAnyH_take (i := 21) (oi := ?o21) (v := ?v21) ?hi21 (by kernel_rfl) (by kernel_rfl) (by kernel_rfl) (fun _ _ _ h => h) (Or.inl ⟨?hw21, ?hy21⟩) (by assumption) ?rest21
        case hi21 => (simp only [List.getElem?_toArray, List.getElem?_cons_succ, List.getElem?_cons_zero]; rfl)
        case hw21 => rfl
        case hy21 => (intro w hSw; (try dsimp only at hSw); go_simp; try (with_reducible rfl))
        try simp only [Act.put, List.setIfInBounds_toArray, List.set_cons_zero, List.set_cons_succ]
        refine wpAnyH_ready (rs := [22]) (by kernel_rfl) (by simp) ?_
        refine AllReadyH.cons rfl (fun K hK => ?_) AllReadyH.nil
        go_simp
        (go_at_call 34; refine (bytes_ref (HRr.out.next (bel_trans HB7.out (by repeat (first | assumption | apply bel_alloc | apply bel_drew | apply bel_drewN)))) Hok.out Hr.out).mono ?_; rw [Hrb.out]; rintro e w8 ⟨cv, rfl, hm8, hb8⟩; have hx8 : Below w7.heap.size w7 w8 := bel_trans (by repeat (first | assumption | apply bel_alloc | apply bel_drew | apply bel_drewN)) hb8; obtain ⟨ca, cc, rfl, _⟩ := hm8.rd.open; obtain ⟨p0, p1, p2⟩ := HRD.out _ hx8; have hc8 := HCv.out _ hx8; have hd8 : (convert 22 9 (.slice ca s.b.length cc)).run Try.prog w8 = .ok (.string ⟨s.b.toArray⟩) w8 := run_str8 (src := 22) (dst := 9) Try.underlying22 Try.underlying5 Try.underlying9 hm8.rd; have hd9 : (convert 22 9 (.slice ca s.b.length cc)).run Try.prog w8.drew = .ok (.string ⟨s.b.toArray⟩) w8.drew := run_str8 (src := 22) (dst := 9) Try.underlying22 Try.underlying5 Try.underlying9 hm8.rd; have hdn : ∀ n, (convert 22 9 (.slice ca s.b.length cc)).run Try.prog (w8.drewN n) = .ok (.string ⟨s.b.toArray⟩) (w8.drewN n) := fun n => run_str8 (src := 22) (dst := 9) Try.underlying22 Try.underlying5 Try.underlying9 (hm8.rd.drewN n); clear hb8 hm8)
        try go_wp2_with fail
        refine hK.out _ _ ?hS22 (fun hHeld2 => ?_)
        case hS22 => (try dsimp only); (first | exact ⟨p0, p1, p2, hc8⟩ | (have hz := HRD.out _ (by repeat (first | assumption | apply bel_alloc | apply bel_drew | apply bel_drewN)); exact ⟨hz.1, hz.2.1, hz.2.2, HCv.out _ (by repeat (first | assumption | apply bel_alloc | apply bel_drew | apply bel_drewN))⟩) | go_keep)
        clear hK K hHeld; rename_i hHeld
        try simp only [Act.put, List.setIfInBounds_toArray, List.set_cons_zero, List.set_cons_succ]
        refine wpAnyH_ready (rs := [23]) (by kernel_rfl) (by simp) ?_
        refine AllReadyH.cons rfl (fun K hK => ?_) AllReadyH.nil
        go_simp
        refine hK.out _ _ ?hS23 (fun hHeld2 => ?_)
        case hS23 => (try dsimp only); (first | exact ⟨p0, p1, p2, hc8⟩ | (have hz := HRD.out _ (by repeat (first | assumption | apply bel_alloc | apply bel_drew | apply bel_drewN)); exact ⟨hz.1, hz.2.1, hz.2.2, HCv.out _ (by repeat (first | assumption | apply bel_alloc | apply bel_drew | apply bel_drewN))⟩) | go_keep)
        clear hK K hHeld; rename_i hHeld
        try simp only [Act.put, List.setIfInBounds_toArray, List.set_cons_zero, List.set_cons_succ]
        refine wpAnyH_take (i := 24) (oi := ?o24) (v := ?v24) ?hi24 (by kernel_rfl) (by kernel_rfl) (by kernel_rfl) (fun _ _ _ h => h) (Or.inl ⟨?hw24, ?hy24⟩) (by assumption) ?rest24
        case hi24 => (simp only [List.getElem?_toArray, List.getElem?_cons_succ, List.getElem?_cons_zero]; rfl)
        case hw24 => rfl
        case hy24 => (intro w hSw; (try dsimp only at hSw); go_simp; try (with_reducible rfl))
        try simp only [Act.put, List.setIfInBounds_toArray, List.set_cons_zero, List.set_cons_succ]
        refine wpAnyH_take (i := 25) (oi := ?o25) (v := ?v25) ?hi25 (by kernel_rfl) (by kernel_rfl) (by kernel_rfl) (fun _ _ _ h => h) (Or.inl ⟨?hw25, ?hy25⟩) (by assumption) ?rest25
        case hi25 => (simp only [List.getElem?_toArray, List.getElem?_cons_succ, List.getElem?_cons_zero]; rfl)
        case hw25 => rfl
        case hy25 => (intro w hSw; (try dsimp only at hSw); go_simp; try (with_reducible rfl))
        try simp only [Act.put, List.setIfInBounds_toArray, List.set_cons_zero, List.set_cons_succ]
        refine wpAnyH_done (by kernel_rfl) ?_ _
        refine NoPanic.normal ?_
        all_goals (
          have HX8 := Lib.hid (bel_trans HB7.out hx8)
          have HM8 := Lib.hid (HM7.out.below hx8)
          clear y0 y1 y2 hcn hc0 hc1 hc8 hd8 hd9 hdn p0 p1 p2 v0
          obtain ⟨wo, rfl⟩ : ∃ wo, wo = wr := ⟨_, rfl⟩
          go_wp2_with fail
          go_loopw [10, 95] (fun _ iv wi => ∃ (j : Nat) (l' : List UInt8), j ≤ s.b.length ∧ iv = .int .i64 j ∧ Hid (l'.length = s.b.length) ∧ Hid (Mine8 5 wo wi (.slice ba s.b.length bc) l') ∧ Hid (Below wo.heap.size wo wi)) (fun _ iv _ => s.b.length - (intOf iv).toNat)
          case atStart => exact ⟨0, s.b, by omega, rfl, Lib.hid rfl, HM8, HX8⟩
          case round =>
            obtain ⟨j, l', hj, rfl, Hl', HMj, HBj⟩ := hrel
            by_cases hjl : j < s.b.length
            · obtain ⟨g2, hg2, hz2, c5, f5, hset⟩ := HMj.out.place j (by rw [Hl'.out]; exact hjl)
              subst hg2
              have Hset := Lib.hid hset
              have hj1 : (0 : Int) ≤ (j : Int) := by omega
              have hj2 : (j : Int) < (s.b.length : Int) := by omega
              generalize l'[j]'(by rw [Hl'.out]; exact hjl) = by1 at *
              obtain ⟨u, hu⟩ := xor_byte by1
              have Hu := Lib.hid hu
              clear hset hu
              go_wp2_with fail
              rw [Hu.out]
              go_roundw
              case rel => exact ⟨j + 1, l'.set j u, by omega, by go_num, Lib.hid (by rw [List.length_set, Hl'.out]), Lib.hid (Hset.out u), Lib.hid (HBj.out.setCell hz2 _)⟩
              case measure => simp [intOf] <;> omega
            · obtain rfl : j = s.b.length := by omega
              have HE := Lib.hid (bel_trans HBw.out HBj.out)
              go_wp2_with fail
              go_roundw
              case rel => exact ⟨k + 1, by omega, by go_num, HE⟩
              case measure => simp [intOf] <;> omega)
      · obtain rfl : k = l.length := by omega
        go_wp2_with fail
        go_ret
        exact ⟨rfl, bel_trans HX6.out HBw.out⟩
end Go.Proofs.Ytokmiphgalpahaa

