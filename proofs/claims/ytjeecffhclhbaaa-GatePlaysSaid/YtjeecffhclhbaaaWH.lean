/- Gates: GatePlays (5). -/
import Derived.Test.YtjeecffhclhbaaaWG
namespace Go.Proofs.Ytjeecffhclhbaaa
open Go.RowKit Go.Kt

theorem quiet_left {P : Program} {f : FuncId} {args : Array Value} {w : World} {n : Nat} {v : Value}
    (h : Calls P f args (w.drewN n) fun e w' => e = .returned v ∧ w.drewN n = w') : Calls P f args (w.drewN n) fun e w'' => e = .returned v ∧ ∃ m, w'' = w.drewN m :=
  h.mono fun _ _ ⟨he, hm⟩ => ⟨he, n, hm.symm⟩
theorem askF_set (G : Gt) (s : ByteArray) (cost t : Int) : (askF G s cost t).2.burst = G.burst ∧ (askF G s cost t).2.each = G.each ∧ (askF G s cost t).2.room = G.room := by
  rcases askF_two G s cost t with ⟨h, _⟩ | h
  · rw [h]; exact ⟨rfl, rfl, rfl⟩
  · rw [h]; exact ⟨rfl, rfl, rfl⟩
theorem Ply.store {w0 w6 w7 : World} {g m mb : Nat} {G G2 : Gt} {la la' : Option Addr} {n lc n' lc' : Nat} {L L' : List Cl} (q : Ply w0 w6 g m mb G (.slice la n lc) L) (hG : GateAt w7 g m G2) (hg : w6.drew.grownBy w7 (some m))
    (h1 : G2.burst = G.burst ∧ G2.each = G.each ∧ G2.room = G.room) (hok : G2.ok) (hrd : RdCl w6 (.slice la' n' lc') L') (hs : Same G2 L') :
    Ply w0 ((((w7.setCell ⟨mb, 0, none⟩ (.int .i64 G.burst)).setCell ⟨mb, 1, none⟩ (.int .i64 G.each)).setCell ⟨mb, 2, none⟩ (.int .i64 G.room)).setCell ⟨mb, 3, none⟩ (.slice la' n' lc')) g m mb G2 (.slice la' n' lc') L' := by
  have hne := q.ne
  have hB7 : Blk w7 mb #[.int .i64 G.burst, .int .i64 G.each, .int .i64 G.room, .slice la n lc] 42 := (show Blk w6.drew mb _ 42 from q.blk).grown hg hne.1
  have hbel : Below w0.heap.size w0 w7 := below_grown' (bel_drew q.bel) hg q.mge
  have hrd7 : RdCl w7 (.slice la' n' lc') L' := rdRow_grown (rd_drew hrd) (show MapIs Try.prog 9 w6.drew m _ _ from q.gat.2) hg
  refine ⟨⟨?_, ?_⟩, hok, ?_, q.mge, q.bge, ?_, ?_, hs⟩
  · rw [set4_other g (Ne.symm hne.2)]; exact hG.1
  · exact (((hG.2.setCell (Ne.symm hne.1) _).setCell (Ne.symm hne.1) _).setCell (Ne.symm hne.1) _).setCell (Ne.symm hne.1) _
  · have k1 := bel_set (p := ⟨mb, 0, none⟩) (u := .int .i64 G.burst) hbel q.bge
    have k2 := bel_set (p := ⟨mb, 1, none⟩) (u := .int .i64 G.each) k1 q.bge
    have k3 := bel_set (p := ⟨mb, 2, none⟩) (u := .int .i64 G.room) k2 q.bge
    exact bel_set (p := ⟨mb, 3, none⟩) (u := .slice la' n' lc') k3 q.bge
  · rw [h1.1, h1.2.1, h1.2.2]
    exact set4_same hB7 _ _ _ _
  · exact rdcl_set hrd7 hB7 set4_other

set_option maxRecDepth 100000 in
set_option maxHeartbeats 4000000 in
theorem plays_any (b0 e0 r0 : Int) (v : Value) (l : List OpS) (w : World) (hv : RdOps w v l) :
    Calls Try.prog 5 #[.int .i64 b0, .int .i64 e0, .int .i64 r0, v] w fun e w' => e = .returned (.bool true) ∧ Below w.heap.size w w' := by
  obtain ⟨a, cap, rfl, hcap, hbig, hcell⟩ := hv.open
  have Hcell := Lib.hid hcell
  clear hcell hv
  cases hf : fitsB b0 e0 r0 with
  | false =>
    have Hf := Lib.hid hf
    clear hf
    go_enter Try.func5, Try.ntmps5
    go_wp2_with (first
      | (go_at_call 7; refine (new_no b0 e0 r0 _ Hf.out).mono ?_; rintro e w1 ⟨rfl, rfl⟩)
      | (go_at_call 11; refine (fits_any b0 e0 r0 _).mono ?_; rw [Hf.out]; rintro e w1 ⟨rfl, rfl⟩)
      | (go_at_call 8; refine (awake_any _).mono ?_; rintro e w2 ⟨rfl, hb2⟩; have Hb2 := Lib.hid hb2; clear hb2))
    go_ret
    exact ⟨rfl, Hb2.out⟩
  | true =>
    have Hf := Lib.hid hf
    clear hf
    go_enter Try.func5, Try.ntmps5
    go_wp2_with fail
    refine (new_ok b0 e0 r0 _ Hf.out).mono ?_
    rintro e w1 ⟨g, m, rfl, hG1, hg, hm, hb1⟩
    have HG1 := Lib.hid hG1
    have Hb1 := Lib.hid hb1
    clear hG1 hb1
    go_wp2_with (first
      | (go_at_call 11; refine (fits_any b0 e0 r0 _).mono ?_; rw [Hf.out]; rintro e w2 ⟨rfl, rfl⟩)
      | (go_at_call 8; refine (awake_any _).mono ?_; rintro e w2 ⟨rfl, hb2⟩; have HG2 := Lib.hid (HG1.out.below hb2); have Hb2 := Lib.hid (bel_trans Hb1.out hb2); clear hb2))
    have HP : Hid (Ply w (w2.alloc (.cells #[.int .i64 b0, .int .i64 e0, .int .i64 r0, .slice none 0 0] 42)) g m w2.heap.size (newG b0 e0 r0) (.slice none 0 0) []) := Lib.hid
      ⟨HG2.out.below (below_alloc _ _), newG_ok Hf.out, bel_alloc Hb2.out, hm, Hb2.out.size, Blk.new _ _ _, (own_nil _ 58 3).rd, ⟨rfl, by simp, fun s b h => (by cases h), by simp⟩⟩
    have HbG : Hid ((newG b0 e0 r0).burst = b0 ∧ (newG b0 e0 r0).each = e0 ∧ (newG b0 e0 r0).room = r0) := Lib.hid ⟨rfl, rfl, rfl⟩
    clear HG1 HG2 Hb1 Hb2
    generalize (w2.alloc (.cells #[.int .i64 b0, .int .i64 e0, .int .i64 r0, .slice none 0 0] 42)) = w3 at *
    generalize w2.heap.size = mb at *
    go_loopw [12, 13, 14, 15, 16, 54] (fun _ _ _ _ _ i wr => ∃ (k : Nat) (G : Gt) (lv : Value) (L : List Cl), k ≤ l.length ∧ k ≤ 80 ∧ i = .int .i64 k ∧ Hid (G.burst = b0 ∧ G.each = e0 ∧ G.room = r0) ∧ Hid (Ply w wr g m mb G lv L)) (fun _ _ _ _ _ i _ => l.length - (intOf i).toNat)
    case atStart => exact ⟨0, _, _, _, by omega, by omega, rfl, HbG, HP⟩
    case round =>
      obtain ⟨k, G, lv, L, hk, hk80, rfl, HbG2, HP⟩ := hrel
      by_cases hlt : k < l.length
      · obtain ⟨z, hz⟩ : ∃ z, l[k]? = some z := ⟨l[k], List.getElem?_eq_getElem hlt⟩
        obtain ⟨zok, bb, o, rfl, c1, c2, c3⟩ := Hcell.out k z hz
        obtain ⟨z1, z2, z3, z4, z5⟩ := zok
        have lb := World.block_lt_of_cell? w _ c1
        have c1' : wr.cell? ⟨bb, o + k * 3, none⟩ = some (.string z.s) := (HP.out.bel.cell (p := ⟨bb, o + k * 3, none⟩) lb).trans c1
        have c2' : wr.cell? ⟨bb, o + k * 3 + 1, none⟩ = some (.int .i64 z.c) := (HP.out.bel.cell (p := ⟨bb, o + k * 3 + 1, none⟩) lb).trans c2
        have c3' : wr.cell? ⟨bb, o + k * 3 + 2, none⟩ = some (.int .i64 z.t) := (HP.out.bel.cell (p := ⟨bb, o + k * 3 + 2, none⟩) lb).trans c3
        clear c1 c2 c3 hz
        obtain ⟨s, co, ti⟩ := z
        simp only at *
        by_cases h80 : k < 80
        · have m0 : wr.cell? ⟨mb, 0, none⟩ = some (.int .i64 G.burst) := HP.out.blk.cell 0
          have m1 : wr.cell? ⟨mb, 1, none⟩ = some (.int .i64 G.each) := HP.out.blk.cell 1
          have m2 : wr.cell? ⟨mb, 2, none⟩ = some (.int .i64 G.room) := HP.out.blk.cell 2
          obtain ⟨la, lc, rfl, hlc1, hlc2, -⟩ := HP.out.rd.open
          have m3 : wr.cell? ⟨mb, 3, none⟩ = some (.slice la L.length lc) := HP.out.blk.cell 3
          have hmbl := HP.out.blk.lt
          go_wp2_with fail
          have hbm := HP.out.gat.2.lt
          have HB0 := Lib.hid (Blk.new wr #[.string s, .int .i64 co, .int .i64 ti] 31)
          have HP0 := Lib.hid (HP.out.next (below_alloc wr (.cells #[.string s, .int .i64 co, .int .i64 ti] 31)))
          clear c1' c2' c3' m0 m1 m2 m3
          refine (refask_any G _ L s co ti _ HP0.out.rd HP0.out.same HP0.out.gok z1 z2).mono ?_
          rintro en w5 ⟨lv', L', rfl, hrd5, hsame5, hb5⟩
          have HB5 := Lib.hid (HB0.out.next hb5)
          have HP5 := Lib.hid (HP0.out.next hb5)
          have hbx5 : wr.heap.size < w5.heap.size := HB5.out.lt
          have Hrd5 := Lib.hid hrd5
          have Hsame5 := Lib.hid hsame5
          clear hrd5 hsame5 hb5 HP0 HB0 HP
          obtain ⟨la', lc', rfl, hl1, hl2, -⟩ := Hrd5.out.open
          go_wp2_with fail
          have hbm5 : m < w5.heap.size := HP5.out.gat.2.lt
          have hbx : wr.heap.size ≠ m := by omega
          have HN6 := Lib.hid (Blk.new w5 #[.int .i64 G.burst, .int .i64 G.each, .int .i64 G.room, .slice la' L'.length lc'] 42)
          have HB6 := Lib.hid (HB5.out.next (below_alloc w5 (.cells #[.int .i64 G.burst, .int .i64 G.each, .int .i64 G.room, .slice la' L'.length lc'] 42)))
          have HP6 := Lib.hid (HP5.out.next (below_alloc w5 (.cells #[.int .i64 G.burst, .int .i64 G.each, .int .i64 G.room, .slice la' L'.length lc'] 42)))
          have Hrd6 := Lib.hid (Hrd5.out.below (below_alloc w5 (.cells #[.int .i64 G.burst, .int .i64 G.each, .int .i64 G.room, .slice la' L'.length lc'] 42)))
          have hnm : w5.heap.size ≠ m := by omega
          have hnb : w5.heap.size ≠ mb := by have := HP5.out.blk.lt; omega
          have hnx : w5.heap.size ≠ wr.heap.size := by omega
          have HX5 : Hid (w.heap.size ≤ w5.heap.size) := Lib.hid HP5.out.bel.size
          clear HB5 HP5 Hrd5 hbx5 hbm5 hbm hmbl
          generalize (w5.alloc (.cells #[.int .i64 G.burst, .int .i64 G.each, .int .i64 G.room, .slice la' L'.length lc'] 42)) = w6 at *
          generalize wr.heap.size = bx at *
          generalize w5.heap.size = nb at *
          have k0 : w6.cell? ⟨bx, 0, none⟩ = some (.string s) := HB6.out.cell 0
          have k1 : w6.cell? ⟨bx, 1, none⟩ = some (.int .i64 co) := HB6.out.cell 1
          have k2 : w6.cell? ⟨bx, 2, none⟩ = some (.int .i64 ti) := HB6.out.cell 2
          have n3 : w6.cell? ⟨nb, 3, none⟩ = some (.slice la' L'.length lc') := HN6.out.cell 3
          go_region_held3 (fun w' => w'.cell? ⟨bx, 0, none⟩ = some (.string s) ∧ w'.cell? ⟨bx, 1, none⟩ = some (.int .i64 co) ∧ w'.cell? ⟨bx, 2, none⟩ = some (.int .i64 ti) ∧ w'.cell? ⟨nb, 3, none⟩ = some (.slice la' L'.length lc'))
            (first | go_keep | exact ⟨x0, x1, x2, x3⟩)
            (first
              | (go_at_call 9; refine (ask_any g m G s co ti _ (HP6.out.gat.below (by repeat (first | exact bel_refl _ | apply bel_drew))) HP6.out.gok z1 z2).mono ?_; rintro en w7 ⟨rfl, hG7, hg7⟩; have HB7 := Lib.hid ((show Blk w6.drew bx _ 31 from HB6.out).grown hg7 hbx); have HN7 := Lib.hid ((show Blk w6.drew nb _ 42 from HN6.out).grown hg7 hnm); have x0 : w7.cell? ⟨bx, 0, none⟩ = some (.string s) := HB7.out.cell 0; have x1 : w7.cell? ⟨bx, 1, none⟩ = some (.int .i64 co) := HB7.out.cell 1; have x2 : w7.cell? ⟨bx, 2, none⟩ = some (.int .i64 ti) := HB7.out.cell 2; have x3 : w7.cell? ⟨nb, 3, none⟩ = some (.slice la' L'.length lc') := HN7.out.cell 3)
              | (go_at_call 13; refine (clients_any g m _ _ hG7).mono ?_; rw [Hsame5.out.n]; rintro en w8 ⟨rfl, rfl⟩))
          have hP8 := HP6.out.store hG7 hg7 (askF_set G s co ti) (askF_ok HP6.out.gok s co ti) Hrd6.out Hsame5.out
          have hB7m : Blk w7 mb #[.int .i64 G.burst, .int .i64 G.each, .int .i64 G.room, .slice la L.length lc] 42 := (show Blk w6.drew mb _ 42 from HP6.out.blk).grown hg7 HP6.out.ne.1
          have HB8 : Hid (Blk ((((w7.setCell ⟨mb, 0, none⟩ (.int .i64 G.burst)).setCell ⟨mb, 1, none⟩ (.int .i64 G.each)).setCell ⟨mb, 2, none⟩ (.int .i64 G.room)).setCell ⟨mb, 3, none⟩ (.slice la' L'.length lc')) bx #[.string s, .int .i64 co, .int .i64 ti] 31) := Lib.hid (by
            have hne : bx ≠ mb := by
              intro e
              have h1 := HB6.out
              rw [e] at h1
              unfold Blk at h1
              rw [HP6.out.blk] at h1
              injection h1 with h1
              injection h1 with _ h1
              cases h1
            unfold Blk
            rw [set4_other bx hne]
            exact HB7.out)
          have HP8 := Lib.hid hP8
          have n0 : w7.cell? ⟨nb, 0, none⟩ = some (.int .i64 G.burst) := HN7.out.cell 0
          have n1 : w7.cell? ⟨nb, 1, none⟩ = some (.int .i64 G.each) := HN7.out.cell 1
          have n2 : w7.cell? ⟨nb, 2, none⟩ = some (.int .i64 G.room) := HN7.out.cell 2
          have y0 : w7.cell? ⟨mb, 0, none⟩ = some (.int .i64 G.burst) := hB7m.cell 0
          have y1 : w7.cell? ⟨mb, 1, none⟩ = some (.int .i64 G.each) := hB7m.cell 1
          have y2 : w7.cell? ⟨mb, 2, none⟩ = some (.int .i64 G.room) := hB7m.cell 2
          have y3 : w7.cell? ⟨mb, 3, none⟩ = some (.slice la L.length lc) := hB7m.cell 3
          have p0 := frozen_of_row _ _ 0 _ _ hB7m
          have p1 := frozen_of_row _ _ 1 _ _ hB7m
          have p2 := frozen_of_row _ _ 2 _ _ hB7m
          have p3 := frozen_of_row _ _ 3 _ _ hB7m
          clear hP8 hB7m hG7 hg7 HP6 HB6 HN6 Hrd6 k0 k1 k2 n3 x0 x1 x2 HB7 HN7
          go_wp2_with fail
          clear n0 n1 n2 x3 y0 y1 y2 y3 p0 p1 p2 p3
          generalize ((((w7.setCell ⟨mb, 0, none⟩ (.int .i64 G.burst)).setCell ⟨mb, 1, none⟩ (.int .i64 G.each)).setCell ⟨mb, 2, none⟩ (.int .i64 G.room)).setCell ⟨mb, 3, none⟩ (.slice la' L'.length lc')) = w8 at *
          have HbG3 : Hid ((askF G s co ti).2.burst = b0 ∧ (askF G s co ti).2.each = e0 ∧ (askF G s co ti).2.room = r0) := Lib.hid (by
            obtain ⟨q1, q2, q3⟩ := askF_set G s co ti
            rw [q1, q2, q3]; exact HbG2.out)
          generalize (askF G s co ti).2 = G2 at *
          go_loopw [16, 91] (fun _ jv wr => ∃ j : Nat, j ≤ 3 ∧ jv = .int .i64 j ∧ Hid (Below w8.heap.size w8 wr)) (fun _ jv _ => 3 - (intOf jv).toNat)
          case atStart => exact ⟨0, by omega, rfl, Lib.hid (bel_refl _)⟩
          case round =>
            obtain ⟨j, hj, rfl, Hb⟩ := hrel
            by_cases hj3 : j < 3
            · by_cases hkj : k < j
              · have hsub : IntKind.i64.wrap ((k : Int) - (j : Int)) = (k : Int) - (j : Int) := IntWalk.i64_in _ (by omega)
                have d : decide ((k : Int) - (j : Int) < 0) = true := by simp only [decide_eq_true_eq]; omega
                go_wp2_with fail
                go_quiet (fail)
                go_wp2_with fail
                go_roundw
                case rel => exact ⟨j + 1, by omega, by go_num, Lib.hid (bel_drewN Hb.out _)⟩
                case measure => simp [intOf]; omega
              · obtain ⟨p, hp⟩ : ∃ p : Nat, (p : Int) = (k : Int) - (j : Int) := ⟨k - j, by omega⟩
                obtain ⟨z, hz⟩ : ∃ z, l[p]? = some z := ⟨l[p]'(by omega), List.getElem?_eq_getElem (by omega)⟩
                obtain ⟨zok, bb', o', hbo, c1, -, -⟩ := Hcell.out p z hz
                cases hbo
                have lb := World.block_lt_of_cell? w _ c1
                have hwb : Below w.heap.size w wr := bel_trans HP8.out.bel Hb.out
                have c1' : wr.cell? ⟨bb, o + p * 3, none⟩ = some (.string z.s) := (hwb.cell (p := ⟨bb, o + p * 3, none⟩) lb).trans c1
                have hbbl : bb < wr.heap.size := Nat.lt_of_lt_of_le lb hwb.size
                have hBr := HB8.out.next Hb.out
                have x2 : wr.cell? ⟨bx, 2, none⟩ = some (.int .i64 ti) := hBr.cell 2
                have hbxl := hBr.lt
                have hsub : IntKind.i64.wrap ((k : Int) - (j : Int)) = (p : Int) := by rw [hp]; exact IntWalk.i64_in _ (by omega)
                have hp0 : (0 : Int) ≤ (p : Int) := by omega
                have hp1 : (p : Int) < (l.length : Int) := by omega
                have d : decide ((p : Int) < 0) = false := by simp only [decide_eq_false_iff_not]; omega
                have zs := zok.s1
                have HPr := Lib.hid (HP8.out.next Hb.out)
                have HBr := Lib.hid hBr
                clear c1 hz hp hwb hBr zok
                cases hr : rightB z.s ti with
                | false =>
                  have HQ : Hid (∀ W, Calls Try.prog 14 #[.string z.s, .int .i64 ti] W fun e w' => e = .returned (.bool false) ∧ w' = W) := Lib.hid (fun W => (refright_any z.s ti W zs).mono fun _ _ h => ⟨by rw [h.1, hr], h.2.symm⟩)
                  clear hr
                  go_wp2_with fail
                  go_quiet ((go_at_call 14; exact Calls.quiet_of_same (HQ.out _)))
                  go_wp2_with fail
                  go_roundw
                  case rel => exact ⟨j + 1, by omega, by go_num, Lib.hid (bel_drewN Hb.out _)⟩
                  case measure => simp [intOf]; omega
                | true =>
                  obtain ⟨t1, t2⟩ := rightB_t hr
                  have HQ : Hid (∀ W, Calls Try.prog 14 #[.string z.s, .int .i64 ti] W fun e w' => e = .returned (.bool true) ∧ w' = W) := Lib.hid (fun W => (refright_any z.s ti W zs).mono fun _ _ h => ⟨by rw [h.1, hr], h.2.symm⟩)
                  have hr9 := Lib.hid hr
                  clear hr
                  go_wp2_with fail
                  go_quiet ((go_at_call 14; exact Calls.quiet_of_same (HQ.out _)))
                  go_wp2_with fail
                  have hq0 : Below wr.heap.size wr (wr.drewN nq) := below_drewN _ _
                  have c1'' : (wr.drewN nq).cell? ⟨bb, o + p * 3, none⟩ = some (.string z.s) := c1'
                  have HP9 := Lib.hid (HPr.out.next hq0)
                  have HB9 := Lib.hid (HBr.out.next hq0)
                  have Hq := Lib.hid (bel_trans Hb.out hq0)
                  have hbb9 : bb < (wr.drewN nq).heap.size := hbbl
                  clear hq0 c1' x2 hbxl HPr HBr hbbl
                  generalize wr.drewN nq = w9 at *
                  have y0 : w9.cell? ⟨mb, 0, none⟩ = some (.int .i64 G2.burst) := HP9.out.blk.cell 0
                  have y1 : w9.cell? ⟨mb, 1, none⟩ = some (.int .i64 G2.each) := HP9.out.blk.cell 1
                  have y2 : w9.cell? ⟨mb, 2, none⟩ = some (.int .i64 G2.room) := HP9.out.blk.cell 2
                  have y3 : w9.cell? ⟨mb, 3, none⟩ = some (.slice la' L'.length lc') := HP9.out.blk.cell 3
                  have x2 : w9.cell? ⟨bx, 2, none⟩ = some (.int .i64 ti) := HB9.out.cell 2
                  have hmb9 := HP9.out.blk.lt
                  have hbx9 := HB9.out.lt
                  have HL : Hid (leftF G2 z.s ti = (findF G2 z.s ti).1) := Lib.hid (by unfold leftF; rw [hr9.out]; rfl)
                  have HK : Hid (∀ X, Below w9.heap.size w9 X → X.cell? ⟨bb, o + p * 3, none⟩ = some (.string z.s) ∧ X.cell? ⟨bx, 2, none⟩ = some (.int .i64 ti) ∧ X.cell? ⟨mb, 0, none⟩ = some (.int .i64 G2.burst) ∧ X.cell? ⟨mb, 1, none⟩ = some (.int .i64 G2.each) ∧ X.cell? ⟨mb, 2, none⟩ = some (.int .i64 G2.room) ∧ X.cell? ⟨mb, 3, none⟩ = some (.slice la' L'.length lc')) := Lib.hid (fun X hX =>
                    ⟨(hX.cell (p := ⟨bb, o + p * 3, none⟩) hbb9).trans c1'', (HB9.out.next hX).cell 2, (HP9.out.blk.next hX).cell 0, (HP9.out.blk.next hX).cell 1, (HP9.out.blk.next hX).cell 2, (HP9.out.blk.next hX).cell 3⟩)
                  have hx9 := bel_refl w9
                  go_region_held3 (fun w' => w'.cell? ⟨bb, o + p * 3, none⟩ = some (.string z.s) ∧ w'.cell? ⟨bx, 2, none⟩ = some (.int .i64 ti) ∧ w'.cell? ⟨mb, 0, none⟩ = some (.int .i64 G2.burst) ∧ w'.cell? ⟨mb, 1, none⟩ = some (.int .i64 G2.each) ∧ w'.cell? ⟨mb, 2, none⟩ = some (.int .i64 G2.room) ∧ w'.cell? ⟨mb, 3, none⟩ = some (.slice la' L'.length lc'))
                    (first | go_keep | (exact HK.out _ (by repeat (first | assumption | apply bel_alloc | apply bel_drew))))
                    (first
                      | (go_at_call 10; refine (left_any g m G2 z.s ti _ (HP9.out.gat.below (by repeat (first | assumption | apply bel_alloc | apply bel_drew))) HP9.out.gok zs).mono ?_; rintro en w10 ⟨rfl, hb⟩; rw [HL.out]; have hw10 : Below w9.heap.size w9 w10 := bel_trans (by repeat (first | assumption | apply bel_alloc | apply bel_drew)) hb; clear hb)
                      | (go_at_call 15; refine (has15 G2 _ L' z.s ti _ (HP9.out.rd.below (by repeat (first | assumption | apply bel_alloc | apply bel_drew))) HP9.out.same HP9.out.gok t1 t2).mono ?_; rintro en w11 ⟨rfl, hb⟩; have hw11 : Below w9.heap.size w9 w11 := bel_trans (by repeat (first | assumption | apply bel_alloc | apply bel_drew)) hb; clear hb))
                  all_goals (go_wp2_with fail)
                  all_goals go_roundw
                  all_goals first
                    | (case rel => exact ⟨j + 1, by omega, by go_num, Lib.hid (bel_trans Hq.out (by repeat (first | assumption | apply bel_alloc | apply bel_drew)))⟩)
                    | (case measure => simp [intOf]; omega)
            · go_wp2_with fail
              go_roundw
              case rel => exact ⟨k + 1, G2, _, L', by omega, by omega, by go_num, HbG3, Lib.hid (HP8.out.next Hb.out)⟩
              case measure => simp [intOf]; omega
        · go_wp2_with fail
          go_ret
          exact ⟨rfl, bel_alloc HP.out.bel⟩
      · go_wp2_with fail
        go_ret
        exact ⟨rfl, HP.out.bel⟩
end Go.Proofs.Ytjeecffhclhbaaa
