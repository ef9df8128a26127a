/- StorePlays (6). -/
import Derived.Test.YtplieoalfbpniaaGreatDI
import Derived.Deep.CutBlock
set_option linter.unusedVariables false
set_option linter.unusedSimpArgs false
namespace Go.Proofs.YtplieoalfbpniaaGreat
open Go.RowKit Go.Kt Go.Ix Go.Sx
set_option maxRecDepth 100000
theorem ok33 : ElemOk Tryz.prog 33 69 (.agg #[.string ⟨#[]⟩, .string ⟨#[]⟩]) 2 32 := ⟨Tryz.underlying33, info_parts (by kernel_rfl), rfl, by decide⟩
set_option maxHeartbeats 32000000 in
theorem plays_any (v : Value) (l : List Op) (w : World) (hv : RdO w v l) (hfr : ∀ o ∈ l, FitR o.rules) (hg : Glob w) :
    Calls Tryz.prog 6 #[v] w fun e w' => e = .returned (.bool true) ∧ Below w.heap.size w w' := by
  obtain ⟨a, cap, rfl, hcap, hbig, hcell⟩ := hv.open
  have Hcell := Lib.hid hcell
  have HG := Lib.hid hg
  have HFR := Lib.hid hfr
  clear hcell hg hv hfr
  go_enter Tryz.func6, Tryz.ntmps6
  go_upto_region 2 with (first
    | (go_at_call 14; refine (new_any w).mono ?_; rintro e w1 ⟨s, rfl, h1, hb1⟩; have H1 := Lib.hid h1; have HB1 := Lib.hid hb1; clear h1 hb1)
    | fail)
  have HP0 : Hid (PlAt w (w1.alloc (.cells #[.slice none 0 0] 67)) (fun x => w.heap.size ≤ x ∧ x < w1.heap.size) s w1.heap.size (min 0 80) [] [] (.slice none 0 0)) := Lib.hid
    ⟨H1.out.next (below_alloc _ _), fun x hx => hx.1, bel_trans HB1.out (below_alloc _ _), RSt.nil _ _, rfl, Blk.new w1 #[.slice none 0 0] 67, fun h => Nat.lt_irrefl _ h.2, HB1.out.size⟩
  generalize w1.alloc (.cells #[.slice none 0 0] 67) = w2 at HP0 ⊢
  generalize w1.heap.size = m at HP0 ⊢
  clear H1 HB1
  go_wp2_with fail
  go_loopw [21] (fun i wr => ∃ (k : Nat) (F : Nat → Prop) (M : List It) (Q : List Itm) (u : Value), k ≤ l.length ∧ i = .int .i64 k ∧ Hid (PlAt w wr F s m (min k 80) M Q u)) (fun i _ => l.length - (intOf i).toNat)
  case atStart => exact ⟨0, _, [], [], _, by omega, rfl, HP0⟩
  case round =>
    clear HP0
    obtain ⟨k, F, M, Q, u, hk, rfl, HP⟩ := hrel
    by_cases hlt : k < l.length
    · obtain ⟨o, ho⟩ : ∃ x, l[k]? = some x := ⟨l[k], List.getElem?_eq_getElem hlt⟩
      have hfo := HFR.out o (List.mem_of_getElem? ho)
      obtain ⟨hor, b, off, rfl, hbl, c0, c1, c2, c3, c4, c5, c6, c7, c8, c9, c10, c11⟩ := Hcell.out k o ho
      obtain ⟨kd, ⟨st, mt, mk, mn, mx, sv⟩, ⟨tw, tt, tm⟩, rl, fr, ti, rv⟩ := o
      simp only at c0 c1 c2 c3 c4 c5 c6 c7 c8 c9 c10 c11 hfo
      obtain ⟨sa, sc, hsv, -⟩ := hor.set.open
      obtain ⟨ra, rc, hrv, -⟩ := hor.rules.open
      simp only at hsv hrv
      subst hsv hrv
      have hB := HP.out.bel
      have d0 : wr.cell? ⟨b, off + k * 12, none⟩ = some (.int .i64 kd) := (hB.cell (p := ⟨b, _, none⟩) hbl).trans c0
      have d1 : wr.cell? ⟨b, off + k * 12 + 1, none⟩ = some (.slice sa st.length sc) := (hB.cell (p := ⟨b, _, none⟩) hbl).trans c1
      have d2 : wr.cell? ⟨b, off + k * 12 + 2, none⟩ = some (.int .i64 mt) := (hB.cell (p := ⟨b, _, none⟩) hbl).trans c2
      have d3 : wr.cell? ⟨b, off + k * 12 + 3, none⟩ = some (.int .i64 mk) := (hB.cell (p := ⟨b, _, none⟩) hbl).trans c3
      have d4 : wr.cell? ⟨b, off + k * 12 + 4, none⟩ = some (.int .i64 mn) := (hB.cell (p := ⟨b, _, none⟩) hbl).trans c4
      have d5 : wr.cell? ⟨b, off + k * 12 + 5, none⟩ = some (.string mx) := (hB.cell (p := ⟨b, _, none⟩) hbl).trans c5
      have d6 : wr.cell? ⟨b, off + k * 12 + 6, none⟩ = some (.int .i64 tw) := (hB.cell (p := ⟨b, _, none⟩) hbl).trans c6
      have d7 : wr.cell? ⟨b, off + k * 12 + 7, none⟩ = some (.int .u32 tt) := (hB.cell (p := ⟨b, _, none⟩) hbl).trans c7
      have d8 : wr.cell? ⟨b, off + k * 12 + 8, none⟩ = some (.int .u32 tm) := (hB.cell (p := ⟨b, _, none⟩) hbl).trans c8
      have d9 : wr.cell? ⟨b, off + k * 12 + 9, none⟩ = some (.slice ra rl.length rc) := (hB.cell (p := ⟨b, _, none⟩) hbl).trans c9
      have d10 : wr.cell? ⟨b, off + k * 12 + 10, none⟩ = some (.int .i64 fr) := (hB.cell (p := ⟨b, _, none⟩) hbl).trans c10
      have d11 : wr.cell? ⟨b, off + k * 12 + 11, none⟩ = some (.int .i64 ti) := (hB.cell (p := ⟨b, _, none⟩) hbl).trans c11
      have hbb : b < wr.heap.size := Nat.lt_of_lt_of_le hbl hB.size
      have HOr := Lib.hid hor
      have HFo := Lib.hid hfo
      have hk1 : (0 : Int) ≤ (k : Int) := by omega
      have hk2 : (k : Int) < (l.length : Int) := by omega
      clear c0 c1 c2 c3 c4 c5 c6 c7 c8 c9 c10 c11 hbl hB hor ho hfo
      have HX := Lib.hid (Blk.new wr #[.int .i64 kd, (.slice sa st.length sc), .int .i64 mt, .int .i64 mk, .int .i64 mn, .string mx, .int .i64 tw, .int .u32 tt, .int .u32 tm, (.slice ra rl.length rc), .int .i64 fr, .int .i64 ti] 46)
      have HBa := Lib.hid (below_alloc wr (.cells #[.int .i64 kd, (.slice sa st.length sc), .int .i64 mt, .int .i64 mk, .int .i64 mn, .string mx, .int .i64 tw, .int .u32 tt, .int .u32 tm, (.slice ra rl.length rc), .int .i64 fr, .int .i64 ti] 46))
      go_upto_region 5 with fail
      have HP5 : Hid (PlAt w (wr.alloc (.cells #[.int .i64 kd, (.slice sa st.length sc), .int .i64 mt, .int .i64 mk, .int .i64 mn, .string mx, .int .i64 tw, .int .u32 tt, .int .u32 tm, (.slice ra rl.length rc), .int .i64 fr, .int .i64 ti] 46)) F s m (min k 80) M Q u) := Lib.hid (HP.out.below HBa.out)
      have HO5 : Hid (OpR (wr.alloc (.cells #[.int .i64 kd, (.slice sa st.length sc), .int .i64 mt, .int .i64 mk, .int .i64 mn, .string mx, .int .i64 tw, .int .u32 tt, .int .u32 tm, (.slice ra rl.length rc), .int .i64 fr, .int .i64 ti] 46)) ⟨kd, ⟨st, mt, mk, mn, mx, .slice sa st.length sc⟩, ⟨tw, tt, tm⟩, rl, fr, ti, .slice ra rl.length rc⟩) := Lib.hid (HOr.out.below (bel_trans HP.out.bel HBa.out))
      generalize wr.alloc (.cells #[.int .i64 kd, (.slice sa st.length sc), .int .i64 mt, .int .i64 mk, .int .i64 mn, .string mx, .int .i64 tw, .int .u32 tt, .int .u32 tm, (.slice ra rl.length rc), .int .i64 fr, .int .i64 ti] 46) = w5 at HX HBa HP5 HO5 ⊢
      have x0 : w5.cell? ⟨wr.heap.size, 0, none⟩ = some (.int .i64 kd) := HX.out.cell 0
      have HLt : Hid (¬ F wr.heap.size) := Lib.hid (fun h => Nat.lt_irrefl _ (HP.out.st.lt _ h))
      have HNg : Hid (wr.heap.size ≠ m) := Lib.hid (fun e => by have := HP.out.blk.lt; omega)
      have HFl : Hid (∀ x, F x → x < wr.heap.size) := Lib.hid HP.out.st.lt
      have HGl : Hid (Glob w5) := Lib.hid (HG.out.below HP5.out.bel)
      have HSz : Hid (wr.heap.size < w5.heap.size ∧ w.heap.size ≤ wr.heap.size) := Lib.hid ⟨HX.out.lt, HP.out.bel.size⟩
      clear d0 d1 d2 d3 d4 d5 d6 d7 d8 d9 d10 d11 hbb HP
      generalize wr.heap.size = g at *
      clear HBa
      have Hk : Hid (k < l.length) := Lib.hid hlt
      by_cases h80 : k < 80
      · have hk3 : decide ((80 : Int) ≤ (k : Int)) = false := by simp; omega
        have hk4 : ¬ (80 : Int) ≤ (k : Int) := by omega
        have Hk8 : Hid (min k 80 + 1 ≤ 1000000) := Lib.hid (by omega)
        have Hk9 : Hid (min k 80 + 1 = min (k + 1) 80) := Lib.hid (by omega)
        obtain ⟨N, hN⟩ : ∃ N, min k 80 = N := ⟨_, rfl⟩
        rw [hN] at HP5 Hk8 Hk9
        clear h80 hN
        go_upto_block 2 with fail
        go_cut [] (fun wc => ∃ (F' : Nat → Prop) (M' : List It) (Q' : List Itm) (u' : Value), Hid (PlAt w wc F' s m (N + 1) M' Q' u'))
        case first =>
          clear hk1 hk2 hk3 hk4 hlt
          have HKs : Hid (∀ W, Below w5.heap.size w5 W → W.cell? ⟨g, 0, none⟩ = some (.int .i64 kd) ∧ W.cell? ⟨g, 1, none⟩ = some (.slice sa st.length sc) ∧ W.cell? ⟨g, 2, none⟩ = some (.int .i64 mt) ∧ W.cell? ⟨g, 3, none⟩ = some (.int .i64 mk) ∧ W.cell? ⟨g, 4, none⟩ = some (.int .i64 mn) ∧ W.cell? ⟨g, 5, none⟩ = some (.string mx) ∧ W.cell? ⟨g, 6, none⟩ = some (.int .i64 tw) ∧ W.cell? ⟨g, 7, none⟩ = some (.int .u32 tt) ∧ W.cell? ⟨g, 8, none⟩ = some (.int .u32 tm) ∧ W.cell? ⟨g, 9, none⟩ = some (.slice ra rl.length rc) ∧ W.cell? ⟨g, 10, none⟩ = some (.int .i64 fr) ∧ W.cell? ⟨g, 11, none⟩ = some (.int .i64 ti)) := Lib.hid (fun W hW => ⟨(HX.out.next hW).cell 0, (HX.out.next hW).cell 1, (HX.out.next hW).cell 2, (HX.out.next hW).cell 3, (HX.out.next hW).cell 4, (HX.out.next hW).cell 5, (HX.out.next hW).cell 6, (HX.out.next hW).cell 7, (HX.out.next hW).cell 8, (HX.out.next hW).cell 9, (HX.out.next hW).cell 10, (HX.out.next hW).cell 11⟩)
          obtain ⟨ua, uc, hu, -⟩ := HP5.out.rst.open
          subst hu
          obtain ⟨c0, c1, c2, c3, c4, c5, c6, c7, c8, c9, c10, c11⟩ := HKs.out w5 (bel_refl w5)
          clear x0
          by_cases hkd0 : kd = 0
          · subst hkd0
            have hkb : ((0 : Int) == 0) = true := rfl
            go_upto_region 9 with (first
              | (go_at_call 16; refine (wto_new ⟨st, mt, mk, mn, mx, .slice sa st.length sc⟩ _ HO5.out.set HO5.out.len).mono ?_; rintro e w6 ⟨va, vc, rfl, hv6⟩; have HV6 := Lib.hid hv6; clear hv6)
              | fail)
            clear c0 c1 c2 c3 c4 c5 c6 c7 c8 c9 c10 c11
            have HH := Lib.hid (Blk.new w6 #[.slice va st.length vc, .int .i64 mt, .int .i64 mk, .int .i64 mn, .string mx] 50)
            have HB67 := Lib.hid (below_alloc w6 (.cells #[.slice va st.length vc, .int .i64 mt, .int .i64 mk, .int .i64 mn, .string mx] 50))
            generalize w6.alloc (.cells #[.slice va st.length vc, .int .i64 mt, .int .i64 mk, .int .i64 mn, .string mx] 50) = w7 at HH HB67 ⊢
            have HB57 := Lib.hid (bel_trans HV6.out.2.2 HB67.out)
            have HV7 : Hid (OwnP 69 w7 (.slice va st.length vc) st) := Lib.hid (OwnP.below HV6.out.1 HB67.out)
            have HVn : Hid (∀ b, (Value.slice va st.length vc).ownBlock = some b → w5.heap.size ≤ b ∧ b < w6.heap.size) := Lib.hid (fun b hb => ⟨HV6.out.2.1 b hb, HV6.out.1.lt b hb⟩)
            have HKh : Hid (∀ W, Below w7.heap.size w7 W → W.cell? ⟨g, 6, none⟩ = some (.int .i64 tw) ∧ W.cell? ⟨g, 7, none⟩ = some (.int .u32 tt) ∧ W.cell? ⟨g, 8, none⟩ = some (.int .u32 tm) ∧ W.cell? ⟨w6.heap.size, 0, none⟩ = some (.slice va st.length vc) ∧ W.cell? ⟨w6.heap.size, 1, none⟩ = some (.int .i64 mt) ∧ W.cell? ⟨w6.heap.size, 2, none⟩ = some (.int .i64 mk) ∧ W.cell? ⟨w6.heap.size, 3, none⟩ = some (.int .i64 mn) ∧ W.cell? ⟨w6.heap.size, 4, none⟩ = some (.string mx)) := Lib.hid (fun W hW => ⟨(HX.out.next (bel_trans HB57.out hW)).cell 6, (HX.out.next (bel_trans HB57.out hW)).cell 7, (HX.out.next (bel_trans HB57.out hW)).cell 8, (HH.out.next hW).cell 0, (HH.out.next hW).cell 1, (HH.out.next hW).cell 2, (HH.out.next hW).cell 3, (HH.out.next hW).cell 4⟩)
            obtain ⟨er, her⟩ : ∃ er, (putS M ⟨st, mt, mk, mn, mx, .slice sa st.length sc⟩ ⟨tw, tt, tm⟩).1 = er := ⟨_, rfl⟩
            obtain ⟨M2, hM2⟩ : ∃ M2, (putS M ⟨st, mt, mk, mn, mx, .slice sa st.length sc⟩ ⟨tw, tt, tm⟩).2 = M2 := ⟨_, rfl⟩
            have HPut : Hid (∀ W, Below w7.heap.size w7 W → Calls Tryz.prog 15 #[.pointer (some ⟨s, 0, none⟩), wagg (Wr.with ⟨st, mt, mk, mn, mx, .slice sa st.length sc⟩ (.slice va st.length vc)), Tm.val ⟨tw, tt, tm⟩] W fun e w' => e = .returned (.int .i64 er) ∧ ∃ F', St F' w' s M2 (N + 1) ∧ (∀ x, F' x → F x ∨ W.heap.size ≤ x) ∧ Turn F W w') := Lib.hid (fun W hW => by
              have h9 := put_any (Wr.with ⟨st, mt, mk, mn, mx, .slice sa st.length sc⟩ (.slice va st.length vc)) ⟨tw, tt, tm⟩ W (HP5.out.st.next (bel_trans HB57.out hW)) (Nat.le_of_succ_le Hk8.out) (OwnP.rd (HV7.out.below hW)) HO5.out.fit HO5.out.text
              rw [show putS M (Wr.with ⟨st, mt, mk, mn, mx, .slice sa st.length sc⟩ (.slice va st.length vc)) ⟨tw, tt, tm⟩ = putS M ⟨st, mt, mk, mn, mx, .slice sa st.length sc⟩ ⟨tw, tt, tm⟩ from rfl, her, hM2] at h9
              exact h9)
            have HEr : Hid ((putS M ⟨st, mt, mk, mn, mx, .slice sa st.length sc⟩ ⟨tw, tt, tm⟩).1 = er) := Lib.hid her
            have HM2 : Hid ((putS M ⟨st, mt, mk, mn, mx, .slice sa st.length sc⟩ ⟨tw, tt, tm⟩).2 = M2) := Lib.hid hM2
            have hx7 := bel_refl w7
            have hgl : g < w7.heap.size := Nat.lt_of_lt_of_le HX.out.lt HB57.out.size
            have hhl : w6.heap.size < w7.heap.size := HH.out.lt
            have HNh : Hid (¬ F w6.heap.size) := Lib.hid (fun h => by have h1 := HFl.out _ h; have h2 := HX.out.lt; have h3 := HV6.out.2.2.size; omega)
            obtain ⟨q0, q1, q2, q3, q4, q5, q6, q7⟩ := HKh.out w7 hx7
            clear her hM2
            go_region_held3 (fun W => W.cell? ⟨g, 6, none⟩ = some (.int .i64 tw) ∧ W.cell? ⟨g, 7, none⟩ = some (.int .u32 tt) ∧ W.cell? ⟨g, 8, none⟩ = some (.int .u32 tm) ∧ W.cell? ⟨w6.heap.size, 0, none⟩ = some (.slice va st.length vc) ∧ W.cell? ⟨w6.heap.size, 1, none⟩ = some (.int .i64 mt) ∧ W.cell? ⟨w6.heap.size, 2, none⟩ = some (.int .i64 mk) ∧ W.cell? ⟨w6.heap.size, 3, none⟩ = some (.int .i64 mn) ∧ W.cell? ⟨w6.heap.size, 4, none⟩ = some (.string mx))
              (first | (with_reducible exact ⟨q0, q1, q2, q3, q4, q5, q6, q7⟩) | (with_reducible exact ⟨y0, y1, y2, y3, y4, y5, y6, y7⟩) | (with_reducible refine HKh.out _ ?_; (repeat (first | assumption | apply bel_alloc | apply bel_drew)); done) | go_keep)
              (first
                | (go_simp; go_at_call 11; refine (to_any1 ⟨tw, tt, tm⟩ _).mono ?_; rintro e w8 ⟨rfl, hb8⟩; have hx8 : Below w7.heap.size w7 w8 := bel_trans (by repeat (first | exact bel_refl _ | assumption | apply bel_alloc | apply bel_drew)) hb8; clear hb8)
                | (go_simp; go_at_call 15; refine (HPut.out _ (by repeat (first | exact bel_refl _ | assumption | apply bel_alloc | apply bel_drew))).mono ?_; rintro e w9 ⟨rfl, F9, h9, hF9, ht9⟩; have hbx : Below w7.heap.size w7 _ := (show Below w7.heap.size w7 _ from (by repeat (first | exact bel_refl _ | assumption | apply bel_alloc | apply bel_drew))); have H9 := Lib.hid h9; have HT9 := Lib.hid (HP5.out.turned (bel_trans HB57.out hx8) h9 hF9 ht9); have hxb := blk_keep ht9 (HX.out.next (bel_trans HB57.out hx8)) HLt.out; have hhb := blk_keep ht9 (HH.out.next hx8) HNh.out; have HX9 := Lib.hid hxb; have HH9 := Lib.hid hhb; have HTt9 := Lib.hid ht9; have HF9 := Lib.hid hF9; have HB8 := Lib.hid hx8; have y0 : w9.cell? ⟨g, 6, none⟩ = some (.int .i64 tw) := hxb.cell 6; have y1 : w9.cell? ⟨g, 7, none⟩ = some (.int .u32 tt) := hxb.cell 7; have y2 : w9.cell? ⟨g, 8, none⟩ = some (.int .u32 tm) := hxb.cell 8; have y3 : w9.cell? ⟨w6.heap.size, 0, none⟩ = some (.slice va st.length vc) := hhb.cell 0; have y4 : w9.cell? ⟨w6.heap.size, 1, none⟩ = some (.int .i64 mt) := hhb.cell 1; have y5 : w9.cell? ⟨w6.heap.size, 2, none⟩ = some (.int .i64 mk) := hhb.cell 2; have y6 : w9.cell? ⟨w6.heap.size, 3, none⟩ = some (.int .i64 mn) := hhb.cell 3; have y7 : w9.cell? ⟨w6.heap.size, 4, none⟩ = some (.string mx) := hhb.cell 4; clear h9 hF9 ht9 hxb hhb hbx))
            clear hx7 hx8 hgl hhl q0 q1 q2 q3 q4 q5 q6 q7 y0 y1 y2 HPut HKh
            have HS9 : Hid (Sh 69 2 w9 (.slice va st.length vc) st.length) := Lib.hid ⟨_, own_keep HTt9.out (HV7.out.below HB8.out) (fun b hb h => by have h1 := HFl.out b h; have h2 := (HVn.out b hb).1; have h3 := HSz.out.1; omega)⟩
            have HT0 := Lib.hid (Turn.refl (fun x => (Value.slice va st.length vc).ownBlock = some x) w9)
            go_wp2_with fail
            clear y3 y4 y5 y6 y7
            go_loopw [44] (fun i wr => ∃ j : Nat, j ≤ st.length ∧ i = .int .i64 j ∧ Hid (Sh 69 2 wr (.slice va st.length vc) st.length) ∧ Hid (Turn (fun x => (Value.slice va st.length vc).ownBlock = some x) w9 wr)) (fun i _ => st.length - (intOf i).toNat)
            case atStart => exact ⟨0, by omega, rfl, HS9, HT0⟩
            case round =>
              clear HS9 HT0
              obtain ⟨j, hj, rfl, HSq, HTq⟩ := hrel
              have hq := blk_keep HTq.out HH9.out (fun h => by have := (HVn.out _ h).2; omega)
              by_cases hjl : j < st.length
              · have y3 : wr.cell? ⟨w6.heap.size, 0, none⟩ = some (.slice va st.length vc) := hq.cell 0
                clear hq
                obtain ⟨b1, cap1, u1, e1, p1, f1⟩ := HSq.out.place (j := j * 2) (by omega)
                obtain ⟨b2, cap2, u2, e2, p2, f2⟩ := HSq.out.place (j := j * 2 + 1) (by omega)
                have HSh := Lib.hid HSq.out
                have HTh := Lib.hid HTq.out
                rw [e1] at e2
                injection e1 with e1 e1' e1''
                injection e2 with e2 e2' e2''
                injection e2 with e2
                injection e2 with e2
                subst e1 e1'' e2
                have hj1 : (0 : Int) ≤ (j : Int) := by omega
                have hj2 : (j : Int) < (st.length : Int) := by omega
                have Hj := Lib.hid hjl
                have hsl : st.length ≤ 4398046511104 := HOr.out.len
                clear e1' e2' e2'' HSq HTq
                go_wp2_with fail
                go_roundw
                case rel => exact ⟨j + 1, Hj.out, by go_num, Lib.hid ((HSh.out.set b1 (j * 2) _).set b1 (j * 2 + 1) _), Lib.hid ((HTh.out.set (a := ⟨b1, j * 2, none⟩) rfl _).set (a := ⟨b1, j * 2 + 1, none⟩) rfl _)⟩
                case measure => have := Hj.out; simp [intOf]; omega
              · obtain rfl : j = st.length := by omega
                obtain ⟨wA, rfl⟩ : ∃ wA, wA = wr := ⟨_, rfl⟩
                have hTA : Turn F w5 wA := ((Turn.of (F := F) (bel_trans HB57.out HB8.out)).trans HTt9.out (fun x hx => .inl hx)).trans HTq.out (fun x hx => .inr (HVn.out x hx).1)
                have hSA : St F9 wA s M2 (N + 1) := H9.out.keep HTq.out (fun x hx hx2 => by
                  have h1 := HVn.out x hx2
                  rcases HF9.out x hx with h2 | h2
                  · have := HFl.out x h2; have := HSz.out.1; omega
                  · have h3 := HB8.out.size; have h4 := HB67.out.size; omega)
                have HA := Lib.hid (HP5.out.turn hSA (fun x hx => by
                  rcases HF9.out x hx with h2 | h2
                  · exact .inl h2
                  · exact .inr (by have h3 := HB8.out.size; have h4 := HB57.out.size; omega)) hTA)
                have HSA := Lib.hid hSA
                have HXA := Lib.hid (blk_keep HTq.out HX9.out (fun h => by have h1 := (HVn.out _ h).1; have h2 := HSz.out.1; omega))
                clear hTA hSA hq HSq HTq
                have m0 : wA.cell? ⟨m, 0, none⟩ = some (.slice ua Q.length uc) := HA.out.2.2.2.1.cell 0
                have z0 : wA.cell? ⟨g, 0, none⟩ = some (.int .i64 0) := HXA.out.cell 0
                have z1 : wA.cell? ⟨g, 1, none⟩ = some (.slice sa st.length sc) := HXA.out.cell 1
                have z2 : wA.cell? ⟨g, 2, none⟩ = some (.int .i64 mt) := HXA.out.cell 2
                have z3 : wA.cell? ⟨g, 3, none⟩ = some (.int .i64 mk) := HXA.out.cell 3
                have z4 : wA.cell? ⟨g, 4, none⟩ = some (.int .i64 mn) := HXA.out.cell 4
                have z5 : wA.cell? ⟨g, 5, none⟩ = some (.string mx) := HXA.out.cell 5
                have z6 : wA.cell? ⟨g, 6, none⟩ = some (.int .i64 tw) := HXA.out.cell 6
                have z7 : wA.cell? ⟨g, 7, none⟩ = some (.int .u32 tt) := HXA.out.cell 7
                have z8 : wA.cell? ⟨g, 8, none⟩ = some (.int .u32 tm) := HXA.out.cell 8
                have HLtA : Hid (∀ x, OrB F9 m x → x < wA.heap.size) := Lib.hid (fun x hx => by
                  rcases hx with hx | hx
                  · exact HSA.out.lt x hx
                  · rw [hx]; exact HA.out.2.2.2.1.lt)
                have hrp := rputs_any (.slice ua Q.length uc) Q ⟨st, mt, mk, mn, mx, .slice sa st.length sc⟩ ⟨tw, tt, tm⟩ wA HA.out.2.2.1 HLtA.out (by rw [HP5.out.told]; exact HP5.out.ok) (by rw [HP5.out.told]; exact HP5.out.len) (HOr.out.set.below HA.out.2.1) (far_old HOr.out.set (fun x hx => by
                  rcases hx with hx | hx
                  · exact HA.out.1 x hx
                  · rw [hx]; exact HP5.out.hm) HA.out.2.1.size) HOr.out.fit HOr.out.text
                rw [HP5.out.told, HEr.out, HM2.out] at hrp
                have HRp := Lib.hid hrp
                clear hrp
                go_upto_region 16 with (first
                  | (go_at_call 24; refine HRp.out.mono ?_; rintro e wB ⟨vB, R, rfl, hrB, htB, hbB⟩; obtain ⟨aB, cB, rfl, -⟩ := hrB.open; have HRB := Lib.hid hrB; have HTB := Lib.hid htB; have HBB := Lib.hid hbB; clear hrB htB hbB)
                  | fail)
                clear m0 z0 z1 z2 z3 z4 z5 z6 z7 z8 HRp
                have HPb := Lib.hid (Blk.new wB #[.slice aB R.length cB] 67)
                have HBC := Lib.hid (below_alloc wB (.cells #[.slice aB R.length cB] 67))
                generalize wB.alloc (.cells #[.slice aB R.length cB] 67) = wC at HPb HBC ⊢
                have HBAC := Lib.hid (bel_trans HBB.out HBC.out)
                have HXC := Lib.hid (HXA.out.next HBAC.out)
                have HOC : Hid (OpR wC ⟨0, ⟨st, mt, mk, mn, mx, .slice sa st.length sc⟩, ⟨tw, tt, tm⟩, rl, fr, ti, .slice ra rl.length rc⟩) := Lib.hid (HOr.out.below (bel_trans HA.out.2.1 HBAC.out))
                obtain ⟨r, hr⟩ : ∃ r, pb (RightW ⟨st, mt, mk, mn, mx, .slice sa st.length sc⟩) = r := ⟨_, rfl⟩
                have HR25 : Hid (∀ (W : World) (va : Option Addr) (vc : Nat), RdP W (.slice va st.length vc) st → Calls Tryz.prog 25 #[wagg (Wr.with ⟨st, mt, mk, mn, mx, .slice sa st.length sc⟩ (.slice va st.length vc))] W fun e w' => e = .returned (.bool r) ∧ Below W.heap.size W w') := Lib.hid (fun W va vc h => by
                  have h9 := rightw_any (Wr.with ⟨st, mt, mk, mn, mx, .slice sa st.length sc⟩ (.slice va st.length vc)) W h HOC.out.fit HOC.out.text
                  rw [show RightW (Wr.with ⟨st, mt, mk, mn, mx, .slice sa st.length sc⟩ (.slice va st.length vc)) = RightW ⟨st, mt, mk, mn, mx, .slice sa st.length sc⟩ from rfl, hr] at h9
                  exact h9)
                have HR26 : Hid (∀ (W : World), Below wC.heap.size wC W → Calls Tryz.prog 26 #[wagg ⟨st, mt, mk, mn, mx, .slice sa st.length sc⟩] W fun e w' => e = .returned (.bool r) ∧ Below W.heap.size W w') := Lib.hid (fun W h => by
                  have h9 := rrightw_any ⟨st, mt, mk, mn, mx, .slice sa st.length sc⟩ W (HOC.out.set.below h) HOC.out.fit HOC.out.text
                  rw [hr] at h9
                  exact h9)
                have HKc : Hid (∀ W, Below wC.heap.size wC W → W.cell? ⟨g, 1, none⟩ = some (.slice sa st.length sc) ∧ W.cell? ⟨g, 2, none⟩ = some (.int .i64 mt) ∧ W.cell? ⟨g, 3, none⟩ = some (.int .i64 mk) ∧ W.cell? ⟨g, 4, none⟩ = some (.int .i64 mn) ∧ W.cell? ⟨g, 5, none⟩ = some (.string mx)) := Lib.hid (fun W hW => ⟨(HXC.out.next hW).cell 1, (HXC.out.next hW).cell 2, (HXC.out.next hW).cell 3, (HXC.out.next hW).cell 4, (HXC.out.next hW).cell 5⟩)
                have hxC := bel_refl wC
                have hgC : g < wC.heap.size := HXC.out.lt
                obtain ⟨q1, q2, q3, q4, q5⟩ := HKc.out wC hxC
                have hne : (er == er) = true := by simp
                clear hr
                cases r with
                | false =>
                  go_region_held3 (fun W => W.cell? ⟨g, 1, none⟩ = some (.slice sa st.length sc) ∧ W.cell? ⟨g, 2, none⟩ = some (.int .i64 mt) ∧ W.cell? ⟨g, 3, none⟩ = some (.int .i64 mk) ∧ W.cell? ⟨g, 4, none⟩ = some (.int .i64 mn) ∧ W.cell? ⟨g, 5, none⟩ = some (.string mx))
                    (first | (with_reducible exact ⟨q1, q2, q3, q4, q5⟩) | (with_reducible refine HKc.out _ ?_; (repeat (first | assumption | apply bel_alloc | apply bel_drew)); done) | go_keep)
                    (first
                      | (go_simp; go_at_call 16; refine (wto_new ⟨st, mt, mk, mn, mx, .slice sa st.length sc⟩ _ (HOC.out.set.below (by repeat (first | exact bel_refl _ | assumption | apply bel_alloc | apply bel_drew))) HOC.out.len).mono ?_; rintro e wD ⟨vd, vdc, rfl, hvD⟩; have hxD : Below wC.heap.size wC wD := bel_trans (by repeat (first | exact bel_refl _ | assumption | apply bel_alloc | apply bel_drew)) hvD.2.2; have HVD := Lib.hid (MineP.rd hvD); clear hvD)
                      | (go_simp; go_at_call 25; refine (HR25.out _ vd vdc (HVD.out.below (by repeat (first | exact bel_refl _ | assumption | apply bel_alloc | apply bel_drew)))).mono ?_; rintro e wE ⟨rfl, hbE⟩; have hxE : Below wC.heap.size wC wE := bel_trans (by repeat (first | exact bel_refl _ | assumption | apply bel_alloc | apply bel_drew)) hbE; clear hbE)
                      | (go_simp; go_at_call 26; refine (HR26.out _ (by repeat (first | exact bel_refl _ | assumption | apply bel_alloc | apply bel_drew))).mono ?_; rintro e wG ⟨rfl, hbG⟩; have hxG : Below wC.heap.size wC wG := bel_trans (by repeat (first | exact bel_refl _ | assumption | apply bel_alloc | apply bel_drew)) hbG; clear hbG))
                  have HBG := Lib.hid hxG
                  have HMG := Lib.hid ((HA.out.2.2.2.1.next HBAC.out).next HBG.out)
                  have HPG := Lib.hid (HPb.out.next HBG.out)
                  have m0 : wG.cell? ⟨m, 0, none⟩ = some (.slice ua Q.length uc) := HMG.out.cell 0
                  have m1 : wG.frozen? ⟨m, 0, none⟩ = false := HMG.out.free 0
                  have b0 : wG.cell? ⟨wB.heap.size, 0, none⟩ = some (.slice aB R.length cB) := HPG.out.cell 0
                  clear hxC hxD hxE hxG hgC hne q1 q2 q3 q4 q5 HKc HR25 HR26
                  go_wp2_with fail
                  go_meet
                  case rel => exact ⟨F9, M2, R, _, Lib.hid (PlAt.fin ((HSA.out.next HBAC.out).next HBG.out) HA.out.1 (bel_trans (bel_trans HA.out.2.1 HBAC.out) HBG.out) ((HRB.out.below HBC.out).below HBG.out) HTB.out HMG.out HA.out.2.2.2.2 HP5.out.hm)⟩
                | true =>
                  go_region_held3 (fun W => W.cell? ⟨g, 1, none⟩ = some (.slice sa st.length sc) ∧ W.cell? ⟨g, 2, none⟩ = some (.int .i64 mt) ∧ W.cell? ⟨g, 3, none⟩ = some (.int .i64 mk) ∧ W.cell? ⟨g, 4, none⟩ = some (.int .i64 mn) ∧ W.cell? ⟨g, 5, none⟩ = some (.string mx))
                    (first | (with_reducible exact ⟨q1, q2, q3, q4, q5⟩) | (with_reducible refine HKc.out _ ?_; (repeat (first | assumption | apply bel_alloc | apply bel_drew)); done) | go_keep)
                    (first
                      | (go_simp; go_at_call 16; refine (wto_new ⟨st, mt, mk, mn, mx, .slice sa st.length sc⟩ _ (HOC.out.set.below (by repeat (first | exact bel_refl _ | assumption | apply bel_alloc | apply bel_drew))) HOC.out.len).mono ?_; rintro e wD ⟨vd, vdc, rfl, hvD⟩; have hxD : Below wC.heap.size wC wD := bel_trans (by repeat (first | exact bel_refl _ | assumption | apply bel_alloc | apply bel_drew)) hvD.2.2; have HVD := Lib.hid (MineP.rd hvD); clear hvD)
                      | (go_simp; go_at_call 25; refine (HR25.out _ vd vdc (HVD.out.below (by repeat (first | exact bel_refl _ | assumption | apply bel_alloc | apply bel_drew)))).mono ?_; rintro e wE ⟨rfl, hbE⟩; have hxE : Below wC.heap.size wC wE := bel_trans (by repeat (first | exact bel_refl _ | assumption | apply bel_alloc | apply bel_drew)) hbE; clear hbE)
                      | (go_simp; go_at_call 26; refine (HR26.out _ (by repeat (first | exact bel_refl _ | assumption | apply bel_alloc | apply bel_drew))).mono ?_; rintro e wG ⟨rfl, hbG⟩; have hxG : Below wC.heap.size wC wG := bel_trans (by repeat (first | exact bel_refl _ | assumption | apply bel_alloc | apply bel_drew)) hbG; clear hbG))
                  have HBG := Lib.hid hxG
                  have HMG := Lib.hid ((HA.out.2.2.2.1.next HBAC.out).next HBG.out)
                  have HPG := Lib.hid (HPb.out.next HBG.out)
                  have m0 : wG.cell? ⟨m, 0, none⟩ = some (.slice ua Q.length uc) := HMG.out.cell 0
                  have m1 : wG.frozen? ⟨m, 0, none⟩ = false := HMG.out.free 0
                  have b0 : wG.cell? ⟨wB.heap.size, 0, none⟩ = some (.slice aB R.length cB) := HPG.out.cell 0
                  clear hxC hxD hxE hxG hgC hne q1 q2 q3 q4 q5 HKc HR25 HR26
                  go_wp2_with fail
                  go_meet
                  case rel => exact ⟨F9, M2, R, _, Lib.hid (PlAt.fin ((HSA.out.next HBAC.out).next HBG.out) HA.out.1 (bel_trans (bel_trans HA.out.2.1 HBAC.out) HBG.out) ((HRB.out.below HBC.out).below HBG.out) HTB.out HMG.out HA.out.2.2.2.2 HP5.out.hm)⟩
          by_cases hkd1 : kd = 1
          · subst hkd1
            have hkb0 : ((1 : Int) == 0) = false := rfl
            have hkb1 : ((1 : Int) == 1) = true := rfl
            have HCut := Lib.hid (fun (W : World) (hW : Below w5.heap.size w5 W) => cut_any ⟨tw, tt, tm⟩ W (HP5.out.st.next hW) (Nat.le_of_succ_le Hk8.out))
            go_upto_region 21 with (first
              | (go_at_call 11; refine (to_any1 ⟨tw, tt, tm⟩ _).mono ?_; rintro e w6 ⟨rfl, hb6⟩; have HB6 := Lib.hid hb6; clear hb6)
              | (go_at_call 20; refine (HCut.out w6 HB6.out).mono ?_; rintro e w7 ⟨rfl, F7, h7, hF7, ht7⟩; have H7 := Lib.hid h7; have HT7 := Lib.hid (HP5.out.turned HB6.out h7 hF7 ht7); have HX7 := Lib.hid (blk_keep ht7 (HX.out.next HB6.out) HLt.out); clear h7 hF7 ht7)
              | fail)
            clear HCut c0 c1 c2 c3 c4 c5 c6 c7 c8 c9 c10 c11 HKs
            have s6 : w7.cell? ⟨g, 6, none⟩ = some (.int .i64 tw) := HX7.out.cell 6
            have s7 : w7.cell? ⟨g, 7, none⟩ = some (.int .u32 tt) := HX7.out.cell 7
            have s8 : w7.cell? ⟨g, 8, none⟩ = some (.int .u32 tm) := HX7.out.cell 8
            have m0 : w7.cell? ⟨m, 0, none⟩ = some (.slice ua Q.length uc) := HT7.out.2.2.2.1.cell 0
            have HRc := Lib.hid (rcut_any (.slice ua Q.length uc) Q ⟨tw, tt, tm⟩ w7 HT7.out.2.2.1 (fun x hx => by
              rcases hx with hx | hx
              · exact H7.out.lt x hx
              · rw [hx]; exact HT7.out.2.2.2.1.lt) HP5.out.flen (fun x hx => (HP5.out.each x hx).1))
            go_upto_region 22 with (first
              | (go_at_call 27; refine HRc.out.mono ?_; rintro e w8 ⟨v8, R, rfl, hr8, ht8, hl8, hb8⟩; obtain ⟨a8, c8, rfl, -⟩ := hr8.open; have HR8 := Lib.hid hr8; have HT8 := Lib.hid ht8; have HM8 := Lib.hid (HT7.out.2.2.2.1.next hb8); have HB8 := Lib.hid hb8; have m8 : w8.cell? ⟨m, 0, none⟩ = some (.slice ua Q.length uc) := HM8.out.cell 0; have f8 : w8.frozen? ⟨m, 0, none⟩ = false := HM8.out.free 0; clear hr8 ht8 hl8 hb8)
              | fail)
            go_wp2_with fail
            go_meet
            case rel => exact ⟨F7, _, R, _, Lib.hid (PlAt.fin ((H7.out.next HB8.out).more (Nat.le_succ _)) HT7.out.1 (bel_trans HT7.out.2.1 HB8.out) HR8.out (by rw [HT8.out, HP5.out.told]) HM8.out HT7.out.2.2.2.2 HP5.out.hm)⟩
          by_cases hkd2 : kd = 2
          · subst hkd2
            have hkb0 : ((2 : Int) == 0) = false := rfl
            have hkb1 : ((2 : Int) == 1) = false := rfl
            have hkb2 : ((2 : Int) == 2) = true := rfl
            have HCut := Lib.hid (fun (W : World) (hW : Below w5.heap.size w5 W) => ret_any ti W (HP5.out.st.next hW) (Nat.le_of_succ_le Hk8.out))
            go_upto_region 24 with (first
              | (go_at_call 23; refine (HCut.out w5 (bel_refl w5)).mono ?_; rintro e w7 ⟨rfl, F7, h7, hF7, ht7⟩; have H7 := Lib.hid h7; have HT7 := Lib.hid (HP5.out.turned (bel_refl w5) h7 hF7 ht7); have HX7 := Lib.hid (blk_keep ht7 HX.out HLt.out); clear h7 hF7 ht7)
              | fail)
            clear HCut c0 c1 c2 c3 c4 c5 c6 c7 c8 c9 c10 c11 HKs
            have s11 : w7.cell? ⟨g, 11, none⟩ = some (.int .i64 ti) := HX7.out.cell 11
            have m0 : w7.cell? ⟨m, 0, none⟩ = some (.slice ua Q.length uc) := HT7.out.2.2.2.1.cell 0
            have HRc := Lib.hid (rret_any (.slice ua Q.length uc) Q ti w7 HT7.out.2.2.1 (fun x hx => by
              rcases hx with hx | hx
              · exact H7.out.lt x hx
              · rw [hx]; exact HT7.out.2.2.2.1.lt) HP5.out.flen)
            go_upto_region 25 with (first
              | (go_at_call 28; refine HRc.out.mono ?_; rintro e w8 ⟨v8, rfl, hr8, hb8⟩; obtain ⟨a8, c8, rfl, -⟩ := hr8.open; have HR8 := Lib.hid hr8; have HM8 := Lib.hid (HT7.out.2.2.2.1.next hb8); have HB8 := Lib.hid hb8; have m8 : w8.cell? ⟨m, 0, none⟩ = some (.slice ua Q.length uc) := HM8.out.cell 0; have f8 : w8.frozen? ⟨m, 0, none⟩ = false := HM8.out.free 0; clear hr8 hb8)
              | fail)
            go_wp2_with fail
            go_meet
            case rel => exact ⟨F7, _, retI Q ti, _, Lib.hid (PlAt.fin ((H7.out.next HB8.out).more (Nat.le_succ _)) HT7.out.1 (bel_trans HT7.out.2.1 HB8.out) HR8.out (by rw [toldI_ret, HP5.out.told]) HM8.out HT7.out.2.2.2.2 HP5.out.hm)⟩
          by_cases hkd3 : kd = 3
          · subst hkd3
            have hkb0 : ((3 : Int) == 0) = false := rfl
            have hkb1 : ((3 : Int) == 1) = false := rfl
            have hkb2 : ((3 : Int) == 2) = false := rfl
            have hkb3 : ((3 : Int) == 3) = true := rfl
            have HKa : Hid (∀ W, Below w5.heap.size w5 W → W.cell? ⟨g, 6, none⟩ = some (.int .i64 tw) ∧ W.cell? ⟨g, 7, none⟩ = some (.int .u32 tt) ∧ W.cell? ⟨g, 8, none⟩ = some (.int .u32 tm) ∧ W.cell? ⟨g, 9, none⟩ = some (.slice ra rl.length rc) ∧ W.cell? ⟨g, 10, none⟩ = some (.int .i64 fr) ∧ W.cell? ⟨g, 11, none⟩ = some (.int .i64 ti)) := Lib.hid (fun W hW => ⟨(HX.out.next hW).cell 6, (HX.out.next hW).cell 7, (HX.out.next hW).cell 8, (HX.out.next hW).cell 9, (HX.out.next hW).cell 10, (HX.out.next hW).cell 11⟩)
            have HSc : Hid (∀ (W : World) (rv : Value), Below w5.heap.size w5 W → RdR W rv rl → Calls Tryz.prog 10 #[.pointer (some ⟨s, 0, none⟩), rv, .int .i64 fr, .int .i64 ti, Tm.val ⟨tw, tt, tm⟩] W fun e w' => ∃ a c P, e = .returned (.slice a P.length c) ∧ Pts 35 69 W w' (.slice a P.length c) P ∧ P.map Pn.told = scanL M (fun d => allB rl d) fr ti ⟨tw, tt, tm⟩ ∧ P.length ≤ 65536 ∧ ∀ q ∈ P, q.st.length ≤ 16) := Lib.hid (fun W rv hW hr => by
              refine (scan_st W (HP5.out.st.next hW) (Nat.le_of_succ_le Hk8.out) rv rl hr (HGl.out.below hW) fr ti ⟨tw, tt, tm⟩).mono ?_
              rintro e w' ⟨v, P, rfl, hp, hq⟩
              obtain ⟨a, c, rfl, -⟩ := hp.rd.open
              obtain ⟨h1, h2⟩ := told_right HP5.out.st hq
              exact ⟨a, c, P, rfl, hp, hq, h1, h2⟩)
            unfold Tm.val at HSc
            simp only at HSc
            have hx5 := bel_refl w5
            have hg5 : g < w5.heap.size := HX.out.lt
            clear c0 c1 c2 c3 c4 c5 c6 c7 c8 c9 c10 c11
            obtain ⟨q6, q7, q8, q9, q10, q11⟩ := HKa.out w5 hx5
            go_upto_region 26 with fail
            go_region_held3 (fun W => W.cell? ⟨g, 6, none⟩ = some (.int .i64 tw) ∧ W.cell? ⟨g, 7, none⟩ = some (.int .u32 tt) ∧ W.cell? ⟨g, 8, none⟩ = some (.int .u32 tm) ∧ W.cell? ⟨g, 9, none⟩ = some (.slice ra rl.length rc) ∧ W.cell? ⟨g, 10, none⟩ = some (.int .i64 fr) ∧ W.cell? ⟨g, 11, none⟩ = some (.int .i64 ti))
              (first | (with_reducible exact ⟨q6, q7, q8, q9, q10, q11⟩) | (with_reducible refine HKa.out _ ?_; (repeat (first | assumption | apply bel_alloc | apply bel_drew)); done) | go_keep)
              (first
                | (go_simp; go_at_call 21; refine (rto_any2 (.slice ra rl.length rc) rl _ (HO5.out.rules.below (by repeat (first | exact bel_refl _ | assumption | apply bel_alloc | apply bel_drew))) HO5.out.rlen).mono ?_; rintro e w6 ⟨v6, rfl, hm6⟩; have hx6 : Below w5.heap.size w5 w6 := bel_trans (by repeat (first | exact bel_refl _ | assumption | apply bel_alloc | apply bel_drew)) hm6.2.2; have HR6 := Lib.hid hm6.rd; clear hm6)
                | (go_simp; go_at_call 11; refine (to_any1 ⟨tw, tt, tm⟩ _).mono ?_; rintro e w7 ⟨rfl, hb7⟩; have hx7 : Below w5.heap.size w5 w7 := bel_trans (by repeat (first | exact bel_refl _ | assumption | apply bel_alloc | apply bel_drew)) hb7; have h67 : Below w6.heap.size w6 w7 := bel_trans (by repeat (first | exact bel_refl _ | assumption | apply bel_alloc | apply bel_drew)) hb7; clear hb7)
                | (go_simp; go_at_call 10; refine (HSc.out _ v6 (by repeat (first | exact bel_refl _ | assumption | apply bel_alloc | apply bel_drew)) (HR6.out.below (by repeat (first | exact bel_refl _ | assumption | apply bel_alloc | apply bel_drew)))).mono ?_; rintro e w9 ⟨a9, c9, P, rfl, hp9, hq9, hl9, hs9⟩; have hx9 : Below w5.heap.size w5 w9 := bel_trans (by repeat (first | exact bel_refl _ | assumption | apply bel_alloc | apply bel_drew)) hp9.bel; have HPt : Hid (Pts 35 69 w5 w9 (.slice a9 P.length c9) P) := Lib.hid (hp9.since (by repeat (first | exact bel_refl _ | assumption | apply bel_alloc | apply bel_drew))); have HQ9 := Lib.hid hq9; have HL9 := Lib.hid hl9; have HS9 := Lib.hid hs9; clear hp9 hq9 hl9 hs9))
            have HB9 := Lib.hid hx9
            have HP9 := Lib.hid (HP5.out.below hx9)
            have HX9 := Lib.hid (HX.out.next hx9)
            clear hx5 hx6 hx7 h67 hx9 hg5 q6 q7 q8 q9 q10 q11 HKa HSc HR6
            have HKb : Hid (∀ W, Below w9.heap.size w9 W → W.cell? ⟨m, 0, none⟩ = some (.slice ua Q.length uc) ∧ W.cell? ⟨g, 6, none⟩ = some (.int .i64 tw) ∧ W.cell? ⟨g, 7, none⟩ = some (.int .u32 tt) ∧ W.cell? ⟨g, 8, none⟩ = some (.int .u32 tm) ∧ W.cell? ⟨g, 9, none⟩ = some (.slice ra rl.length rc) ∧ W.cell? ⟨g, 10, none⟩ = some (.int .i64 fr) ∧ W.cell? ⟨g, 11, none⟩ = some (.int .i64 ti)) := Lib.hid (fun W hW => ⟨(HP9.out.below hW).cell, (HX9.out.next hW).cell 6, (HX9.out.next hW).cell 7, (HX9.out.next hW).cell 8, (HX9.out.next hW).cell 9, (HX9.out.next hW).cell 10, (HX9.out.next hW).cell 11⟩)
            have HRs := Lib.hid (fun (W : World) (hW : Below w9.heap.size w9 W) => rscan_any (.slice ua Q.length uc) Q (.slice ra rl.length rc) rl fr ti ⟨tw, tt, tm⟩ W (HP9.out.rst.below hW) (HO5.out.rules.below (bel_trans HB9.out hW)) HP5.out.flen (fun x hx => (HP5.out.each x hx).1) (fun x hx => (HP5.out.each x hx).2)
              (fun W' x hx hW' => by
                obtain ⟨xa, xc, hxe, -⟩ := (HP9.out.rst.it x hx).set.open
                exact all_ref (.slice ra rl.length rc) x.sv rl x.it.set W' (HO5.out.rules.below (bel_trans HB9.out (bel_trans hW hW'))) ((HP9.out.rst.it x hx).set.below (bel_trans hW hW')) HFo.out (fun nm => Nat.le_trans (getL_size (HP5.out.each x hx).2 nm) (by omega))))
            unfold Tm.val at HRs
            simp only at HRs
            rw [HP5.out.told] at HRs
            have hx9 := bel_refl w9
            have hg9 : g < w9.heap.size := HX9.out.lt
            have hm9 : m < w9.heap.size := HP9.out.blk.lt
            obtain ⟨m0, q6, q7, q8, q9, q10, q11⟩ := HKb.out w9 hx9
            go_upto_region 27 with fail
            go_region_held3 (fun W => W.cell? ⟨m, 0, none⟩ = some (.slice ua Q.length uc) ∧ W.cell? ⟨g, 6, none⟩ = some (.int .i64 tw) ∧ W.cell? ⟨g, 7, none⟩ = some (.int .u32 tt) ∧ W.cell? ⟨g, 8, none⟩ = some (.int .u32 tm) ∧ W.cell? ⟨g, 9, none⟩ = some (.slice ra rl.length rc) ∧ W.cell? ⟨g, 10, none⟩ = some (.int .i64 fr) ∧ W.cell? ⟨g, 11, none⟩ = some (.int .i64 ti))
              (first | (with_reducible exact ⟨m0, q6, q7, q8, q9, q10, q11⟩) | (with_reducible refine HKb.out _ ?_; (repeat (first | assumption | apply bel_alloc | apply bel_drew)); done) | go_keep)
              (first
                | (go_simp; go_at_call 22; refine (points_any (.slice a9 P.length c9) P _ (HPt.out.rd.below (by repeat (first | exact bel_refl _ | assumption | apply bel_alloc | apply bel_drew))) HL9.out HS9.out).mono ?_; rintro e wA ⟨vA, PA, rfl, hpA, hqA⟩; obtain ⟨aA, cA, rfl, -⟩ := hpA.rd.open; have hxA : Below w9.heap.size w9 wA := bel_trans (by repeat (first | exact bel_refl _ | assumption | apply bel_alloc | apply bel_drew)) hpA.bel; have HRA := Lib.hid hpA.rd; have HQA := Lib.hid hqA; clear hpA hqA)
                | (go_simp; go_at_call 29; refine (HRs.out _ (by repeat (first | exact bel_refl _ | assumption | apply bel_alloc | apply bel_drew))).mono ?_; rintro e wB ⟨vB, R, rfl, hrB, hqB, hbB⟩; obtain ⟨aB, cB, rfl, -⟩ := hrB.open; have hxB : Below w9.heap.size w9 wB := bel_trans (by repeat (first | exact bel_refl _ | assumption | apply bel_alloc | apply bel_drew)) hbB; have hAB : Below wA.heap.size wA wB := bel_trans (by repeat (first | exact bel_refl _ | assumption | apply bel_alloc | apply bel_drew)) hbB; have HRB := Lib.hid hrB; have HQB := Lib.hid hqB; clear hrB hqB hbB)
                | (go_simp; go_at_call 18; refine (samep_yes (.slice aA PA.length cA) (.slice aB R.length cB) PA R _ (HRA.out.below (by repeat (first | exact bel_refl _ | assumption | apply bel_alloc | apply bel_drew))) (HRB.out.below (by repeat (first | exact bel_refl _ | assumption | apply bel_alloc | apply bel_drew))) (by rw [HQB.out, HQA.out, HQ9.out])).mono ?_; rintro e wC ⟨rfl, hbC⟩; have hxC : Below w9.heap.size w9 wC := bel_trans (by repeat (first | exact bel_refl _ | assumption | apply bel_alloc | apply bel_drew)) hbC; clear hbC))
            have HBC := Lib.hid hxC
            clear hx9 hxA hxB hAB hxC hg9 hm9 m0 q6 q7 q8 q9 q10 q11 HKb HRs
            have HRow0 : Hid (Kt.Own 35 8 wC (.slice a9 P.length c9) P.length (flatN P)) := Lib.hid (HPt.out.row.1.below' HBC.out)
            have HSet0 : Hid (∀ q ∈ P, Sh 69 2 wC q.sv q.st.length) := Lib.hid (fun q hq => ⟨_, (HPt.out.sets q hq).1.below HBC.out⟩)
            have HBel0 : Hid (Below w5.heap.size w5 wC) := Lib.hid (bel_trans HB9.out HBC.out)
            have HLo : Hid (∀ q ∈ P, ∀ b, q.sv.ownBlock = some b → w5.heap.size ≤ b) := Lib.hid (fun q hq => (HPt.out.sets q hq).2)
            have HOp : Hid (∀ q ∈ P, ∃ qa qc, q.sv = .slice qa q.st.length qc) := Lib.hid (fun q hq => by obtain ⟨qa, qc, e, -⟩ := (HPt.out.sets q hq).1.rd.open; exact ⟨qa, qc, e⟩)
            go_wp2_with fail
            go_loopw [127] (fun i wr => ∃ z : Nat, z ≤ P.length ∧ i = .int .i64 z ∧ Hid (Kt.Own 35 8 wr (.slice a9 P.length c9) P.length (flatN P)) ∧ Hid (∀ q ∈ P, Sh 69 2 wr q.sv q.st.length) ∧ Hid (Below w5.heap.size w5 wr)) (fun i _ => P.length - (intOf i).toNat)
            case atStart => exact ⟨0, by omega, rfl, HRow0, HSet0, HBel0⟩
            case round =>
              clear HRow0 HSet0 HBel0
              obtain ⟨z, hz, rfl, HRow, HSet, HBel⟩ := hrel
              by_cases hzl : z < P.length
              · obtain ⟨q, hq⟩ : ∃ q, P[z]? = some q := ⟨P[z], List.getElem?_eq_getElem hzl⟩
                have hqm := List.mem_of_getElem? hq
                have Hqm := Lib.hid hqm
                obtain ⟨qa, qc, hqe⟩ := HOp.out q hqm
                have Hqe := Lib.hid hqe
                have Hql := Lib.hid (HS9.out q hqm)
                have hg0 := flatN_get P z q hq 0 (by omega)
                simp only [pcells, List.getElem?_cons_zero, Nat.add_zero] at hg0
                have Hget := Lib.hid hg0
                obtain ⟨b1, cap1, e1, p1, -, -⟩ := own_place HRow.out (j := z * 8) (by omega)
                rw [hg0, hqe] at p1
                injection e1 with e1 e1' e1''
                subst e1 e1''
                have hz1 : (0 : Int) ≤ (z : Int) := by omega
                have hz2 : (z : Int) < (P.length : Int) := by omega
                have Hz := Lib.hid hzl
                obtain ⟨wo, rfl⟩ : ∃ wo, wo = wr := ⟨_, rfl⟩
                clear e1' hq hqm hqe hg0
                go_wp2_with fail
                clear p1
                go_loopw [136] (fun i wr => ∃ y : Nat, y ≤ q.st.length ∧ i = .int .i64 y ∧ Hid (Kt.Own 35 8 wr (.slice (some ⟨b1, 0, none⟩) P.length c9) P.length (flatN P)) ∧ Hid (∀ q ∈ P, Sh 69 2 wr q.sv q.st.length) ∧ Hid (Below w5.heap.size w5 wr)) (fun i _ => q.st.length - (intOf i).toNat)
                case atStart => exact ⟨0, by omega, rfl, HRow, HSet, HBel⟩
                case round =>
                  clear HRow HSet HBel
                  obtain ⟨y, hy, rfl, HRow, HSet, HBel⟩ := hrel
                  by_cases hyl : y < q.st.length
                  · obtain ⟨b2, cap2, e2, p2, -, -⟩ := own_place HRow.out (j := z * 8) (by have := Hz.out; omega)
                    rw [Hget.out, Hqe.out] at p2
                    injection e2 with e2 e2' e2''
                    injection e2 with e2
                    injection e2 with e2
                    subst e2 e2''
                    obtain ⟨b3, cap3, u3, e3, p3, f3⟩ := (HSet.out q Hqm.out).place (j := y * 2) (by omega)
                    obtain ⟨b4, cap4, u4, e4, p4, f4⟩ := (HSet.out q Hqm.out).place (j := y * 2 + 1) (by omega)
                    have hb3 := HLo.out q Hqm.out b3 (by rw [e3]; rfl)
                    have hap := own_apart HRow.out (Classical.choose_spec (HSet.out q Hqm.out)) (by decide)
                    have hap3 : ∀ c, (Value.slice (some ⟨b1, 0, none⟩) P.length c9).ownBlock = some c → c ≠ b3 := fun c hc e => hap c hc (by rw [e3, e]; rfl)
                    rw [e3] at e4
                    injection e4 with e4 e4' e4''
                    injection e4 with e4
                    injection e4 with e4
                    subst e4
                    have e5 := Hqe.out.symm.trans e3
                    injection e5 with e5 e5' e5''
                    rw [e5] at p2
                    have HRn := Lib.hid (own_set (own_set HRow.out (p := ⟨b3, y * 2, none⟩) hap3 (.string ⟨#[101, 108, 115, 101]⟩)) (p := ⟨b3, y * 2 + 1, none⟩) hap3 (.string ⟨#[]⟩))
                    have HSn : Hid (∀ q ∈ P, Sh 69 2 _ q.sv q.st.length) := Lib.hid (fun q hq => ((HSet.out q hq).set b3 (y * 2) (.string ⟨#[101, 108, 115, 101]⟩)).set b3 (y * 2 + 1) (.string ⟨#[]⟩))
                    have HBn := Lib.hid (bel_set (p := ⟨b3, y * 2 + 1, none⟩) (u := .string ⟨#[]⟩) (bel_set (p := ⟨b3, y * 2, none⟩) (u := .string ⟨#[101, 108, 115, 101]⟩) HBel.out hb3) hb3)
                    have hy1 : (0 : Int) ≤ (y : Int) := by omega
                    have hy2 : (y : Int) < (q.st.length : Int) := by omega
                    have Hy := Lib.hid hyl
                    have hqs : q.st.length ≤ 16 := Hql.out
                    clear e2' e3 e4' e4'' e5 e5' e5'' hap hap3 hb3 HRow HSet HBel
                    go_wp2_with fail
                    go_roundw
                    case rel => exact ⟨y + 1, Hy.out, by go_num, HRn, HSn, HBn⟩
                    case measure => have := Hy.out; simp [intOf]; omega
                  · obtain rfl : y = q.st.length := by omega
                    have hpl : P.length ≤ 65536 := HL9.out
                    go_wp2_with fail
                    go_roundw
                    case rel => exact ⟨z + 1, Hz.out, by have := Hz.out; go_num, HRow, HSet, HBel⟩
                    case measure => have := Hz.out; simp [intOf]; omega
              · obtain rfl : z = P.length := by omega
                go_wp2_with fail
                go_meet
                case rel => exact ⟨F, M, Q, _, Lib.hid ((HP5.out.below HBel.out).more (Nat.le_succ _))⟩
          have hkb0 : (kd == 0) = false := bne_of hkd0
          have hkb1 : (kd == 1) = false := bne_of hkd1
          have hkb2 : (kd == 2) = false := bne_of hkd2
          have hkb3 : (kd == 3) = false := bne_of hkd3
          clear hkd0 hkd1 hkd2 hkd3 c0 c1 c2 c3 c4 c5 c6 c7 c8 c9 c10 c11
          go_wp2_with fail
          go_meet
          case rel => exact ⟨F, M, Q, _, Lib.hid (HP5.out.more (Nat.le_succ _))⟩
        case rest =>
          obtain ⟨F', M', Q', u', HPc⟩ := hcut
          obtain ⟨ua, uc, hu, -⟩ := HPc.out.rst.open
          subst hu
          have HKp := Lib.hid (lkept_any wc HPc.out.st Hk8.out)
          go_upto_region 39 with (first
            | (go_at_call 17; refine HKp.out.mono ?_; rintro e w6 ⟨v6, P6, rfl, hp6, hq6⟩; obtain ⟨a6, c6, rfl, -⟩ := hp6.rd.open; have HP6 := Lib.hid hp6; have HQ6 := Lib.hid hq6; clear hp6 hq6)
            | fail)
          clear HKp
          have HPn := Lib.hid (HPc.out.below HP6.out.bel)
          have m0 : w6.cell? ⟨m, 0, none⟩ = some (.slice ua Q'.length uc) := HPn.out.cell
          have HKm : Hid (∀ W, Below w6.heap.size w6 W → W.cell? ⟨m, 0, none⟩ = some (.slice ua Q'.length uc)) := Lib.hid (fun W hW => (HPn.out.below hW).cell)
          have HLen := Lib.hid (fun (W : World) (hW : Below w6.heap.size w6 W) => len_any W (HPn.out.st.next hW))
          have HRl := Lib.hid (fun (W : World) (hW : Below w6.heap.size w6 W) => rlen_any (.slice ua Q'.length uc) Q' W (HPn.out.rst.below hW) (by rw [HPn.out.told]; exact HPn.out.len))
          have HRk := Lib.hid (fun (W : World) (hW : Below w6.heap.size w6 W) => rkept_any (.slice ua Q'.length uc) Q' W (HPn.out.rst.below hW) (by rw [HPn.out.told]; exact HPn.out.len))
          rw [HPn.out.told] at HRl HRk
          have hx6 := bel_refl w6
          have hml : m < w6.heap.size := HPn.out.blk.lt
          have hne : ((lenL M' : Int) == (lenL M' : Int)) = true := by simp
          go_region_held3 (fun W => W.cell? ⟨m, 0, none⟩ = some (.slice ua Q'.length uc))
            (first | (with_reducible exact m0) | (with_reducible refine HKm.out _ ?_; (repeat (first | assumption | apply bel_alloc | apply bel_drew)); done) | go_keep)
            (first
              | (go_simp; go_at_call 19; refine (HLen.out _ (by repeat (first | exact bel_refl _ | assumption | apply bel_alloc | apply bel_drew))).mono ?_; rintro e w7 ⟨rfl, rfl⟩)
              | (go_simp; go_at_call 30; refine (HRl.out _ (by repeat (first | exact bel_refl _ | assumption | apply bel_alloc | apply bel_drew))).mono ?_; rintro e w8 ⟨rfl, hb8⟩; have hx8 : Below w6.heap.size w6 w8 := bel_trans (by repeat (first | exact bel_refl _ | assumption | apply bel_alloc | apply bel_drew)) hb8; clear hb8)
              | (go_simp; go_at_call 31; refine (HRk.out _ (by repeat (first | exact bel_refl _ | assumption | apply bel_alloc | apply bel_drew))).mono ?_; rintro e w9 ⟨v9, R9, rfl, hr9, hq9, hb9⟩; obtain ⟨a9, c9, rfl, -⟩ := hr9.open; have hx9 : Below w6.heap.size w6 w9 := bel_trans (by repeat (first | exact bel_refl _ | assumption | apply bel_alloc | apply bel_drew)) hb9; have HR9 := Lib.hid hr9; have HQ9 := Lib.hid hq9; clear hr9 hq9 hb9)
              | (go_simp; go_at_call 18; refine (samep_yes (.slice a6 P6.length c6) (.slice a9 R9.length c9) P6 R9 _ (HP6.out.rd.below (by repeat (first | exact bel_refl _ | assumption | apply bel_alloc | apply bel_drew))) (HR9.out.below (by repeat (first | exact bel_refl _ | assumption | apply bel_alloc | apply bel_drew))) (by rw [HQ9.out, HQ6.out])).mono ?_; rintro e wA ⟨rfl, hbA⟩; have hxA : Below w6.heap.size w6 wA := bel_trans (by repeat (first | exact bel_refl _ | assumption | apply bel_alloc | apply bel_drew)) hbA; clear hbA))
          have HPA := Lib.hid (HPn.out.below hxA)
          clear hx6 hx8 hx9 hxA m0 HKm hne hml
          go_wp2_with fail
          go_roundw
          case rel => exact ⟨k + 1, F', M', Q', _, by have := Hk.out; omega, by go_num, Lib.hid (by rw [← Hk9.out]; exact HPA.out)⟩
          case measure => have := Hk.out; simp [intOf]; omega
      · have hk3 : decide ((80 : Int) ≤ (k : Int)) = true := by simp; omega
        have hk4 : (80 : Int) ≤ (k : Int) := by omega
        clear h80
        go_wp2_with (first
          | (go_at_call 9; refine (awake_any w5 HGl.out).mono ?_; rintro e w9 ⟨rfl, hb9⟩; have HB9 := Lib.hid hb9; clear hb9)
          | fail)
        go_ret
        exact ⟨rfl, bel_trans HP5.out.bel HB9.out⟩
    · obtain rfl : k = l.length := by omega
      have HGw := Lib.hid (HG.out.below HP.out.bel)
      go_wp2_with (first
        | (go_at_call 9; refine (awake_any wr HGw.out).mono ?_; rintro e w9 ⟨rfl, hb9⟩; have HB9 := Lib.hid hb9; clear hb9)
        | fail)
      go_ret
      exact ⟨rfl, bel_trans HP.out.bel HB9.out⟩
end Go.Proofs.YtplieoalfbpniaaGreat
