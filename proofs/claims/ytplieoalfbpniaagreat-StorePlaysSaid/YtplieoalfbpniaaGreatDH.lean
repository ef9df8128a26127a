/- The document's Put of a store (24). -/
import Derived.Test.YtplieoalfbpniaaGreatDF
import Derived.Test.YtplieoalfbpniaaGreatDG
set_option linter.unusedVariables false
set_option linter.unusedSimpArgs false
namespace Go.Proofs.YtplieoalfbpniaaGreat
open Go.RowKit Go.Kt Go.Ix Go.Sx
set_option maxRecDepth 100000
theorem len_le_lenL : ∀ {L : List It}, (∀ x ∈ L, x.l ≠ []) → L.length ≤ lenL L
  | [], _ => Nat.zero_le _
  | x :: L, h => by
    have h1 := len_le_lenL (L := L) (fun y hy => h y (by simp [hy]))
    have h2 : 0 < x.l.length := List.length_pos_iff.2 (h x (by simp))
    rw [lenL_cons, List.length_cons]; omega
theorem atL_len {L : List It} (h : StoreOk ltS L) (s : List Pr) (t : Int) : (atL L s t).length ≤ lenL L := by
  have h1 := lenL_set line_sets h.rise s t []
  simp only [List.length_nil] at h1
  omega
theorem told_take (Q : List Itm) (k : Nat) : toldI (Q.take k) = (toldI Q).take k := by simp [toldI, List.map_take]
theorem toldI_get {Q : List Itm} {k : Nat} {x : Itm} (h : Q[k]? = some x) : (toldI Q)[k]? = some x.it := by simp [toldI, h]
theorem toldI_get' {Q : List Itm} {k : Nat} {y : It} (h : (toldI Q)[k]? = some y) : ∃ x, Q[k]? = some x ∧ x.it = y := by
  simp only [toldI, List.getElem?_map, Option.map_eq_some_iff] at h
  exact h
set_option maxHeartbeats 16000000 in
theorem rputs_any {F : Nat → Prop} (v : Value) (Q : List Itm) (m : Wr) (t : Tm) (w : World) (h : RSt F w v Q) (hF : ∀ x, F x → x < w.heap.size) (hok : StoreOk ltS (toldI Q)) (hlen : lenL (toldI Q) ≤ 65536)
    (hv : RdP w m.sv m.st) (hfar : Far F w m.sv m.st.length) (hf : Fit m.st) (hx : m.x.size ≤ maxLen) :
    Calls Tryz.prog 24 #[.agg #[v], wagg m, t.val] w fun e w' => ∃ v' R, e = .returned (.tuple #[.int .i64 (putS (toldI Q) m t).1, .agg #[v']]) ∧ RSt F w' v' R ∧ toldI R = (putS (toldI Q) m t).2 ∧ Below w.heap.size w w' := by
  have HRW := Lib.hid (fun (W : World) (hW : Below w.heap.size w W) => rrightw_any m W (hv.below hW) hf hx)
  have HLen := Lib.hid (fun (W : World) (hW : Below w.heap.size w W) => rlen_any v Q W (h.below hW) hlen)
  have hQl : Q.length ≤ 65536 := by have := len_le_lenL hok.full; simp only [toldI, List.length_map] at this; exact Nat.le_trans this hlen
  have HS : Hid (∀ W, Below w.heap.size w W → RSt F W v Q) := Lib.hid (fun W hW => h.below hW)
  obtain ⟨a, cap, rfl, hcap, hbig, hcell⟩ := h.open
  obtain ⟨st, ti, k, n, x, sv⟩ := m
  simp only at hv hfar hf hx
  obtain ⟨sa, sc, rfl, -⟩ := hv.open
  obtain ⟨tw, tt, tm⟩ := t
  have Hcell := Lib.hid hcell
  have HL := Lib.hid hQl
  have HF := Lib.hid hF
  have HOk := Lib.hid hok
  have HV := Lib.hid hv
  have HFar := Lib.hid hfar
  have HXs := Lib.hid hx
  have HPut : Hid (putS (toldI Q) ⟨st, ti, k, n, x, .slice sa st.length sc⟩ ⟨tw, tt, tm⟩ = if pb (RightW ⟨st, ti, k, n, x, .slice sa st.length sc⟩) = false then (1, toldI Q) else if 65536 ≤ lenL (toldI Q) then (4, toldI Q) else putL ltS (toldI Q) st ti ⟨⟨tw, tt, tm⟩, k, n, x⟩) := Lib.hid rfl
  generalize putS (toldI Q) ⟨st, ti, k, n, x, .slice sa st.length sc⟩ ⟨tw, tt, tm⟩ = R0 at HPut ⊢
  generalize pb (RightW ⟨st, ti, k, n, x, .slice sa st.length sc⟩) = r at HPut HRW
  have HLn := Lib.hid (Eq.refl (lenL (toldI Q)))
  clear hcell h hQl hF hok hlen hv hfar hf hx
  have HX := Lib.hid ((((Blk.new w #[.slice a Q.length cap] 67).next (below_alloc _ (.cells #[.slice sa st.length sc, .int .i64 ti, .int .i64 k, .int .i64 n, .string x] 43))).next (below_alloc _ (.cells #[.int .i64 tw, .int .u32 tt, .int .u32 tm] 25))).next (below_alloc _ (.cells #[.slice none 0 0] 67)))
  have HW := Lib.hid (((Blk.new (w.alloc (.cells #[.slice a Q.length cap] 67)) #[.slice sa st.length sc, .int .i64 ti, .int .i64 k, .int .i64 n, .string x] 43).next (below_alloc _ (.cells #[.int .i64 tw, .int .u32 tt, .int .u32 tm] 25))).next (below_alloc _ (.cells #[.slice none 0 0] 67)))
  have HZ := Lib.hid ((Blk.new ((w.alloc (.cells #[.slice a Q.length cap] 67)).alloc (.cells #[.slice sa st.length sc, .int .i64 ti, .int .i64 k, .int .i64 n, .string x] 43)) #[.int .i64 tw, .int .u32 tt, .int .u32 tm] 25).next (below_alloc _ (.cells #[.slice none 0 0] 67)))
  have HY := Lib.hid (Blk.new (((w.alloc (.cells #[.slice a Q.length cap] 67)).alloc (.cells #[.slice sa st.length sc, .int .i64 ti, .int .i64 k, .int .i64 n, .string x] 43)).alloc (.cells #[.int .i64 tw, .int .u32 tt, .int .u32 tm] 25)) #[.slice none 0 0] 67)
  have HBa := Lib.hid (bel_alloc (o := .cells #[.slice none 0 0] 67) (bel_alloc (o := .cells #[.int .i64 tw, .int .u32 tt, .int .u32 tm] 25) (bel_alloc (o := .cells #[.slice sa st.length sc, .int .i64 ti, .int .i64 k, .int .i64 n, .string x] 43) (below_alloc w (.cells #[.slice a Q.length cap] 67)))))
  simp only [World.size_alloc] at HW HZ HY
  unfold wagg Tm.val at *
  simp only at *
  go_enter Tryz.func24, Tryz.ntmps24
  go_upto_region 1 with fail
  generalize (((w.alloc (.cells #[.slice a Q.length cap] 67)).alloc (.cells #[.slice sa st.length sc, .int .i64 ti, .int .i64 k, .int .i64 n, .string x] 43)).alloc (.cells #[.int .i64 tw, .int .u32 tt, .int .u32 tm] 25)).alloc (.cells #[.slice none 0 0] 67) = w1 at HX HW HZ HY HBa ⊢
  have c0 : w1.cell? ⟨w.heap.size + 1, 0, none⟩ = some (.slice sa st.length sc) := HW.out.cell 0
  have c1 : w1.cell? ⟨w.heap.size + 1, 1, none⟩ = some (.int .i64 ti) := HW.out.cell 1
  have c2 : w1.cell? ⟨w.heap.size + 1, 2, none⟩ = some (.int .i64 k) := HW.out.cell 2
  have c3 : w1.cell? ⟨w.heap.size + 1, 3, none⟩ = some (.int .i64 n) := HW.out.cell 3
  have c4 : w1.cell? ⟨w.heap.size + 1, 4, none⟩ = some (.string x) := HW.out.cell 4
  cases r with
  | false =>
    have HE : Hid (R0 = (1, toldI Q)) := Lib.hid (by rw [HPut.out]; rfl)
    go_upto_region 2 with (first
      | (go_at_call 26; refine (HRW.out _ HBa.out).mono ?_; rintro e w2 ⟨rfl, hb2⟩; have HB2 := Lib.hid hb2; have x0 : w2.cell? ⟨w.heap.size, 0, none⟩ = some (.slice a Q.length cap) := (HX.out.next hb2).cell 0; clear hb2)
      | fail)
    clear x0
    have hx2 := HX.out.next HB2.out
    have hy2 := HY.out.next HB2.out
    have x0 : w2.cell? ⟨w.heap.size, 0, none⟩ = some (.slice a Q.length cap) := hx2.cell 0
    have y0 : w2.cell? ⟨w.heap.size + 3, 0, none⟩ = some (.slice none 0 0) := hy2.cell 0
    have y1 : w2.frozen? ⟨w.heap.size + 3, 0, none⟩ = false := hy2.free 0
    clear hx2
    go_region
    have hyd := hy2.set 0 (.slice a Q.length cap)
    have hz : (w2.setCell ⟨w.heap.size + 1 + 1 + 1, 0, none⟩ (.slice a Q.length cap)).cell? ⟨w.heap.size + 1 + 1 + 1, 0, none⟩ = some (.slice a Q.length cap) := hyd.cell 0
    have HBz : Hid (Below w.heap.size w (w2.setCell ⟨w.heap.size + 1 + 1 + 1, 0, none⟩ (.slice a Q.length cap)).drew) := Lib.hid (bel_drew (bel_set (bel_trans HBa.out HB2.out) (by show w.heap.size ≤ w.heap.size + 1 + 1 + 1; omega)))
    clear hyd hy2 x0 y0 y1
    go_wp2_with fail
    refine bodyPost_ret (v := .tuple #[.int .i64 1, .agg #[.slice a Q.length cap]]) (by simp [results, Tryz.results24, go_sem, hz]) rfl ⟨_, Q, by rw [HE.out], HS.out _ HBz.out, by rw [HE.out], HBz.out⟩
  | true =>
    by_cases hful : 65536 ≤ lenL (toldI Q)
    · have HE : Hid (R0 = (4, toldI Q)) := Lib.hid (by rw [HPut.out, if_neg (by simp), if_pos hful])
      have hd : decide ((65536 : Int) ≤ (lenL (toldI Q) : Int)) = true := by simp only [decide_eq_true_eq]; omega
      go_upto_region 4 with (first
        | (go_at_call 26; refine (HRW.out _ HBa.out).mono ?_; rintro e w2 ⟨rfl, hb2⟩; have HB2 := Lib.hid hb2; have x0 : w2.cell? ⟨w.heap.size, 0, none⟩ = some (.slice a Q.length cap) := (HX.out.next hb2).cell 0; clear hb2)
        | (go_at_call 30; refine (HLen.out _ (bel_trans HBa.out HB2.out)).mono ?_; rintro e w3 ⟨rfl, hb3⟩; have HB3 := Lib.hid (bel_trans HB2.out hb3); clear hb3 x0)
        | fail)
      have hx2 := HX.out.next HB3.out
      have hy2 := HY.out.next HB3.out
      have x0 : w3.cell? ⟨w.heap.size, 0, none⟩ = some (.slice a Q.length cap) := hx2.cell 0
      have y0 : w3.cell? ⟨w.heap.size + 3, 0, none⟩ = some (.slice none 0 0) := hy2.cell 0
      have y1 : w3.frozen? ⟨w.heap.size + 3, 0, none⟩ = false := hy2.free 0
      clear hx2
      go_region
      have hyd := hy2.set 0 (.slice a Q.length cap)
      have hz : (w3.setCell ⟨w.heap.size + 1 + 1 + 1, 0, none⟩ (.slice a Q.length cap)).cell? ⟨w.heap.size + 1 + 1 + 1, 0, none⟩ = some (.slice a Q.length cap) := hyd.cell 0
      have HBz : Hid (Below w.heap.size w (w3.setCell ⟨w.heap.size + 1 + 1 + 1, 0, none⟩ (.slice a Q.length cap)).drew) := Lib.hid (bel_drew (bel_set (bel_trans HBa.out HB3.out) (by show w.heap.size ≤ w.heap.size + 1 + 1 + 1; omega)))
      clear hyd hy2 x0 y0 y1
      go_wp2_with fail
      refine bodyPost_ret (v := .tuple #[.int .i64 4, .agg #[.slice a Q.length cap]]) (by simp [results, Tryz.results24, go_sem, hz]) rfl ⟨_, Q, by rw [HE.out], HS.out _ HBz.out, by rw [HE.out], HBz.out⟩
    · have HE : Hid (R0 = putL ltS (toldI Q) st ti ⟨⟨tw, tt, tm⟩, k, n, x⟩) := Lib.hid (by rw [HPut.out, if_neg (by simp), if_neg hful])
      have hd : decide ((65536 : Int) ≤ (lenL (toldI Q) : Int)) = false := by simp only [decide_eq_false_iff_not]; omega
      go_upto_block 0 with (first
        | (go_at_call 26; refine (HRW.out _ HBa.out).mono ?_; rintro e w2 ⟨rfl, hb2⟩; have HB2 := Lib.hid hb2; have x0 : w2.cell? ⟨w.heap.size, 0, none⟩ = some (.slice a Q.length cap) := (HX.out.next hb2).cell 0; clear hb2)
        | (go_at_call 30; refine (HLen.out _ (bel_trans HBa.out HB2.out)).mono ?_; rintro e w3 ⟨rfl, hb3⟩; have HB3 := Lib.hid (bel_trans HB2.out hb3); clear hb3 x0)
        | fail)
      have HB03 := Lib.hid (bel_trans HBa.out HB3.out)
      have HNo : Hid (∀ x, (OrB F (w.heap.size + 3)) x → F x ∨ w.heap.size ≤ x) := Lib.hid (fun x hx => by
        rcases hx with h | h
        · exact .inl h
        · exact .inr (by omega))
      have HFo : Hid (∀ x, (OrB F (w.heap.size + 3)) x → x < w3.heap.size) := Lib.hid (fun x hx => by
        rcases hx with h | h
        · exact Nat.lt_of_lt_of_le (HF.out x h) HB03.out.size
        · rw [h]; exact (HY.out.next HB3.out).lt)
      have HX3 := Lib.hid (HX.out.next HB3.out)
      have HW3 := Lib.hid (HW.out.next HB3.out)
      have HZ3 := Lib.hid (HZ.out.next HB3.out)
      have HY3 := Lib.hid (HY.out.next HB3.out)
      have HLl : Hid (lenL (toldI Q) < 65536) := Lib.hid (by omega)
      clear HX HW HZ HY HPut HRW HLen hful hd c0 c1 c2 c3 c4
      go_cut [8, 9] (fun kv ov wc => ∃ j : Nat, j ≤ Q.length ∧ kv = .int .i64 j ∧ Hid (Mits (OrB F (w.heap.size + 3)) w3 wc ov (Q.take j)) ∧ Hid (∀ y ∈ (toldI Q).take j, y.Ahead ltS st ti) ∧ Hid (∀ y, (toldI Q)[j]? = some y → ¬ y.Ahead ltS st ti))
      case first =>
        go_wp2_with fail
        have HM0 : Hid (Mits (OrB F (w.heap.size + 3)) w3 w3 (.slice none 0 0) (Q.take 0)) := Lib.hid (Mits.nil _ w3)
        have HA0 : Hid (∀ y ∈ (toldI Q).take 0, y.Ahead ltS st ti) := Lib.hid (fun y hy => by simp at hy)
        go_loopw [8, 9] (fun kv ov wr => ∃ j : Nat, j ≤ Q.length ∧ kv = .int .i64 j ∧ Hid (Mits (OrB F (w.heap.size + 3)) w3 wr ov (Q.take j)) ∧ Hid (∀ y ∈ (toldI Q).take j, y.Ahead ltS st ti)) (fun kv _ _ => Q.length - (intOf kv).toNat)
        case atStart => exact ⟨0, by omega, rfl, HM0, HA0⟩
        case round =>
          clear HM0 HA0
          obtain ⟨j, hj, rfl, HM, HA⟩ := hrel
          have xs0 : ∀ g : GrownOf wr, g.W.cell? ⟨w.heap.size, 0, none⟩ = some (.slice a Q.length cap) := fun g => (HX3.out.next (bel_trans HM.out.bel g.b)).cell 0
          by_cases hlt : j < Q.length
          · obtain ⟨y, hy⟩ : ∃ y, Q[j]? = some y := ⟨Q[j], List.getElem?_eq_getElem hlt⟩
            obtain ⟨hr, b, o, rfl, hbl, c0, c1, c2⟩ := Hcell.out j y hy
            have HTg := Lib.hid (toldI_get hy)
            have HTk : Hid (Q.take (j + 1) = Q.take j ++ [y]) := Lib.hid (by obtain ⟨h1, h2⟩ := List.getElem?_eq_some_iff.1 hy; rw [List.take_succ_eq_append_getElem h1, h2])
            obtain ⟨⟨xs, xt, xl⟩, ysv, ylv⟩ := y
            obtain ⟨ya, yc, hsv, -⟩ := hr.set.open
            obtain ⟨la, lc, hlv, -⟩ := hr.ver.open
            simp only at hsv hlv
            subst hsv hlv
            simp only at c0 c1 c2 HTg HTk
            have hB := bel_trans HB03.out HM.out.bel
            have Hd : Hid (∀ W, Below wr.heap.size wr W → W.cell? ⟨b, o + j * 3, none⟩ = some (.slice ya xs.length yc) ∧ W.cell? ⟨b, o + j * 3 + 1, none⟩ = some (.int .i64 xt) ∧ W.cell? ⟨b, o + j * 3 + 2, none⟩ = some (.slice la xl.length lc)) := Lib.hid (fun W hW => by
              have hBW := bel_trans hB hW
              exact ⟨(hBW.cell (p := ⟨b, _, none⟩) hbl).trans c0, (hBW.cell (p := ⟨b, _, none⟩) hbl).trans c1, (hBW.cell (p := ⟨b, _, none⟩) hbl).trans c2⟩)
            have HI : Hid (ItR (Or2 (OrB F (w.heap.size + 3)) u9) wr ⟨⟨xs, xt, xl⟩, .slice ya xs.length yc, .slice la xl.length lc⟩) := Lib.hid (HM.out.old (hr.keep (Turn.of HB03.out) HNo.out))
            have d0 : ∀ g : GrownOf wr, g.W.cell? ⟨b, o + j * 3, none⟩ = some (.slice ya xs.length yc) := fun g => (Hd.out _ g.b).1
            have d1 : ∀ g : GrownOf wr, g.W.cell? ⟨b, o + j * 3 + 1, none⟩ = some (.int .i64 xt) := fun g => (Hd.out _ g.b).2.1
            have d2 : ∀ g : GrownOf wr, g.W.cell? ⟨b, o + j * 3 + 2, none⟩ = some (.slice la xl.length lc) := fun g => (Hd.out _ g.b).2.2
            have e0 : ∀ g : GrownOf wr, g.W.cell? ⟨w.heap.size + 1, 0, none⟩ = some (.slice sa st.length sc) := fun g => (HW3.out.next (bel_trans HM.out.bel g.b)).cell 0
            have e1 : ∀ g : GrownOf wr, g.W.cell? ⟨w.heap.size + 1, 1, none⟩ = some (.int .i64 ti) := fun g => (HW3.out.next (bel_trans HM.out.bel g.b)).cell 1
            have HAh := Lib.hid (fun (W : World) (hW : Below wr.heap.size wr W) => rahead_any xs xt xl (.slice ya xs.length yc) (.slice la xl.length lc) (.slice sa st.length sc) st ti W (HI.out.set.below hW) (HI.out.ver.below hW) (HV.out.below (bel_trans hB hW)))
            obtain ⟨q, hq⟩ : ∃ q, decide ((⟨xs, xt, xl⟩ : It).Ahead ltS st ti) = q := ⟨_, rfl⟩
            rw [hq] at HAh
            have HQ := Lib.hid hq
            have hk1 : (0 : Int) ≤ (j : Int) := by omega
            have hk2 : (j : Int) < (Q.length : Int) := by omega
            have hRl : (Q.take j).length ≤ 65536 := by rw [List.length_take]; have := HL.out; omega
            clear c0 c1 c2 hr hy hB hq
            go_upto_region 7 with fail
            refine wp_region_grown (by kernel_rfl) (by kernel_rfl) ?_
            repeat (go_big_quiet_step ((go_at_call 48; refine (HAh.out _ (GrownOf.b _)).mono ?_; rintro e w7 ⟨rfl, hb7⟩; exact ⟨rfl, ⟨w7, bel_trans (GrownOf.b _) hb7⟩, rfl⟩)))
            refine wpQuiet_nil ?_
            rintro w7 ⟨⟨_, hb7⟩, rfl⟩
            have HB7 := Lib.hid hb7
            have p0 : w7.cell? ⟨w.heap.size, 0, none⟩ = some (.slice (some ⟨b, o, none⟩) Q.length cap) := xs0 ⟨w7, hb7⟩
            obtain ⟨p1, p2, p3⟩ := Hd.out w7 hb7
            clear hb7 xs0 d0 d1 d2 e0 e1 Hd
            cases q with
            | true =>
              go_wp2_with (at_builtin; apply Hold.mk)
              unfold Hold
              refine wpList_app rfl _ _ 65 rfl ok65 (by rfl) (by rfl) ((HM.out.below HB7.out).row.1.below' (below_alloc _ _)) (by exact rd_lit 3 #[.slice ya xs.length yc, .int .i64 xt, .slice la xl.length lc] 1 (by simp) one_le rfl) (by intro u hu; simp only [List.mem_cons, List.not_mem_nil, or_false] at hu; rcases hu with rfl | rfl | rfl <;> rfl) (by simp only [maxLen]; omega) (by omega) ?_
              intro v9 w9 ho9 hg9 hn9
              have HM9 : Hid (Mits (OrB F (w.heap.size + 3)) w3 w9 v9 (Q.take (j + 1))) := Lib.hid (by
                rw [HTk.out]
                exact ((HM.out.below HB7.out).below (below_alloc _ _)).push (HI.out.keep (Turn.of (bel_trans HB7.out (below_alloc _ _))) (fun _ h => .inl h)) ho9 hg9 hn9)
              have HA9 : Hid (∀ y ∈ (toldI Q).take (j + 1), y.Ahead ltS st ti) := Lib.hid (fun y hy => by
                obtain ⟨h1, h2⟩ := List.getElem?_eq_some_iff.1 HTg.out
                rw [List.take_succ_eq_append_getElem h1, h2] at hy
                rcases List.mem_append.1 hy with hy | hy
                · exact HA.out y hy
                · rw [List.mem_singleton.1 hy]; exact of_decide_eq_true HQ.out)
              clear ho9 hg9 hn9
              go_wp2_with fail
              go_roundw
              case rel => exact ⟨j + 1, by omega, by go_num, HM9, HA9⟩
              case measure => simp [intOf]; omega
            | false =>
              go_wp2_with fail
              go_meet
              case rel => exact ⟨j, by omega, rfl, Lib.hid (HM.out.below HB7.out), HA, Lib.hid (fun y hy => by rw [HTg.out] at hy; injection hy with hy; rw [← hy]; exact of_decide_eq_false HQ.out)⟩
          · obtain rfl : j = Q.length := by omega
            go_upto_region 7 with fail
            refine wp_region_grown (by kernel_rfl) (by kernel_rfl) ?_
            repeat (go_big_quiet_step (fail))
            refine wpQuiet_nil ?_
            rintro w7 ⟨⟨_, hb7⟩, rfl⟩
            have HB7 := Lib.hid hb7
            clear hb7 xs0
            go_wp2_with fail
            go_meet
            case rel => exact ⟨Q.length, by omega, rfl, Lib.hid (HM.out.below HB7.out), HA, Lib.hid (fun y hy => by have := (List.getElem?_eq_some_iff.1 hy).1; simp only [toldI, List.length_map] at this; omega)⟩
      case rest =>
        obtain ⟨j, hj, rfl, HM, HA, HN⟩ := hcut
        obtain ⟨wo, rfl⟩ : ∃ wo, wo = wc := ⟨_, rfl⟩
        have hw := HW3.out.next HM.out.bel
        have e0 : wo.cell? ⟨w.heap.size + 1, 0, none⟩ = some (.slice sa st.length sc) := hw.cell 0
        have e1 : wo.cell? ⟨w.heap.size + 1, 1, none⟩ = some (.int .i64 ti) := hw.cell 1
        have HX5 := Lib.hid (Blk.new wo #[.slice sa st.length sc, .int .i64 ti, .slice none 0 0] 123)
        have HB5 := Lib.hid (below_alloc wo (.cells #[.slice sa st.length sc, .int .i64 ti, .slice none 0 0] 123))
        clear hw
        go_upto_region 11 with fail
        clear e0 e1
        generalize wo.alloc (.cells #[.slice sa st.length sc, .int .i64 ti, .slice none 0 0] 123) = w5 at HX5 HB5 ⊢
        have HB0o := Lib.hid (bel_trans HB03.out HM.out.bel)
        have HIn : Hid (ItR (Or2 (OrB F (w.heap.size + 3)) u9) wo ⟨⟨st, ti, []⟩, .slice sa st.length sc, .slice none 0 0⟩) := Lib.hid (HM.out.old ((ItR.mk (F := F) (w := w) (x := ⟨⟨st, ti, []⟩, .slice sa st.length sc, .slice none 0 0⟩) HV.out (own_nil w 127 6).rd HFar.out (fun hn => by simp at hn)).keep (Turn.of HB03.out) HNo.out))
        have HNew : Hid ((∀ y, (toldI Q)[j]? = some y → ¬ (y.set = st ∧ y.time = ti)) → ([] = atL (toldI Q) st ti ∧ ∀ c, setL ltS (toldI Q) st ti c = (toldI Q).take j ++ ⟨st, ti, c⟩ :: (toldI Q).drop j)) := Lib.hid (fun h => by
          obtain ⟨h1, h2⟩ := set_new line_sets HOk.out.rise HA.out HN.out h
          exact ⟨h1.symm, h2⟩)
        go_cut [79] (fun b wd => Hid (Below w5.heap.size w5 wd) ∧ ((b = .bool true ∧ Hid (∃ y, Q[j]? = some y ∧ y.it.set = st ∧ y.it.time = ti)) ∨ (b = .bool false ∧ Hid ([] = atL (toldI Q) st ti ∧ ∀ c, setL ltS (toldI Q) st ti c = (toldI Q).take j ++ ⟨st, ti, c⟩ :: (toldI Q).drop j))))
        case first =>
          have xs0 : ∀ g : GrownOf w5, g.W.cell? ⟨w.heap.size, 0, none⟩ = some (.slice a Q.length cap) := fun g => (HX3.out.next (bel_trans HM.out.bel (bel_trans HB5.out g.b))).cell 0
          by_cases hlt : j < Q.length
          · obtain ⟨y, hy⟩ : ∃ y, Q[j]? = some y := ⟨Q[j], List.getElem?_eq_getElem hlt⟩
            obtain ⟨hr, b, o, rfl, hbl, c0, c1, c2⟩ := Hcell.out j y hy
            have HTg := Lib.hid (toldI_get hy)
            have Hy := Lib.hid hy
            obtain ⟨⟨xs, xt, xl⟩, ysv, ylv⟩ := y
            obtain ⟨ya, yc, hsv, -⟩ := hr.set.open
            obtain ⟨la, lc, hlv, -⟩ := hr.ver.open
            simp only at hsv hlv
            subst hsv hlv
            simp only at c0 c1 c2 HTg
            have HI : Hid (ItR (Or2 (OrB F (w.heap.size + 3)) u9) wo ⟨⟨xs, xt, xl⟩, .slice ya xs.length yc, .slice la xl.length lc⟩) := Lib.hid (HM.out.old (hr.keep (Turn.of HB03.out) HNo.out))
            have Hd : Hid (∀ W, Below w5.heap.size w5 W → W.cell? ⟨b, o + j * 3, none⟩ = some (.slice ya xs.length yc) ∧ W.cell? ⟨b, o + j * 3 + 1, none⟩ = some (.int .i64 xt) ∧ W.cell? ⟨b, o + j * 3 + 2, none⟩ = some (.slice la xl.length lc)) := Lib.hid (fun W hW => by
              have hBW := bel_trans HB0o.out (bel_trans HB5.out hW)
              exact ⟨(hBW.cell (p := ⟨b, _, none⟩) hbl).trans c0, (hBW.cell (p := ⟨b, _, none⟩) hbl).trans c1, (hBW.cell (p := ⟨b, _, none⟩) hbl).trans c2⟩)
            have d0 : ∀ g : GrownOf w5, g.W.cell? ⟨b, o + j * 3, none⟩ = some (.slice ya xs.length yc) := fun g => (Hd.out _ g.b).1
            have d1 : ∀ g : GrownOf w5, g.W.cell? ⟨b, o + j * 3 + 1, none⟩ = some (.int .i64 xt) := fun g => (Hd.out _ g.b).2.1
            have d2 : ∀ g : GrownOf w5, g.W.cell? ⟨b, o + j * 3 + 2, none⟩ = some (.slice la xl.length lc) := fun g => (Hd.out _ g.b).2.2
            have e0 : ∀ g : GrownOf w5, g.W.cell? ⟨w.heap.size + 1, 0, none⟩ = some (.slice sa st.length sc) := fun g => (HW3.out.next (bel_trans HM.out.bel (bel_trans HB5.out g.b))).cell 0
            have e1 : ∀ g : GrownOf w5, g.W.cell? ⟨w.heap.size + 1, 1, none⟩ = some (.int .i64 ti) := fun g => (HW3.out.next (bel_trans HM.out.bel (bel_trans HB5.out g.b))).cell 1
            have hk1 : (0 : Int) ≤ (j : Int) := by omega
            have hk2 : (j : Int) < (Q.length : Int) := by omega
            clear c0 c1 c2 hr hy
            by_cases hte : xt = ti
            · have hb1 : (xt == ti) = true := by simp [hte]
              by_cases hse : xs = st
              · have HSm := Lib.hid (fun (W : World) (hW : Below w5.heap.size w5 W) => same_yes (.slice ya xs.length yc) (.slice sa st.length sc) xs W (HI.out.set.below (bel_trans HB5.out hW)) (by rw [hse]; exact HV.out.below (bel_trans HB0o.out (bel_trans HB5.out hW))))
                have HFd : Hid (∃ y, Q[j]? = some y ∧ y.it.set = st ∧ y.it.time = ti) := Lib.hid ⟨_, Hy.out, hse, hte⟩
                clear hse hte
                refine wp_region_grown (by kernel_rfl) (by kernel_rfl) ?_
                repeat (go_big_quiet_step ((go_at_call 43; refine (HSm.out _ (GrownOf.b _)).mono ?_; rintro e w7 ⟨rfl, ht7⟩; exact ⟨rfl, ⟨w7, bel_trans (GrownOf.b _) (by obtain ⟨t7, rfl⟩ := ht7; exact bel_drewN (bel_refl _) _)⟩, rfl⟩)))
                refine wpQuiet_nil ?_
                rintro w7 ⟨⟨_, hb7⟩, rfl⟩
                have HB7 := Lib.hid hb7
                clear hb7 xs0 d0 d1 d2 e0 e1 Hd
                go_wp2_with fail
                go_meet
                case rel => exact ⟨HB7, .inl ⟨rfl, HFd⟩⟩
              · have HSm := Lib.hid (fun (W : World) (hW : Below w5.heap.size w5 W) => same_no (.slice ya xs.length yc) (.slice sa st.length sc) xs st W (HI.out.set.below (bel_trans HB5.out hW)) (HV.out.below (bel_trans HB0o.out (bel_trans HB5.out hW))) hse)
                have HNw := Lib.hid (HNew.out (fun y hy => by rw [HTg.out] at hy; injection hy with hy; rw [← hy]; exact fun h => hse h.1))
                clear hse hte
                refine wp_region_grown (by kernel_rfl) (by kernel_rfl) ?_
                repeat (go_big_quiet_step ((go_at_call 43; refine (HSm.out _ (GrownOf.b _)).mono ?_; rintro e w7 ⟨rfl, ht7⟩; exact ⟨rfl, ⟨w7, bel_trans (GrownOf.b _) (by obtain ⟨t7, rfl⟩ := ht7; exact bel_drewN (bel_refl _) _)⟩, rfl⟩)))
                refine wpQuiet_nil ?_
                rintro w7 ⟨⟨_, hb7⟩, rfl⟩
                have HB7 := Lib.hid hb7
                clear hb7 xs0 d0 d1 d2 e0 e1 Hd
                go_wp2_with fail
                go_meet
                case rel => exact ⟨HB7, .inr ⟨rfl, HNw⟩⟩
            · have hb1 : (xt == ti) = false := bne_of hte
              have HNw := Lib.hid (HNew.out (fun y hy => by rw [HTg.out] at hy; injection hy with hy; rw [← hy]; exact fun h => hte h.2))
              clear hte
              refine wp_region_grown (by kernel_rfl) (by kernel_rfl) ?_
              repeat (go_big_quiet_step (fail))
              refine wpQuiet_nil ?_
              rintro w7 ⟨⟨_, hb7⟩, rfl⟩
              have HB7 := Lib.hid hb7
              clear hb7 xs0 d0 d1 d2 e0 e1 Hd
              go_wp2_with fail
              go_meet
              case rel => exact ⟨HB7, .inr ⟨rfl, HNw⟩⟩
          · have HNw := Lib.hid (HNew.out (fun y hy => by have := (List.getElem?_eq_some_iff.1 hy).1; simp only [toldI, List.length_map] at this; omega))
            obtain rfl : j = Q.length := by omega
            refine wp_region_grown (by kernel_rfl) (by kernel_rfl) ?_
            repeat (go_big_quiet_step (fail))
            refine wpQuiet_nil ?_
            rintro w7 ⟨⟨_, hb7⟩, rfl⟩
            have HB7 := Lib.hid hb7
            clear hb7 xs0
            go_wp2_with fail
            go_meet
            case rel => exact ⟨HB7, .inr ⟨rfl, HNw⟩⟩
        case rest =>
          obtain ⟨HB7, hor⟩ := hcut
          obtain ⟨w7, rfl⟩ : ∃ w7, w7 = wc := ⟨_, rfl⟩
          go_upto_if 79 with fail
          go_cut [8] (fun kv wd => ∃ (i : Nat) (ya : Option Addr) (yc : Nat) (la : Option Addr) (lc : Nat) (xl : List Ver), i ≤ Q.length ∧ kv = .int .i64 i ∧ Hid (Blk wd wo.heap.size #[.slice ya st.length yc, .int .i64 ti, .slice la xl.length lc] 123 ∧ Below wo.heap.size wo wd) ∧ Hid (ItR (Or2 (OrB F (w.heap.size + 3)) u9) wo ⟨⟨st, ti, xl⟩, .slice ya st.length yc, .slice la xl.length lc⟩) ∧ Hid (xl = atL (toldI Q) st ti ∧ ∀ c, setL ltS (toldI Q) st ti c = (toldI Q).take j ++ ⟨st, ti, c⟩ :: (toldI Q).drop i))
          case first =>
            rcases hor with ⟨rfl, HFd⟩ | ⟨rfl, HNw⟩
            · obtain ⟨y, hy, hse, hte⟩ := HFd.out
              have hlt : j < Q.length := (List.getElem?_eq_some_iff.1 hy).1
              obtain ⟨hr, b, o, rfl, hbl, c0, c1, c2⟩ := Hcell.out j y hy
              have HTg := Lib.hid (toldI_get hy)
              obtain ⟨⟨xs, xt, xl⟩, ysv, ylv⟩ := y
              obtain ⟨ya, yc, hsv, -⟩ := hr.set.open
              obtain ⟨la, lc, hlv, -⟩ := hr.ver.open
              simp only at hsv hlv hse hte
              subst hsv hlv
              simp only at c0 c1 c2 HTg
              have HI : Hid (ItR (Or2 (OrB F (w.heap.size + 3)) u9) wo ⟨⟨xs, xt, xl⟩, .slice ya xs.length yc, .slice la xl.length lc⟩) := Lib.hid (HM.out.old (hr.keep (Turn.of HB03.out) HNo.out))
              have HTe := Lib.hid (set_there line_sets HOk.out.rise HA.out HTg.out hse hte)
              have hBW := bel_trans HB0o.out (bel_trans HB5.out HB7.out)
              have p0 : w7.cell? ⟨w.heap.size, 0, none⟩ = some (.slice (some ⟨b, o, none⟩) Q.length cap) := (HX3.out.next (bel_trans HM.out.bel (bel_trans HB5.out HB7.out))).cell 0
              have p1 : w7.cell? ⟨b, o + j * 3, none⟩ = some (.slice ya xs.length yc) := (hBW.cell (p := ⟨b, _, none⟩) hbl).trans c0
              have p2 : w7.cell? ⟨b, o + j * 3 + 1, none⟩ = some (.int .i64 xt) := (hBW.cell (p := ⟨b, _, none⟩) hbl).trans c1
              have p3 : w7.cell? ⟨b, o + j * 3 + 2, none⟩ = some (.slice la xl.length lc) := (hBW.cell (p := ⟨b, _, none⟩) hbl).trans c2
              have hk1 : (0 : Int) ≤ (j : Int) := by omega
              have hk2 : (j : Int) < (Q.length : Int) := by omega
              have HX7 := Lib.hid (HX5.out.next HB7.out)
              have f0 : w7.frozen? ⟨wo.heap.size, 0, none⟩ = false := HX7.out.free 0
              have f1 : w7.frozen? ⟨wo.heap.size, 1, none⟩ = false := HX7.out.free 1
              have f2 : w7.frozen? ⟨wo.heap.size, 2, none⟩ = false := HX7.out.free 2
              have k0 : w7.cell? ⟨wo.heap.size, 0, none⟩ = some (.slice sa st.length sc) := HX7.out.cell 0
              have k1 : w7.cell? ⟨wo.heap.size, 1, none⟩ = some (.int .i64 ti) := HX7.out.cell 1
              have k2 : w7.cell? ⟨wo.heap.size, 2, none⟩ = some (.slice none 0 0) := HX7.out.cell 2
              have Hse := Lib.hid hse
              have Hte := Lib.hid hte
              have hjl : j + 1 ≤ Q.length := hlt
              clear c0 c1 c2 hr hy hBW hse hte
              go_wp2_with fail
              go_meet
              case rel =>
                refine ⟨j + 1, ya, yc, la, lc, xl, hjl, by go_num, Lib.hid ⟨?_, bel_set (bel_set (bel_set (bel_trans HB5.out HB7.out) (Nat.le_refl _)) (Nat.le_refl _)) (Nat.le_refl _)⟩, Lib.hid ?_, Lib.hid ⟨HTe.out.1.symm, HTe.out.2⟩⟩
                · rw [← Hse.out, ← Hte.out]
                  have h9 := ((HX7.out.set 0 (.slice ya xs.length yc)).set 1 (.int .i64 xt)).set 2 (.slice la xl.length lc)
                  simpa using h9
                · rw [← Hse.out, ← Hte.out]; exact HI.out
            · go_wp2_with fail
              go_meet
              case rel => exact ⟨j, sa, sc, none, 0, [], by omega, rfl, Lib.hid ⟨HX5.out.next HB7.out, bel_trans HB5.out HB7.out⟩, HIn, HNw⟩
          case rest =>
            obtain ⟨i, ya, yc, la, lc, xl, hi, rfl, HB, HI, HXl⟩ := hcut
            obtain ⟨wd, rfl⟩ : ∃ wd, wd = wc := ⟨_, rfl⟩
            clear HNew HIn HX5 HB5 HN HA
            have HBd := Lib.hid HB.out.2
            have HXd := Lib.hid HB.out.1
            have HB3d := Lib.hid (bel_trans HM.out.bel HBd.out)
            have hx := HXd.out
            have hw := HW3.out.next HB3d.out
            have hz3 := HZ3.out.next HB3d.out
            have r2 : wd.cell? ⟨wo.heap.size, 2, none⟩ = some (.slice la xl.length lc) := hx.cell 2
            have z0 : wd.cell? ⟨w.heap.size + 2, 0, none⟩ = some (.int .i64 tw) := hz3.cell 0
            have z1 : wd.cell? ⟨w.heap.size + 2, 1, none⟩ = some (.int .u32 tt) := hz3.cell 1
            have z2 : wd.cell? ⟨w.heap.size + 2, 2, none⟩ = some (.int .u32 tm) := hz3.cell 2
            have v2 : wd.cell? ⟨w.heap.size + 1, 2, none⟩ = some (.int .i64 k) := hw.cell 2
            have v3 : wd.cell? ⟨w.heap.size + 1, 3, none⟩ = some (.int .i64 n) := hw.cell 3
            have v4 : wd.cell? ⟨w.heap.size + 1, 4, none⟩ = some (.string x) := hw.cell 4
            have HCl : Hid (Chain xl ∧ xl.length ≤ 65536) := Lib.hid ⟨by rw [HXl.out.1]; exact at_chain HOk.out _ _, by rw [HXl.out.1]; exact Nat.le_trans (atL_len HOk.out st ti) (Nat.le_of_lt HLl.out)⟩
            have HPu := Lib.hid (rput_any (.slice la xl.length lc) xl ⟨⟨tw, tt, tm⟩, k, n, x⟩ wd (HI.out.ver.below HBd.out) HCl.out.1 HCl.out.2 HXs.out)
            unfold Ver.val at HPu
            simp only at HPu
            obtain ⟨P, hP⟩ : ∃ P, putC xl ⟨⟨tw, tt, tm⟩, k, n, x⟩ = P := ⟨_, rfl⟩
            rw [hP] at HPu
            obtain ⟨pe, pl⟩ := P
            have HPe := Lib.hid hP
            simp only at HPu
            clear hx hw hz3 hP
            go_upto_region 15 with (first
              | (go_at_call 49; refine HPu.out.mono ?_; rintro e w6 ⟨v6, rfl, hm6⟩; obtain ⟨-, a6, c6, rfl, -, -, -, -⟩ := hm6.rd; have HM6 := Lib.hid hm6; clear hm6)
              | fail)
            clear r2 z0 z1 z2 v2 v3 v4 HPu
            have HB36 := Lib.hid (bel_trans HB3d.out HM6.out.2.2)
            by_cases hp : pe = 0
            · subst hp
              have HE3 : Hid (R0 = (0, (toldI Q).take j ++ ⟨st, ti, pl⟩ :: (toldI Q).drop i)) := Lib.hid (by
                rw [HE.out]
                unfold putL
                rw [← HXl.out.1, HPe.out]
                show (if (0 : Int) ≠ 0 then _ else _) = _
                rw [if_neg (by simp), HXl.out.2])
              have hx6 := HXd.out.next HM6.out.2.2
              have s2 : w6.cell? ⟨wo.heap.size, 2, none⟩ = some (.slice la xl.length lc) := hx6.cell 2
              have s3 : w6.frozen? ⟨wo.heap.size, 2, none⟩ = false := hx6.free 2
              go_upto_region 18 with fail
              have hx7 : Blk (w6.setCell ⟨wo.heap.size, 2, none⟩ (.slice a6 pl.length c6)) wo.heap.size #[.slice ya st.length yc, .int .i64 ti, .slice a6 pl.length c6] 123 := by simpa using hx6.set 2 (.slice a6 pl.length c6)
              have hb7 : Below wo.heap.size wo (w6.setCell ⟨wo.heap.size, 2, none⟩ (.slice a6 pl.length c6)) := bel_set (bel_trans HBd.out HM6.out.2.2) (Nat.le_refl _)
              have ho7 : Kt.Own 127 6 (w6.setCell ⟨wo.heap.size, 2, none⟩ (.slice a6 pl.length c6)) (.slice a6 pl.length c6) pl.length (flatV pl) := own_set HM6.out.1 (p := ⟨wo.heap.size, 2, none⟩) (fun b hb e => by have h1 := HM6.out.2.1 b hb; have h2 := HXd.out.lt; rw [e] at h1; simp only at h1; omega) _
              have HX7 := Lib.hid hx7
              have HB7 := Lib.hid hb7
              have HO7 := Lib.hid ho7
              have HN7 : Hid (∀ b, (Value.slice a6 pl.length c6).ownBlock = some b → wd.heap.size ≤ b) := Lib.hid HM6.out.2.1
              clear s2 s3 hx6 hx7 hb7 ho7 HM6 HB36
              generalize w6.setCell ⟨wo.heap.size, 2, none⟩ (.slice a6 pl.length c6) = w7 at HX7 HB7 HO7 ⊢
              have HI7 : Hid (ItR (Or2 (OrB F (w.heap.size + 3)) u9) w7 ⟨⟨st, ti, pl⟩, .slice ya st.length yc, .slice a6 pl.length c6⟩) := Lib.hid (by
                have h1 := HI.out.keep (Turn.of HB7.out) (fun _ h => .inl h)
                refine ⟨h1.set, HO7.out.rd, h1.fs, fun hn b hb => ⟨HO7.out.lt b hb, fun hf => ?_⟩⟩
                have h2 := HN7.out b hb
                have h4 := HM.out.bel.size
                have h5 := HBd.out.size
                rcases hf with hf | hf
                · have := HFo.out b hf; omega
                · have := HM.out.row.1.lt b hf; omega)
              have q0 : w7.cell? ⟨wo.heap.size, 0, none⟩ = some (.slice ya st.length yc) := HX7.out.cell 0
              have q1 : w7.cell? ⟨wo.heap.size, 1, none⟩ = some (.int .i64 ti) := HX7.out.cell 1
              have q2 : w7.cell? ⟨wo.heap.size, 2, none⟩ = some (.slice a6 pl.length c6) := HX7.out.cell 2
              have hRl : (Q.take j).length ≤ 65536 := by rw [List.length_take]; have := HL.out; omega
              obtain ⟨E, hE⟩ : ∃ E : Itm, (⟨⟨st, ti, pl⟩, .slice ya st.length yc, .slice a6 pl.length c6⟩ : Itm) = E := ⟨_, rfl⟩
              have HEe := Lib.hid hE
              clear hE
              go_wp2_with (at_builtin; apply Hold.mk)
              unfold Hold
              refine wpList_app rfl _ _ 65 rfl ok65 (by rfl) (by rfl) ((HM.out.below HB7.out).row.1.below' (below_alloc _ _)) (by exact rd_lit 3 #[.slice ya st.length yc, .int .i64 ti, .slice a6 pl.length c6] 1 (by simp) one_le rfl) (by intro u hu; simp only [List.mem_cons, List.not_mem_nil, or_false] at hu; rcases hu with rfl | rfl | rfl <;> rfl) (by simp only [maxLen]; omega) (by omega) ?_
              intro v9 w9 ho9 hg9 hn9
              have HM9 : Hid (Mits (OrB F (w.heap.size + 3)) w3 w9 v9 (Q.take j ++ E :: (Q.drop i).take 0)) := Lib.hid (by
                rw [List.take_zero, ← HEe.out]
                exact ((HM.out.below HB7.out).below (below_alloc _ _)).push (HI7.out.keep (Turn.of (below_alloc _ _)) (fun _ h => .inl h)) ho9 hg9 hn9)
              clear ho9 hg9 hn9 q0 q1 q2
              have HEl : Hid (E.it = ⟨st, ti, pl⟩) := Lib.hid (by rw [← HEe.out])
              clear HI7 HX7 HO7 HN7 HPe HCl
              go_wp2_with fail
              go_loopw [8, 9] (fun iv ov wr => ∃ z : Nat, i + z ≤ Q.length ∧ iv = .int .i64 ((i + z : Nat) : Int) ∧ Hid (Mits (OrB F (w.heap.size + 3)) w3 wr ov (Q.take j ++ E :: (Q.drop i).take z))) (fun iv _ _ => Q.length - (intOf iv).toNat)
              case atStart => exact ⟨0, by omega, rfl, HM9⟩
              case round =>
                clear HM9
                obtain ⟨z, hz, rfl, HMz⟩ := hrel
                have x0 : wr.cell? ⟨w.heap.size, 0, none⟩ = some (.slice a Q.length cap) := (HX3.out.next HMz.out.bel).cell 0
                by_cases hlt : i + z < Q.length
                · obtain ⟨y, hy⟩ : ∃ y, Q[i + z]? = some y := ⟨Q[i + z], List.getElem?_eq_getElem hlt⟩
                  obtain ⟨hr, b, o, rfl, hbl, c0, c1, c2⟩ := Hcell.out (i + z) y hy
                  have HTk : Hid ((Q.drop i).take (z + 1) = (Q.drop i).take z ++ [y]) := Lib.hid (by
                    have h1 : (Q.drop i)[z]? = some y := by rw [List.getElem?_drop]; exact hy
                    obtain ⟨h2, h3⟩ := List.getElem?_eq_some_iff.1 h1
                    rw [List.take_succ_eq_append_getElem h2, h3])
                  obtain ⟨⟨xs, xt, xl⟩, ysv, ylv⟩ := y
                  obtain ⟨ya, yc, hsv, -⟩ := hr.set.open
                  obtain ⟨la, lc, hlv, -⟩ := hr.ver.open
                  simp only at hsv hlv
                  subst hsv hlv
                  simp only at c0 c1 c2 HTk
                  have hB := bel_trans HB03.out HMz.out.bel
                  have d0 : wr.cell? ⟨b, o + (i + z) * 3, none⟩ = some (.slice ya xs.length yc) := (hB.cell (p := ⟨b, _, none⟩) hbl).trans c0
                  have d1 : wr.cell? ⟨b, o + (i + z) * 3 + 1, none⟩ = some (.int .i64 xt) := (hB.cell (p := ⟨b, _, none⟩) hbl).trans c1
                  have d2 : wr.cell? ⟨b, o + (i + z) * 3 + 2, none⟩ = some (.slice la xl.length lc) := (hB.cell (p := ⟨b, _, none⟩) hbl).trans c2
                  have HIz : Hid (ItR (Or2 (OrB F (w.heap.size + 3)) u9) wr ⟨⟨xs, xt, xl⟩, .slice ya xs.length yc, .slice la xl.length lc⟩) := Lib.hid (HMz.out.old (hr.keep (Turn.of HB03.out) HNo.out))
                  generalize hiz : i + z = p at *
                  have Hiz := Lib.hid hiz
                  have hk1 : (0 : Int) ≤ (p : Int) := by omega
                  have hk2 : (p : Int) < (Q.length : Int) := by omega
                  have hRl : (Q.take j ++ E :: (Q.drop i).take z).length ≤ 131073 := by
                    have h1 := List.length_take_le j Q
                    have h2 := List.length_take_le z (Q.drop i)
                    have := HL.out
                    rw [List.length_append, List.length_cons]
                    have h3 : ((Q.drop i).take z).length ≤ (Q.drop i).length := by rw [List.length_take]; omega
                    have h4 : (Q.take j).length ≤ Q.length := by rw [List.length_take]; omega
                    rw [List.length_drop] at h3
                    omega
                  clear c0 c1 c2 hr hy hB hiz
                  go_wp2_with (at_builtin; apply Hold.mk)
                  unfold Hold
                  refine wpList_app rfl _ _ 65 rfl ok65 (by rfl) (by rfl) (HMz.out.row.1.below' (below_alloc _ _)) (by exact rd_lit 3 #[.slice ya xs.length yc, .int .i64 xt, .slice la xl.length lc] 1 (by simp) one_le rfl) (by intro u hu; simp only [List.mem_cons, List.not_mem_nil, or_false] at hu; rcases hu with rfl | rfl | rfl <;> rfl) (by simp only [maxLen]; omega) (by omega) ?_
                  intro v9 w9 ho9 hg9 hn9
                  have HM9 : Hid (Mits (OrB F (w.heap.size + 3)) w3 w9 v9 (Q.take j ++ E :: (Q.drop i).take (z + 1))) := Lib.hid (by
                    rw [HTk.out]
                    have h9 := (HMz.out.below (below_alloc _ _)).push (HIz.out.keep (Turn.of (below_alloc _ _)) (fun _ h => .inl h)) ho9 hg9 hn9
                    rw [List.append_assoc, List.cons_append] at h9
                    exact h9)
                  clear ho9 hg9 hn9
                  go_wp2_with fail
                  go_roundw
                  case rel => exact ⟨z + 1, by have := Hiz.out; omega, by have := Hiz.out; rw [← Nat.add_assoc, this]; go_num, HM9⟩
                  case measure => simp [intOf]; omega
                · have HT : Hid ((Q.drop i).take z = Q.drop i) := Lib.hid (List.take_of_length_le (by rw [List.length_drop]; omega))
                  obtain ⟨p, hp⟩ : ∃ p, i + z = p := ⟨_, rfl⟩
                  rw [hp]
                  obtain rfl : p = Q.length := by omega
                  rw [HT.out] at HMz
                  have hy := HY3.out.next HMz.out.bel
                  have y0 : wr.cell? ⟨w.heap.size + 3, 0, none⟩ = some (.slice none 0 0) := hy.cell 0
                  have y1 : wr.frozen? ⟨w.heap.size + 3, 0, none⟩ = false := hy.free 0
                  obtain ⟨-, ra, rc, e, -, -, -, -⟩ := HMz.out.row.rd
                  have HRe : Hid (toldI (Q.take j ++ E :: Q.drop i) = (toldI Q).take j ++ ⟨st, ti, pl⟩ :: (toldI Q).drop i) := Lib.hid (by simp [toldI, HEl.out, List.map_take, List.map_drop])
                  generalize Q.take j ++ E :: Q.drop i = R at *
                  subst e
                  have HS9 := Lib.hid (HMz.out.st HFo.out)
                  have HB9 := Lib.hid (bel_trans HB03.out HMz.out.bel)
                  have hz9 : (wr.setCell ⟨w.heap.size + 3, 0, none⟩ (.slice ra R.length rc)).cell? ⟨w.heap.size + 3, 0, none⟩ = some (.slice ra R.length rc) := (hy.set 0 (.slice ra R.length rc)).cell 0
                  clear hy HMz hp hlt hz
                  go_wp2_with fail
                  refine bodyPost_ret (v := .tuple #[.int .i64 0, .agg #[.slice ra R.length rc]]) (by simp [results, Tryz.results24, go_sem, hz9]) rfl ⟨_, R, by rw [HE3.out], ?_, by rw [HE3.out]; exact HRe.out, ?_⟩
                  · exact HS9.out.keep ((Turn.refl (OrB F (w.heap.size + 3)) wr).set (a := ⟨w.heap.size + 3, 0, none⟩) (.inr rfl) _) (fun b hb => .inl (.inl hb))
                  · exact bel_set HB9.out (by show w.heap.size ≤ w.heap.size + 3; omega)
            · have HE3 : Hid (R0 = (pe, toldI Q)) := Lib.hid (by
                rw [HE.out]
                unfold putL
                rw [← HXl.out.1, HPe.out]
                exact if_pos hp)
              have he : (pe == 0) = false := bne_of hp
              have hx6 := HX3.out.next HB36.out
              have hy6 := HY3.out.next HB36.out
              have x0 : w6.cell? ⟨w.heap.size, 0, none⟩ = some (.slice a Q.length cap) := hx6.cell 0
              have y0 : w6.cell? ⟨w.heap.size + 3, 0, none⟩ = some (.slice none 0 0) := hy6.cell 0
              have y1 : w6.frozen? ⟨w.heap.size + 3, 0, none⟩ = false := hy6.free 0
              clear hx6 hp
              go_upto_region 16 with fail
              clear he
              go_region
              have hyd := hy6.set 0 (.slice a Q.length cap)
              have hz : (w6.setCell ⟨w.heap.size + 1 + 1 + 1, 0, none⟩ (.slice a Q.length cap)).cell? ⟨w.heap.size + 1 + 1 + 1, 0, none⟩ = some (.slice a Q.length cap) := hyd.cell 0
              have HBz : Hid (Below w.heap.size w (w6.setCell ⟨w.heap.size + 1 + 1 + 1, 0, none⟩ (.slice a Q.length cap)).drew) := Lib.hid (bel_drew (bel_set (bel_trans HB03.out HB36.out) (by show w.heap.size ≤ w.heap.size + 1 + 1 + 1; omega)))
              clear hyd hy6 x0 y0 y1
              go_wp2_with fail
              refine bodyPost_ret (v := .tuple #[.int .i64 pe, .agg #[.slice a Q.length cap]]) (by simp [results, Tryz.results24, go_sem, hz]) rfl ⟨_, Q, by rw [HE3.out], HS.out _ HBz.out, by rw [HE3.out], HBz.out⟩
end Go.Proofs.YtplieoalfbpniaaGreat
