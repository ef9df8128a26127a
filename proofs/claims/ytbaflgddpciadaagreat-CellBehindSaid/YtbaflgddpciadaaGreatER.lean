/- CellBehind (9). -/
import Derived.Test.YtbaflgddpciadaaGreatEQ
set_option linter.unusedVariables false
set_option linter.unusedSimpArgs false
namespace Go.Proofs.YtbaflgddpciadaaGreat
open Go.RowKit Go.Kt Go.Ix Go.Sx Go.Cx
set_option maxRecDepth 100000
set_option maxHeartbeats 16000000 in
theorem behind_any (v : Value) (L : List Cw) (w : World) (hv : RdC w v L) (hg : Glob w) : Calls Tryz.prog 9 #[v] w fun e w' => e = .returned (.bool true) ∧ Below w.heap.size w w' := by
  obtain ⟨la, lc, rfl, hcap, hbig, hcell⟩ := hv.open
  have Hcell := Lib.hid hcell
  have HG := Lib.hid hg
  have HNw := Lib.hid (new_cel 1 ⟨by decide, by decide⟩ w)
  clear hcell hv hg
  go_enter Tryz.func9, Tryz.ntmps9
  go_upto_region 5 with (first
    | (go_at_call 14; refine HNw.out.mono ?_; rintro e w1 ⟨c, S0, rfl, hc, hS, hb⟩; have HC0 := Lib.hid hc; have HS0 := Lib.hid hS; have HB1 := Lib.hid hb; clear hc hS hb)
    | (go_at_call 15; refine (awake_any _ (HG.out.below HB1.out)).mono ?_; rintro e w2 ⟨rfl, hb2⟩; have HB2 := Lib.hid hb2; clear hb2)
    | fail)
  have HR0 : Hid (Rn w w2 S0 c (newC 1) 0) := Lib.hid ⟨HC0.out.next HB2.out, (by decide), HS0.out, bel_trans HB1.out HB2.out⟩
  go_loopw [23] (fun iv wr => ∃ (k : Nat) (S : Nat → Prop) (C : Cl), k ≤ L.length ∧ iv = .int .i64 k ∧ k ≤ 60 ∧ Hid (Rn w wr S c C k)) (fun iv _ => L.length - (intOf iv).toNat)
  case atStart => exact ⟨0, _, _, by omega, rfl, by omega, HR0⟩
  case round =>
    clear HR0
    obtain ⟨k, S, C, hk, rfl, hk60, HR⟩ := hrel
    obtain ⟨wo, rfl⟩ : ∃ wo, wo = wr := ⟨_, rfl⟩
    by_cases hlt : k < L.length
    · obtain ⟨o, ho⟩ : ∃ o, L[k]? = some o := ⟨L[k], List.getElem?_eq_getElem hlt⟩
      obtain ⟨hcw, b, off, rfl, hbl, c0, c1, c2, c3, c4, c5, c6, c7, c8, c9⟩ := Hcell.out k o ho
      obtain ⟨ova, ovc, hov, -⟩ := hcw.rd.open
      have HCw := Lib.hid hcw
      obtain ⟨⟨kd, dd, ⟨aw, at1, am⟩, ys, tk, nn, id, ws⟩, ov, OT⟩ := o
      simp only at c0 c1 c2 c3 c4 c5 c6 c7 c8 c9 hov
      subst hov
      have d0 : wo.cell? ⟨b, off + k * 10, none⟩ = some (.int .i64 kd) := (HR.out.bel.cell (p := ⟨b, _, none⟩) hbl).trans c0
      have d1 : wo.cell? ⟨b, off + k * 10 + 1, none⟩ = some (.int .u32 dd) := (HR.out.bel.cell (p := ⟨b, _, none⟩) hbl).trans c1
      have d2 : wo.cell? ⟨b, off + k * 10 + 2, none⟩ = some (.int .i64 aw) := (HR.out.bel.cell (p := ⟨b, _, none⟩) hbl).trans c2
      have d3 : wo.cell? ⟨b, off + k * 10 + 3, none⟩ = some (.int .u32 at1) := (HR.out.bel.cell (p := ⟨b, _, none⟩) hbl).trans c3
      have d4 : wo.cell? ⟨b, off + k * 10 + 4, none⟩ = some (.int .u32 am) := (HR.out.bel.cell (p := ⟨b, _, none⟩) hbl).trans c4
      have d5 : wo.cell? ⟨b, off + k * 10 + 5, none⟩ = some (.bool ys) := (HR.out.bel.cell (p := ⟨b, _, none⟩) hbl).trans c5
      have d6 : wo.cell? ⟨b, off + k * 10 + 6, none⟩ = some (.string tk) := (HR.out.bel.cell (p := ⟨b, _, none⟩) hbl).trans c6
      have d7 : wo.cell? ⟨b, off + k * 10 + 7, none⟩ = some (.int .i64 nn) := (HR.out.bel.cell (p := ⟨b, _, none⟩) hbl).trans c7
      have d8 : wo.cell? ⟨b, off + k * 10 + 8, none⟩ = some (.int .i64 id) := (HR.out.bel.cell (p := ⟨b, _, none⟩) hbl).trans c8
      have d9 : wo.cell? ⟨b, off + k * 10 + 9, none⟩ = some (.slice ova OT.length ovc) := (HR.out.bel.cell (p := ⟨b, _, none⟩) hbl).trans c9
      have hk1 : (0 : Int) ≤ (k : Int) := by omega
      have hk2 : (k : Int) < (L.length : Int) := by omega
      have HX3 := Lib.hid (Blk.new wo #[.int .i64 kd, .int .u32 dd, .int .i64 aw, .int .u32 at1, .int .u32 am, .bool ys, .string tk, .int .i64 nn, .int .i64 id, .slice ova OT.length ovc] 42)
      have HBx3 := Lib.hid (below_alloc wo (.cells #[.int .i64 kd, .int .u32 dd, .int .i64 aw, .int .u32 at1, .int .u32 am, .bool ys, .string tk, .int .i64 nn, .int .i64 id, .slice ova OT.length ovc] 42))
      have Hlt := Lib.hid hlt
      have Hng : Hid (¬ S wo.heap.size) := Lib.hid (fun e => by have := HR.out.cel.lt _ e; omega)
      clear c0 c1 c2 c3 c4 c5 c6 c7 c8 c9 ho hcw
      go_upto_region 7 with fail
      clear d0 d1 d2 d3 d4 d5 d6 d7 d8 d9
      generalize wo.alloc (.cells #[.int .i64 kd, .int .u32 dd, .int .i64 aw, .int .u32 at1, .int .u32 am, .bool ys, .string tk, .int .i64 nn, .int .i64 id, .slice ova OT.length ovc] 42) = w3 at HX3 HBx3 ⊢
      generalize wo.heap.size = g7 at HX3 Hng ⊢
      have HR3 := Lib.hid (HR.out.next HBx3.out)
      by_cases h60 : 60 ≤ k
      · have e1 : decide ((60 : Int) ≤ (k : Int)) = true := by simp; omega
        clear h60
        go_wp2_with fail
        go_ret
        exact ⟨rfl, HR3.out.bel⟩
      have e1 : decide ((60 : Int) ≤ (k : Int)) = false := by simp; omega
      have H60 : Hid (k < 60) := Lib.hid (by omega)
      clear h60
      have x0 : w3.cell? ⟨g7, 0, none⟩ = some (.int .i64 kd) := HX3.out.cell 0
      have x1 : w3.cell? ⟨g7, 1, none⟩ = some (.int .u32 dd) := HX3.out.cell 1
      have x2 : w3.cell? ⟨g7, 2, none⟩ = some (.int .i64 aw) := HX3.out.cell 2
      have x3 : w3.cell? ⟨g7, 3, none⟩ = some (.int .u32 at1) := HX3.out.cell 3
      have x4 : w3.cell? ⟨g7, 4, none⟩ = some (.int .u32 am) := HX3.out.cell 4
      have x5 : w3.cell? ⟨g7, 5, none⟩ = some (.bool ys) := HX3.out.cell 5
      have x6 : w3.cell? ⟨g7, 6, none⟩ = some (.string tk) := HX3.out.cell 6
      have x7 : w3.cell? ⟨g7, 7, none⟩ = some (.int .i64 nn) := HX3.out.cell 7
      have x8 : w3.cell? ⟨g7, 8, none⟩ = some (.int .i64 id) := HX3.out.cell 8
      have x9 : w3.cell? ⟨g7, 9, none⟩ = some (.slice ova OT.length ovc) := HX3.out.cell 9
      have HLt := Lib.hid (fun W (hW : Below w3.heap.size w3 W) => light_any ⟨kd, dd, ⟨aw, at1, am⟩, ys, tk, nn, id, ws⟩ (.slice ova OT.length ovc) OT W (HCw.out.rd.below (bel_trans HR3.out.bel hW)))
      unfold cmdV at HLt
      simp only at HLt
      by_cases hl : LightW tk OT
      · have HL := Lib.hid hl
        have HDe := Lib.hid (fun W (hW : Below w3.heap.size w3 W) => cel_deed (HR3.out.cel.next hW) dd ⟨HCw.out.ok.1, HCw.out.ok.2.1⟩)
        have HCl := Lib.hid (fun W (hW : Below w3.heap.size w3 W) => cel_closed (HR3.out.cel.next hW))
        unfold Tm.val at HCl
        clear hl
        go_upto_region 8 with (first
          | (go_at_call 16; refine (HLt.out _ (bel_refl _)).mono ?_; rintro e w4 ⟨hs4, hb4⟩; obtain ⟨z, rfl, hz⟩ := says_out hs4; obtain rfl : z = true := hz.2 HL.out; have HB4 := Lib.hid hb4; clear hs4 hz hb4)
          | fail)
        clear x0 x1 x2 x3 x4 x5 x6 x7 x8 x9
        have x1 : w4.cell? ⟨g7, 1, none⟩ = some (.int .u32 dd) := (HX3.out.next HB4.out).cell 1
        go_upto_region 10 with (first
          | (go_at_call 32; refine (HDe.out _ HB4.out).mono ?_; rintro e w5 ⟨ok, we, wd, ws0, ww, wt, wm, rfl, hd, hb5⟩; have HDd := Lib.hid hd; have HB5 := Lib.hid (bel_trans HB4.out hb5); have HW5 := Lib.hid (Blk.new w5 #[.int .i64 we, .int .u32 wd, .int .i64 ws0, .int .i64 ww, .int .u32 wt, .int .u32 wm] 46); have HBw5 := Lib.hid (bel_alloc (o := .cells #[.int .i64 we, .int .u32 wd, .int .i64 ws0, .int .i64 ww, .int .u32 wt, .int .u32 wm] 46) HB5.out); clear hd hb5)
          | (go_at_call 33; refine (HCl.out _ HBw5.out).mono ?_; rintro e w7 ⟨rfl, hb7⟩; have HB7 := Lib.hid (bel_trans HBw5.out hb7); have HW7 := Lib.hid (HW5.out.next hb7); clear hb7)
          | fail)
        have HW8 := Lib.hid (HW7.out.next (below_alloc _ (.cells #[.int .i64 C.closed.wall, .int .u32 C.closed.tick, .int .u32 C.closed.mark] 44)))
        have HC8 := Lib.hid (Blk.new w7 #[.int .i64 C.closed.wall, .int .u32 C.closed.tick, .int .u32 C.closed.mark] 44)
        have HB8 := Lib.hid (bel_alloc (o := .cells #[.int .i64 C.closed.wall, .int .u32 C.closed.tick, .int .u32 C.closed.mark] 44) HB7.out)
        have HnS : Hid (¬ S w5.heap.size ∧ ¬ S w7.heap.size) := Lib.hid ⟨fun e => by have := HR3.out.cel.lt _ e; have := HB5.out.size; omega, fun e => by have := HR3.out.cel.lt _ e; have := HB7.out.size; omega⟩
        clear x1
        generalize w7.alloc (.cells #[.int .i64 C.closed.wall, .int .u32 C.closed.tick, .int .u32 C.closed.mark] 44) = w8 at HW8 HC8 HB8 ⊢
        generalize w7.heap.size = gc at HC8 HnS ⊢
        generalize w5.heap.size = gw at HW5 HW7 HW8 HnS ⊢
        have HR8 := Lib.hid (HR3.out.next HB8.out)
        clear HDe HCl
        have HTo := Lib.hid (fun W (hW : Below w8.heap.size w8 W) => tocmd_any ⟨kd, dd, ⟨aw, at1, am⟩, ys, tk, nn, id, ws⟩ (.slice ova OT.length ovc) OT W (HCw.out.rd.below (bel_trans (bel_trans HR3.out.bel HB8.out) hW)) (by have := HL.out.1; omega) (fun x hx => (HCw.out.wr x hx).len))
        unfold cmdV at HTo
        simp only at HTo
        obtain ⟨z, hz⟩ : ∃ z, doC C ⟨kd, dd, ⟨aw, at1, am⟩, ys, tk, nn, id, ws⟩ = z := ⟨_, rfl⟩
        have Hz := Lib.hid hz
        have HDo : Hid (∀ W v' Q, Below w8.heap.size w8 W → CmdR W ⟨kd, dd, ⟨aw, at1, am⟩, ys, tk, nn, id, ws⟩ v' Q → Calls Tryz.prog 17 #[.pointer (some ⟨c, 0, none⟩), cmdV ⟨kd, dd, ⟨aw, at1, am⟩, ys, tk, nn, id, ws⟩ v'] W fun e w' => e = .returned (replyV z.1) ∧ ∃ S', Cel S' w' c z.2 (64 * k + 64) ∧ (∀ x, S' x → S x ∨ W.heap.size ≤ x) ∧ Turn S W w') := Lib.hid (fun W v' Q hW hm => by
          have := do_any ⟨kd, dd, ⟨aw, at1, am⟩, ys, tk, nn, id, ws⟩ v' Q W (HR8.out.cel.next hW) hm (by have := H60.out; omega) (by have := HR8.out.ticks; have := H60.out; omega) HCw.out.id
          rw [hz] at this
          exact this)
        obtain ⟨⟨ze, zd, zs, ⟨zw, zt, zm⟩⟩, C2⟩ := z
        unfold cmdV replyV replyA at HDo
        simp only at HDo
        clear hz
        have x0 : w8.cell? ⟨g7, 0, none⟩ = some (.int .i64 kd) := (HX3.out.next HB8.out).cell 0
        have x1 : w8.cell? ⟨g7, 1, none⟩ = some (.int .u32 dd) := (HX3.out.next HB8.out).cell 1
        have x2 : w8.cell? ⟨g7, 2, none⟩ = some (.int .i64 aw) := (HX3.out.next HB8.out).cell 2
        have x3 : w8.cell? ⟨g7, 3, none⟩ = some (.int .u32 at1) := (HX3.out.next HB8.out).cell 3
        have x4 : w8.cell? ⟨g7, 4, none⟩ = some (.int .u32 am) := (HX3.out.next HB8.out).cell 4
        have x5 : w8.cell? ⟨g7, 5, none⟩ = some (.bool ys) := (HX3.out.next HB8.out).cell 5
        have x6 : w8.cell? ⟨g7, 6, none⟩ = some (.string tk) := (HX3.out.next HB8.out).cell 6
        have x7 : w8.cell? ⟨g7, 7, none⟩ = some (.int .i64 nn) := (HX3.out.next HB8.out).cell 7
        have x8 : w8.cell? ⟨g7, 8, none⟩ = some (.int .i64 id) := (HX3.out.next HB8.out).cell 8
        have x9 : w8.cell? ⟨g7, 9, none⟩ = some (.slice ova OT.length ovc) := (HX3.out.next HB8.out).cell 9
        go_upto_region 11 with (first
          | (go_at_call 18; refine (HTo.out _ (bel_refl _)).mono ?_; rintro e w9 ⟨v', Q, rfl, hq, hpl, hb9⟩; obtain ⟨qa, qc, hqv, -⟩ := hq.open; subst hqv; have HB9 := Lib.hid hb9; have HCm := Lib.hid (to_cmdr (HCw.out.below (bel_trans HR8.out.bel hb9)) HL.out hq hpl); clear hq hpl hb9)
          | (go_at_call 17; refine (HDo.out _ _ _ HB9.out HCm.out).mono ?_; rintro e w10 ⟨rfl, S2, hc10, hS10, ht10⟩; have HC10 := Lib.hid hc10; have HS10 := Lib.hid hS10; have HT10 := Lib.hid ht10; clear hc10 hS10 ht10)
          | fail)
        clear x0 x1 x2 x3 x4 x5 x6 x7 x8 x9
        clear HLt HTo HDo
        have HR10 : Hid (Rn w w10 S2 c C2 (k + 1)) := Lib.hid (by
          have h1 := HR8.out.done HB9.out (m := ⟨kd, dd, ⟨aw, at1, am⟩, ys, tk, nn, id, ws⟩) (S' := S2) (W' := w10) (by rw [Hz.out]; exact HC10.out) HS10.out HT10.out
          rw [Hz.out] at h1
          exact h1)
        have HW10 := Lib.hid (blk_keep HT10.out (HW8.out.next HB9.out) HnS.out.1)
        have HC10b := Lib.hid (blk_keep HT10.out (HC8.out.next HB9.out) HnS.out.2)
        have HX10 := Lib.hid (blk_keep HT10.out ((HX3.out.next HB8.out).next HB9.out) Hng.out)
        have HY11 := Lib.hid (Blk.new w10 #[.int .i64 ze, .int .u32 zd, .int .i64 zs, .int .i64 zw, .int .u32 zt, .int .u32 zm] 46)
        have HB11 := Lib.hid (below_alloc w10 (.cells #[.int .i64 ze, .int .u32 zd, .int .i64 zs, .int .i64 zw, .int .u32 zt, .int .u32 zm] 46))
        generalize w10.alloc (.cells #[.int .i64 ze, .int .u32 zd, .int .i64 zs, .int .i64 zw, .int .u32 zt, .int .u32 zm] 46) = w11 at HY11 HB11 ⊢
        generalize w10.heap.size = gr at HY11 ⊢
        have HR11 := Lib.hid (HR10.out.next HB11.out)
        have HW11 := Lib.hid (HW10.out.next HB11.out)
        have HC11 := Lib.hid (HC10b.out.next HB11.out)
        have HX11 := Lib.hid (HX10.out.next HB11.out)
        have y0 : w11.cell? ⟨gr, 0, none⟩ = some (.int .i64 ze) := HY11.out.cell 0
        by_cases hze : ze = 0
        · have e0 : (ze != 0) = false := by rw [hze]; rfl
          have HZe := Lib.hid hze
          clear hze
          go_upto_region 12 with fail
          clear y0 e0
          by_cases h3 : kd = 3
          · subst h3
            cases ok with
            | true => as_aux_lemma =>
              have x0 : w11.cell? ⟨g7, 0, none⟩ = some (.int .i64 3) := HX11.out.cell 0
              go_wp2_with fail
              go_roundw
              case rel => exact ⟨k + 1, S2, C2, by have := Hlt.out; omega, by go_num, by have := H60.out; omega, HR11⟩
              case measure => have := Hlt.out; simp [intOf]; omega
            | false => as_aux_lemma =>
              have HF : Hid (zs = 1 ∧ C.closed.lt ⟨zw, zt, zm⟩ ∧ zm = dd ∧ ¬ (⟨zw, zt, zm⟩ : Tm).lt ⟨aw, at1, dd⟩) := Lib.hid (by
                have h3 := do_prepare C (m := ⟨3, dd, ⟨aw, at1, am⟩, ys, tk, nn, id, ws⟩) rfl
                have h4 := behind_prepare (c := C) HR8.out.cel.inv ⟨3, dd, ⟨aw, at1, am⟩, ys, tk, nn, id, ws⟩ HCw.out.ok (HDd.out.1 rfl) (by rw [← h3, Hz.out]; exact HZe.out)
                rw [← h3, Hz.out] at h4
                exact h4)
              have q1 : (zs != 1) = false := by rw [HF.out.1]; rfl
              have HCm1 := Lib.hid (fun W => compare_any ⟨zw, zt, zm⟩ C.closed W)
              have HCm2 := Lib.hid (fun W => compare_any ⟨zw, zt, zm⟩ ⟨aw, at1, dd⟩ W)
              unfold Tm.val at HCm1 HCm2
              simp only at HCm1 HCm2
              have q2 : decide (cmpT ⟨zw, zt, zm⟩ C.closed ≤ 0) = false := cmpT_pos HF.out.2.1
              have q3 : decide (cmpT ⟨zw, zt, zm⟩ ⟨aw, at1, dd⟩ < 0) = false := cmpT_ge HF.out.2.2.2
              generalize cmpT ⟨zw, zt, zm⟩ C.closed = z1 at HCm1 q2
              generalize cmpT ⟨zw, zt, zm⟩ ⟨aw, at1, dd⟩ = z2 at HCm2 q3
              have q4 : (zm != dd) = false := by rw [HF.out.2.2.1]; simp
              have x0 : w11.cell? ⟨g7, 0, none⟩ = some (.int .i64 3) := HX11.out.cell 0
              have y2 : w11.cell? ⟨gr, 2, none⟩ = some (.int .i64 zs) := HY11.out.cell 2
              have y3 : w11.cell? ⟨gr, 3, none⟩ = some (.int .i64 zw) := HY11.out.cell 3
              have y4 : w11.cell? ⟨gr, 4, none⟩ = some (.int .u32 zt) := HY11.out.cell 4
              have y5 : w11.cell? ⟨gr, 5, none⟩ = some (.int .u32 zm) := HY11.out.cell 5
              have v0 : w11.cell? ⟨gc, 0, none⟩ = some (.int .i64 C.closed.wall) := HC11.out.cell 0
              have v1 : w11.cell? ⟨gc, 1, none⟩ = some (.int .u32 C.closed.tick) := HC11.out.cell 1
              have v2 : w11.cell? ⟨gc, 2, none⟩ = some (.int .u32 C.closed.mark) := HC11.out.cell 2
              go_upto_region 14 with (first
                | (go_at_call 26; first
                  | ((with_reducible refine (HCm1.out _).mono ?_); rintro e w12 ⟨rfl, hb12⟩; have HB12 := Lib.hid hb12; have y3 : w12.cell? ⟨gr, 3, none⟩ = some (.int .i64 zw) := (HY11.out.next HB12.out).cell 3; have y4 : w12.cell? ⟨gr, 4, none⟩ = some (.int .u32 zt) := (HY11.out.next HB12.out).cell 4; have y5 : w12.cell? ⟨gr, 5, none⟩ = some (.int .u32 zm) := (HY11.out.next HB12.out).cell 5; have x1 : w12.cell? ⟨g7, 1, none⟩ = some (.int .u32 dd) := (HX11.out.next HB12.out).cell 1; have x2 : w12.cell? ⟨g7, 2, none⟩ = some (.int .i64 aw) := (HX11.out.next HB12.out).cell 2; have x3 : w12.cell? ⟨g7, 3, none⟩ = some (.int .u32 at1) := (HX11.out.next HB12.out).cell 3; clear hb12)
                  | ((with_reducible refine (HCm2.out _).mono ?_); rintro e w13 ⟨rfl, hb13⟩; have HB13 := Lib.hid (bel_trans HB12.out hb13); clear hb13))
                | fail)
              clear x0
              have x0 : w13.cell? ⟨g7, 0, none⟩ = some (.int .i64 3) := (HX11.out.next HB13.out).cell 0
              have HR13 := Lib.hid (HR11.out.next HB13.out)
              go_wp2_with fail
              go_roundw
              case rel => exact ⟨k + 1, S2, C2, by have := Hlt.out; omega, by go_num, by have := H60.out; omega, HR13⟩
              case measure => have := Hlt.out; simp [intOf]; omega
          · have e3 : (kd == 3) = false := bne_of h3
            have x0 : w11.cell? ⟨g7, 0, none⟩ = some (.int .i64 kd) := HX11.out.cell 0
            clear h3
            by_cases h4 : kd = 4
            · subst h4
              cases ok with
              | false => as_aux_lemma =>
                go_wp2_with fail
                go_roundw
                case rel => exact ⟨k + 1, S2, C2, by have := Hlt.out; omega, by go_num, by have := H60.out; omega, HR11⟩
                case measure => have := Hlt.out; simp [intOf]; omega
              | true => as_aux_lemma =>
                go_upto_region 14 with fail
                have HF : Hid (ws0 = 1 → zs = 2 → ¬ (⟨zw, zt, zm⟩ : Tm).lt ⟨ww, wt, wm⟩ ∧ zm = dd) := Lib.hid (fun h1 h2 => by
                  obtain ⟨d, hf, hd1, hd2⟩ := HDd.out.2 rfl
                  have h3 := do_resolve C (m := ⟨4, dd, ⟨aw, at1, am⟩, ys, tk, nn, id, ws⟩) rfl
                  have h4 := behind_resolve (c := C) ⟨4, dd, ⟨aw, at1, am⟩, ys, tk, nn, id, ws⟩ hf (hd1.trans h1) (by rw [← h3, Hz.out]; exact HZe.out) (by rw [← h3, Hz.out]; exact h2)
                  rw [← h3, Hz.out] at h4
                  rw [← hd2]
                  exact h4)
                have y2 : w11.cell? ⟨gr, 2, none⟩ = some (.int .i64 zs) := HY11.out.cell 2
                have u2 : w11.cell? ⟨gw, 2, none⟩ = some (.int .i64 ws0) := HW11.out.cell 2
                by_cases hs1 : ws0 = 1
                · have q1 : (ws0 == 1) = true := by rw [hs1]; rfl
                  by_cases hs2 : zs = 2
                  · have q2 : (zs == 2) = true := by rw [hs2]; rfl
                    have HCm1 := Lib.hid (fun W => compare_any ⟨zw, zt, zm⟩ ⟨ww, wt, wm⟩ W)
                    unfold Tm.val at HCm1
                    simp only at HCm1
                    have q3 : decide (cmpT ⟨zw, zt, zm⟩ ⟨ww, wt, wm⟩ < 0) = false := cmpT_ge (HF.out hs1 hs2).1
                    generalize cmpT ⟨zw, zt, zm⟩ ⟨ww, wt, wm⟩ = z1 at HCm1 q3
                    have q4 : (zm != dd) = false := by rw [(HF.out hs1 hs2).2]; simp
                    clear hs1 hs2
                    have y3 : w11.cell? ⟨gr, 3, none⟩ = some (.int .i64 zw) := HY11.out.cell 3
                    have y4 : w11.cell? ⟨gr, 4, none⟩ = some (.int .u32 zt) := HY11.out.cell 4
                    have y5 : w11.cell? ⟨gr, 5, none⟩ = some (.int .u32 zm) := HY11.out.cell 5
                    have u3 : w11.cell? ⟨gw, 3, none⟩ = some (.int .i64 ww) := HW11.out.cell 3
                    have u4 : w11.cell? ⟨gw, 4, none⟩ = some (.int .u32 wt) := HW11.out.cell 4
                    have u5 : w11.cell? ⟨gw, 5, none⟩ = some (.int .u32 wm) := HW11.out.cell 5
                    go_wp2_with (first
                      | (go_at_call 26; refine (HCm1.out _).mono ?_; rintro e w12 ⟨rfl, hb12⟩; have HB12 := Lib.hid hb12; have y5 : w12.cell? ⟨gr, 5, none⟩ = some (.int .u32 zm) := (HY11.out.next HB12.out).cell 5; have x1 : w12.cell? ⟨g7, 1, none⟩ = some (.int .u32 dd) := (HX11.out.next HB12.out).cell 1; clear hb12)
                      | fail)
                    have HR12 := Lib.hid (HR11.out.next HB12.out)
                    go_roundw
                    case rel => exact ⟨k + 1, S2, C2, by have := Hlt.out; omega, by go_num, by have := H60.out; omega, HR12⟩
                    case measure => have := Hlt.out; simp [intOf]; omega
                  · have q2 : (zs == 2) = false := bne_of hs2
                    clear hs2 hs1
                    go_wp2_with fail
                    go_roundw
                    case rel => exact ⟨k + 1, S2, C2, by have := Hlt.out; omega, by go_num, by have := H60.out; omega, HR11⟩
                    case measure => have := Hlt.out; simp [intOf]; omega
                · have q1 : (ws0 == 1) = false := bne_of hs1
                  clear hs1
                  go_wp2_with fail
                  go_roundw
                  case rel => exact ⟨k + 1, S2, C2, by have := Hlt.out; omega, by go_num, by have := H60.out; omega, HR11⟩
                  case measure => have := Hlt.out; simp [intOf]; omega
            · have e4 : (kd == 4) = false := bne_of h4
              clear h4
              go_wp2_with fail
              go_roundw
              case rel => exact ⟨k + 1, S2, C2, by have := Hlt.out; omega, by go_num, by have := H60.out; omega, HR11⟩
              case measure => have := Hlt.out; simp [intOf]; omega
        · have e0 : (ze != 0) = true := by simpa using hze
          clear hze
          go_wp2_with fail
          go_roundw
          case rel => exact ⟨k + 1, S2, C2, by have := Hlt.out; omega, by go_num, by have := H60.out; omega, HR11⟩
          case measure => have := Hlt.out; simp [intOf]; omega
      · go_wp2_with (first
          | (go_at_call 16; refine (HLt.out _ (bel_refl _)).mono ?_; rintro e w4 ⟨hs4, hb4⟩; obtain ⟨z, rfl, hz⟩ := says_out hs4; have hzf : z = false := (by cases z with | false => rfl | true => exact absurd (hz.1 rfl) hl); subst hzf; have HB4 := Lib.hid hb4; clear hs4 hz hb4)
          | fail)
        go_ret
        exact ⟨rfl, bel_trans HR3.out.bel HB4.out⟩
    · obtain rfl : k = L.length := by omega
      go_wp2_with fail
      go_ret
      exact ⟨rfl, HR.out.bel⟩
end Go.Proofs.YtbaflgddpciadaaGreat
