/- The document's Open (15). -/
import Derived.Test.YtokmiphgalpahaaV5
import Derived.Test.YtokmiphgalpahaaV8
import Derived.Test.YtokmiphgalpahaaVG
import Derived.Test.YtokmiphgalpahaaX6
namespace Go.Proofs.Ytokmiphgalpahaa
open Go.RowKit Go.Kt
set_option maxRecDepth 100000
variable {F G K : Nat → Prop} {w w' w0 w1 w2 W : World} {m rb : Nat} {P : Pd}

/-- what the document's Open returns -/
def ROpenRet (K : Nat → Prop) (w : World) (m : Nat) (r : Int × Option Opn × Pd) (e : Ending) : Prop := match r.2.1 with
  | none => e = .returned (.tuple #[.pointer none, .int .i64 r.1])
  | some o => ∃ rb bv rv, e = .returned (.tuple #[.pointer (some ⟨rb, 0, none⟩), .int .i64 0]) ∧ K rb ∧ Blk w rb #[.pointer (some ⟨m, 0, none⟩), .int .i64 o.seg, bv, rv] 52 ∧ In8 K w bv o.base ∧ OwnBs K w rv o.recs
/-- what it does -/
def ROpenIs (G : Nat → Prop) (w : World) (m : Nat) (P : Pd) (e : Ending) (w' : World) : Prop :=
  ∃ K G' : Nat → Prop, ROpenRet K w' m (openW P) e ∧ RAt G' w' m (openW P).2.2 ∧ (∀ x, G' x → Plus G w w' x ∧ ¬ K x) ∧ (∀ x, K x → w.heap.size ≤ x ∧ x < w'.heap.size) ∧ Turn G w w'
theorem ropen_dn (h : RAt G w m P) (hd : P.down = true) : Calls Try.prog 15 #[.pointer (some ⟨m, 0, none⟩)] w (ROpenIs G w m P) := by
  have H := Lib.hid h
  obtain ⟨lv, rs, hR⟩ := h
  obtain ⟨c0, c1, c2, c3⟩ := hR.cell
  rw [hd] at c3
  have HO : Hid (openW P = (5, none, P)) := Lib.hid (by unfold openW; rw [if_pos hd])
  clear hR
  go_enter Try.func15, Try.ntmps15
  go_wp2_with fail
  go_ret2
  refine ⟨fun _ => False, G, ?_, ?_, fun x hx => ⟨.inl hx, id⟩, fun x hx => hx.elim, Turn.refl _ _⟩
  · rw [HO.out]; rfl
  · rw [HO.out]; exact H.out
/-- the number behind the first k segments -/
def segAt (P : Pd) (k : Nat) : Int := match k with
  | 0 => 1
  | k + 1 => match P.L[k]? with
    | some p => p.n + 1
    | none => 1
theorem segAt_all (P : Pd) : segAt P P.L.length = nextW P := by
  by_cases h0 : P.L.length = 0
  · rw [h0, nextW_nil (List.eq_nil_of_length_eq_zero h0)]; rfl
  · obtain ⟨p, hp⟩ : ∃ p, P.L[P.L.length - 1]? = some p := ⟨P.L[P.L.length - 1], List.getElem?_eq_getElem (by omega)⟩
    rw [nextW_last hp]
    have e : P.L.length = (P.L.length - 1) + 1 := by omega
    rw [e]
    simp only [segAt]
    rw [hp]
theorem nextW_le (hok : PdN 4611686018427387903 P) : nextW P ≤ 4611686018427387904 := by
  cases h : P.L.getLast? with
  | none => unfold nextW; rw [h]; simp
  | some p =>
    have h1 := hok.2 p (List.mem_of_getLast? h)
    unfold nextW
    rw [h]
    simp only
    omega
theorem blk_set2' {g : Nat} {a b c e u : Value} {t : TypeId} (h : Blk w g #[a, b, c, e] t) : Blk (w.setCell ⟨g, 2, none⟩ u) g #[a, b, u, e] t := h.set 2 u
theorem blk_set3' {g : Nat} {a b c e u : Value} {t : TypeId} (h : Blk w g #[a, b, c, e] t) : Blk (w.setCell ⟨g, 3, none⟩ u) g #[a, b, c, u] t := h.set 3 u
set_option maxHeartbeats 4000000 in
theorem ropen_up (h : RAt G w m P) (hd : P.down = false) (hok : PdN 4611686018427387903 P) : Calls Try.prog 15 #[.pointer (some ⟨m, 0, none⟩)] w (ROpenIs G w m P) := by
  have HD := Lib.hid h.tight
  obtain ⟨lv, rs, hR⟩ := h.tight
  have HR := Lib.hid hR
  obtain ⟨la, lc, rfl⟩ := hR.form
  obtain ⟨c0, c1, c2, c3⟩ := hR.cell
  rw [hd] at c3
  have Hok := Lib.hid hok
  have hlen : rs.length ≤ 1024 := by rw [hR.len]; exact hok.1.len
  have Hrl : Hid (rs.length = P.L.length) := Lib.hid hR.len
  have Hseg : Hid (∀ (W : World) (i : Nat) (r : RS), Below w.heap.size w W → rs[i]? = some r → ∃ g, la = some ⟨g, 0, none⟩ ∧ W.cell? ⟨g, i * 4, none⟩ = some (.int .i64 r.n)) := Lib.hid (fun W i r hb hr => by
    obtain ⟨g, cap, e, k0, _⟩ := (HR.out.next hb).seg hr
    cases e
    exact ⟨g, rfl, k0⟩)
  have Heq := Lib.hid hR.eq
  have Hcell : Hid (∀ W, Below w.heap.size w W → W.cell? ⟨m, 1, none⟩ = some (.slice la rs.length lc)) := Lib.hid (fun W hb => (HR.out.next hb).cell.2.1)
  have HO : Hid (openW P = match wholeP P with
    | some (p, s) => (0, some ⟨p.n, s.base, s.recs⟩, P)
    | none =>
      if (layW P (nextW P) (wholeW (anewW P).1 (anewW P).2) (numsP P)).1 ≠ 0 then ((layW P (nextW P) (wholeW (anewW P).1 (anewW P).2) (numsP P)).1, none, (layW P (nextW P) (wholeW (anewW P).1 (anewW P).2) (numsP P)).2)
      else (0, some ⟨nextW P, (anewW P).1, (anewW P).2⟩, (layW P (nextW P) (wholeW (anewW P).1 (anewW P).2) (numsP P)).2)) := Lib.hid (by unfold openW; rw [if_neg (by rw [hd]; simp)]; rfl)
  have HBy : Hid (∀ (W : World) (i : Nat) (r : RS), Below w.heap.size w W → rs[i]? = some r → Calls Try.prog 34 #[.pointer (some ⟨m, 0, none⟩), .int .i64 (i : Int)] W fun e w' => ∃ v, e = .returned v ∧ Mine8 5 W w' v r.pg.b ∧ Below W.heap.size W w') := Lib.hid (fun W i r hb hr => bytes_ref (HR.out.next hb) Hok.out.1 hr)
  have Hng : Hid (∀ (k : Nat) (p : Pg), P.L[k]? = some p → (numsP P)[k]? = some p.n) := Lib.hid (fun k p hk => by simp [numsP, hk])
  clear h hd hok hR
  go_enter Try.func15, Try.ntmps15
  go_upto_block 0 with (fail)
  go_cut [5] (fun hv wc => ∃ ha hc, hv = .slice ha P.L.length hc ∧ Hid (RdZ wc (.slice ha P.L.length hc) (numsP P)) ∧ Hid (∀ x, (Value.slice ha P.L.length hc).ownBlock = some x → w.heap.size < x ∧ x < wc.heap.size) ∧ Hid (Blk wc w.heap.size #[.pointer (some ⟨m, 0, none⟩), .int .i64 (nextW P), .slice none 0 0, .slice none 0 0] 52) ∧ Hid (Below w.heap.size w wc))
  case first =>
    go_wp2_with fail
    go_loopw [5, 6] (fun hv iv wr => ∃ k : Nat, k ≤ rs.length ∧ iv = .int .i64 k ∧ Hid (Own 3 1 wr hv k (((numsP P).take k).map encZ)) ∧ Hid (∀ x, hv.ownBlock = some x → w.heap.size < x) ∧ Hid (Blk wr w.heap.size #[.pointer (some ⟨m, 0, none⟩), .int .i64 (segAt P k), .slice none 0 0, .slice none 0 0] 52) ∧ Hid (Below w.heap.size w wr)) (fun _ iv _ => rs.length - (intOf iv).toNat)
    case atStart => exact ⟨0, by omega, rfl, Lib.hid (by simpa using own_nil _ 3 1), Lib.hid (fun x hx => by cases hx), Lib.hid (Blk.new w _ 52), Lib.hid (below_alloc w _)⟩
    case round =>
      obtain ⟨k, hk, rfl, HO3, HG3, HB3, HX3⟩ := hrel
      by_cases hlt : k < rs.length
      · obtain ⟨r, hr⟩ : ∃ r, rs[k]? = some r := ⟨rs[k], List.getElem?_eq_getElem hlt⟩
        have hp : P.L[k]? = some r.pg := by rw [← Heq.out, List.getElem?_map, hr]; rfl
        have hpm := List.mem_of_getElem? hp
        have hrn : r.n ≤ 4611686018427387903 := Hok.out.2 r.pg hpm
        have hr1 : 1 ≤ r.n := (Hok.out.1.seg r.pg hpm).2.1
        have Htk : Hid ((numsP P).take (k + 1) = (numsP P).take k ++ [r.n]) := Lib.hid (by
          have hz : (numsP P)[k]? = some r.n := by simp [numsP, hp, RS.pg]
          obtain ⟨q1, q2⟩ := List.getElem?_eq_some_iff.1 hz
          rw [List.take_succ_eq_append_getElem q1, q2])
        have Hsg : Hid (segAt P (k + 1) = r.n + 1) := Lib.hid (by simp only [segAt]; rw [hp]; rfl)
        obtain ⟨g, rfl, k0⟩ := Hseg.out wr k r HX3.out hr
        have kl := Hcell.out wr HX3.out
        have Hr := Lib.hid hr
        clear hr hp
        go_wp2_with (at_builtin; apply Hold.mk)
        unfold Hold
        refine wpList_app rfl _ _ 36 rfl ok29 (by rfl) (by rfl) (Own.below' HO3.out (below_alloc wr _)) (own_lit wr 3 1 #[.int .i64 r.n] 1 (by simp [maxLen]) rfl).rd (by intro u hu; simp at hu; subst hu; rfl) (by simp only [maxLen]; omega) (by omega) ?_
        intro v7 w7 ho7 hg7 hn7
        have hs7 : wr.heap.size < w7.heap.size := by have := hg7.size; simp at this; omega
        have hsw : w.heap.size < wr.heap.size := HB3.out.lt
        have HX7 : Hid (Below w.heap.size w w7) := Lib.hid ((HX3.out.alloc HX3.out.size _).grown hg7 (by simp; omega) (fun x hx => by have := HG3.out x hx; omega))
        have HB7 : Hid (Blk w7 w.heap.size #[.pointer (some ⟨m, 0, none⟩), .int .i64 (segAt P k), .slice none 0 0, .slice none 0 0] 52) := Lib.hid ((HB3.out.next (below_alloc wr _)).grown hg7 (fun e => by have := HG3.out _ e; omega))
        have HG7 : Hid (∀ x, v7.ownBlock = some x → w.heap.size < x) := Lib.hid (fun x hx => by
          rcases hn7 x hx with h | h
          · exact HG3.out x h
          · simp at h; omega)
        have HO7 : Hid (Own 3 1 w7 v7 (k + 1) (((numsP P).take (k + 1)).map encZ)) := Lib.hid (by rw [Htk.out, List.map_append]; exact ho7)
        have y0 : w7.cell? ⟨w.heap.size, 1, none⟩ = some (.int .i64 (segAt P k)) := HB7.out.cell 1
        have y1 := HB7.out.free 1
        obtain ⟨g', e', k7⟩ := Hseg.out w7 k r HX7.out Hr.out
        cases e'
        have kl7 := Hcell.out w7 HX7.out
        clear ho7 hg7 hn7 k0 kl HO3 HG3 HB3 HX3
        go_wp2_with fail
        go_roundw
        case rel =>
          refine ⟨k + 1, by omega, by go_num, Lib.hid (Own.keep HO7.out (fun x hx => heap_setCell_other _ _ _ _ (fun e => by have := HG7.out x hx; simp only at e; omega))), HG7, Lib.hid ?_, Lib.hid ?_⟩
          · rw [Hsg.out]; exact blk_set4 HB7.out
          · exact HX7.out.setCell (Nat.le_refl _) _
        case measure => simp [intOf]; omega
      · obtain rfl : k = rs.length := by omega
        have kl := Hcell.out wr HX3.out
        obtain ⟨_, ha, hc, e, hh⟩ := HO3.out.rd
        subst e
        go_wp2_with fail
        go_meet
        have hl := Hrl.out
        have htk : (numsP P).take rs.length = numsP P := List.take_of_length_le (by simp [numsP]; omega)
        have ho := HO3.out
        rw [htk] at ho
        refine ⟨ha, hc, by rw [hl], Lib.hid ?_, Lib.hid (fun x hx => ⟨HG3.out x (by rw [hl]; exact hx), Own.lt HO3.out x (by rw [hl]; exact hx)⟩), Lib.hid ?_, HX3⟩
        · unfold RdZ
          have hnl : (numsP P).length = rs.length := by simp [numsP]; omega
          rw [hnl, ← hl]
          exact ho.rd
        · rw [← segAt_all, ← hl]; exact HB3.out
  case rest =>
    obtain ⟨ha, hc, rfl, HZ, HZB, HB1, HX1⟩ := hcut
    have hl := Hrl.out
    have kl := Hcell.out _ HX1.out
    have hs1 := HX1.out.size
    have hrb : w.heap.size < wc.heap.size := HB1.out.lt
    generalize hw1 : wc = w1 at *
    clear hw1
    go_upto_block 2 with (fail)
    go_cut [] (fun wc => ∃ bv rv, Hid (Blk wc w.heap.size #[.pointer (some ⟨m, 0, none⟩), .int .i64 (nextW P), bv, rv] 52) ∧ Hid (Anew w wc P bv rv) ∧ Hid (Turn (· = w.heap.size) w1 wc) ∧ Hid (Below w.heap.size w wc))
    case first =>
      go_wp2_with fail
      go_loopw [7, 8, 9, 10, 11, 12] (fun iv _ _ _ _ _ wr => ∃ k : Nat, k ≤ P.L.length ∧ iv = .int .i64 ((k : Int) - 1) ∧ Hid (findW P = lastF P.L k) ∧ Hid (Blk wr w.heap.size #[.pointer (some ⟨m, 0, none⟩), .int .i64 (nextW P), .slice none 0 0, .slice none 0 0] 52) ∧ Hid (Below w1.heap.size w1 wr)) (fun iv _ _ _ _ _ _ => (intOf iv + 1).toNat)
      case atStart => exact ⟨P.L.length, by omega, by rw [← hl], Lib.hid rfl, HB1, Lib.hid (bel_refl _)⟩
      case round =>
        obtain ⟨k, hk, rfl, HF, HBr, HXr⟩ := hrel
        cases k with
        | zero =>
          have Hf0 : Hid (findW P = none) := Lib.hid HF.out
          go_wp2_with fail
          go_meet
          refine ⟨_, _, HBr, Lib.hid ⟨?_, ?_, ?_, ?_, ?_, ?_⟩, Lib.hid (Turn.of HXr.out), Lib.hid (bel_trans HX1.out HXr.out)⟩
          all_goals first
            | (simp only [anewW, Hf0.out]; first
                | exact in8_nil _ _
                | exact ownBs_nil _ _
                | (simp only [wholeW, recsB, List.length_append, Fm.Fr.sealed_len]; simp)
                | simp)
            | (unfold wholeP; rw [Hf0.out])
        | succ j =>
          obtain ⟨r, hr⟩ : ∃ r, rs[j]? = some r := ⟨rs[j]'(by omega), List.getElem?_eq_getElem (by omega)⟩
          have hp : P.L[j]? = some r.pg := by rw [← Heq.out, List.getElem?_map, hr]; rfl
          have hmem := List.mem_of_getElem? hp
          have hsm := Hok.out.1.small hmem
          have HBw := Lib.hid (bel_trans HX1.out HXr.out)
          have HF1 := Lib.hid (HF.out.trans (lastF_succ hp))
          have Hp0 : Hid (j = 0 → P.L.length = 1 → (numsP P)[0]? = some r.n) := Lib.hid (fun h0 _ => by subst h0; exact Hng.out _ _ hp)
          have i3 : ((j + 1 : Nat) : Int) - 1 = (j : Int) := by omega
          rw [i3]
          have HC := Lib.hid (HBy.out _ j r HBw.out hr)
          have hpn : r.pg.n = r.n := rfl
          rw [← hpn] at Hp0
          clear hpn
          generalize r.pg = p at *
          clear hr hp HF
          go_wp2_with fail
          refine HC.out.mono ?_
          rintro e w3 ⟨bv, rfl, hm3, hb3⟩
          obtain ⟨ba, bc, rfl, hbc, hbb, -, -⟩ := hm3.rd.open
          unfold maxLen at hbb
          have HM3 := Lib.hid hm3
          have HB3 : Hid (Below w1.heap.size w1 w3) := Lib.hid (bel_trans HXr.out hb3)
          clear hm3
          go_wp2_with fail
          refine (refread_any _ p.b _ HM3.out.rd (by omega)).mono ?_
          rintro e w4 ⟨hre, hb4⟩
          have HB4 : Hid (Below w1.heap.size w1 w4) := Lib.hid (bel_trans HB3.out hb4)
          have HB34 : Hid (Below wr.heap.size wr w4) := Lib.hid (bel_trans hb3 hb4)
          have hs1w := HX1.out.size
          cases hst : standsW p.b with
          | none =>
            rw [hst] at hre HF1
            obtain rfl := hre
            have HBk : Hid (Blk w4 w.heap.size #[.pointer (some ⟨m, 0, none⟩), .int .i64 (nextW P), .slice none 0 0, .slice none 0 0] 52) := Lib.hid (HBr.out.next HB34.out)
            go_wp2_with fail
            go_roundw
            case rel => exact ⟨j, by omega, by go_num, HF1, HBk, HB4⟩
            case measure => simp [intOf]
          | some s =>
            rw [hst] at hre HF1
            obtain ⟨pv, rv, rfl, hpv, hrv⟩ := hre
            have hso := stands_ok hst
            have hul := hso.used
            have Hso := Lib.hid hso
            simp only at HF1
            have hsz4 := hb4.size
            have hs13 := HB3.out.size
            have hrbw1 := hrb
            have HPV : Hid (In8 (fun x => w.heap.size < x) w4 pv s.base) := Lib.hid ((in8_mine hpv).more (fun x hx _ => by omega))
            have HRV : Hid (OwnBs (fun x => w.heap.size < x) w4 rv s.recs) := Lib.hid (hrv.more (fun x hx hlt => by omega))
            have HBk : Hid (Blk w4 w.heap.size #[.pointer (some ⟨m, 0, none⟩), .int .i64 (nextW P), .slice none 0 0, .slice none 0 0] 52) := Lib.hid (HBr.out.next HB34.out)
            have Hwh : Hid (wholeP P = if s.used = p.b.length ∧ P.L.length = 1 then some (p, s) else none) := Lib.hid (by unfold wholeP; rw [HF1.out])
            have Han : Hid (anewW P = (s.base, s.recs)) := Lib.hid (by unfold anewW; rw [HF1.out])
            obtain ⟨pa, pc, rfl, -, -, -, -⟩ := HPV.out.rd.open
            obtain ⟨ra, rc, rfl, -, -, -⟩ := HRV.out.rd.open
            have y2 : w4.cell? ⟨w.heap.size, 2, none⟩ = some (.slice none 0 0) := HBk.out.cell 2
            have f2 := HBk.out.free 2
            have HBa := Lib.hid (blk_set2' (u := .slice pa s.base.length pc) HBk.out)
            have y3 : (w4.setCell ⟨w.heap.size, 2, none⟩ (.slice pa s.base.length pc)).cell? ⟨w.heap.size, 3, none⟩ = some (.slice none 0 0) := HBa.out.cell 3
            have f3 := HBa.out.free 3
            have HBb := Lib.hid (blk_set3' (u := .slice ra s.recs.length rc) HBa.out)
            have HTb : Hid (Turn (· = w.heap.size) w4 ((w4.setCell ⟨w.heap.size, 2, none⟩ (.slice pa s.base.length pc)).setCell ⟨w.heap.size, 3, none⟩ (.slice ra s.recs.length rc))) := Lib.hid (((Turn.refl (fun x => x = w.heap.size) w4).set (a := ⟨w.heap.size, 2, none⟩) rfl _).set (a := ⟨w.heap.size, 3, none⟩) rfl _)
            have HXb : Hid (Below w.heap.size w ((w4.setCell ⟨w.heap.size, 2, none⟩ (.slice pa s.base.length pc)).setCell ⟨w.heap.size, 3, none⟩ (.slice ra s.recs.length rc))) := Lib.hid (((bel_trans HX1.out HB4.out).setCell (Nat.le_refl _) _).setCell (Nat.le_refl _) _)
            clear hb3 hb4 hpv hrv hst hso HM3
            go_upto_region 18 with fail
            generalize hw5 : (w4.setCell ⟨w.heap.size, 2, none⟩ (.slice pa s.base.length pc)).setCell ⟨w.heap.size, 3, none⟩ (.slice ra s.recs.length rc) = w5 at *
            have hs45 : w4.heap.size = w5.heap.size := by rw [← hw5]; simp
            have HPV5 := Lib.hid (HPV.out.keep HTb.out (fun x hx e => by omega))
            have HRV5 := Lib.hid (HRV.out.keep HTb.out (fun x hx e => by omega))
            have HT5 : Hid (Turn (· = w.heap.size) w1 w5) := Lib.hid ((Turn.of (F := fun x => x = w.heap.size) HB4.out).trans HTb.out (fun x hx => .inl hx))
            clear y2 f2 y3 f3 HBa HPV HRV HBk hw5
            by_cases hu : s.used = p.b.length
            · by_cases hl1 : P.L.length = 1
              · rw [if_pos ⟨hu, hl1⟩] at Hwh
                obtain rfl : j = 0 := by omega
                have HZ5 : Hid (RdZ w5 (.slice ha P.L.length hc) (numsP P)) := Lib.hid (RdRow.keep HZ.out (fun x hx => HT5.out.block x (HZB.out x hx).2 (fun e => by have := (HZB.out x hx).1; omega)))
                obtain ⟨bb, o, rfl, c5⟩ := rdz_cell HZ5.out (Hp0.out rfl hl1) (bel_refl w5)
                simp only [Nat.add_zero] at c5
                have i0 : (0 : Int) < (P.L.length : Int) := by omega
                have b1 : ((P.L.length : Int) == 1) = true := by rw [beq_iff_eq]; omega
                have b2 : ((s.used : Int) == (p.b.length : Int)) = true := by rw [beq_iff_eq]; omega
                have HOe := HO.out
                rw [Hwh.out] at HOe
                simp only at HOe
                have HOh := Lib.hid HOe
                clear HOe
                have z1 : w5.cell? ⟨w.heap.size, 1, none⟩ = some (.int .i64 (nextW P)) := HBb.out.cell 1
                have g1 := HBb.out.free 1
                go_wp2_with fail
                go_ret2
                have HB6 := blk_set4 (u := .int .i64 p.n) HBb.out
                have HT6 : Turn (· = w.heap.size) w5 (w5.setCell ⟨w.heap.size, 1, none⟩ (.int .i64 p.n)) := (Turn.refl (fun x => x = w.heap.size) w5).set (a := ⟨w.heap.size, 1, none⟩) rfl _
                have HX6 : Below w.heap.size w (w5.setCell ⟨w.heap.size, 1, none⟩ (.int .i64 p.n)) := HXb.out.setCell (Nat.le_refl _) _
                refine ⟨fun x => w.heap.size ≤ x ∧ x < w5.heap.size, fun x => G x ∧ x < w.heap.size, ?_, ?_, fun x hx => ⟨.inl hx.1, fun hk => by omega⟩, fun x hx => ?_, Turn.of HX6⟩
                · rw [HOh.out]
                  refine ⟨_, _, _, rfl, ⟨Nat.le_refl _, by omega⟩, HB6, ?_, ?_⟩
                  · exact (HPV5.out.keep HT6 (fun x hx e => by omega)).more (fun x hx hl => ⟨by omega, by simpa using hl⟩)
                  · exact (HRV5.out.keep HT6 (fun x hx e => by omega)).more (fun x hx hl => ⟨by omega, by simpa using hl⟩)
                · rw [HOh.out]
                  exact HD.out.next HX6
                · simpa using hx
              · rw [if_neg (fun h => hl1 h.2)] at Hwh
                have b1 : ((P.L.length : Int) == 1) = false := by rw [beq_eq_false_iff_ne]; omega
                have b2 : ((s.used : Int) == (p.b.length : Int)) = true := by rw [beq_iff_eq]; omega
                go_wp2_with fail
                go_meet
                exact ⟨_, _, HBb, Lib.hid (anew_of Han.out Hwh.out Hso.out hsm (HPV5.out.more (fun x hx hl => ⟨by omega, hl⟩)) (HRV5.out.more (fun x hx hl => ⟨by omega, hl⟩))), HT5, HXb⟩
            · rw [if_neg (fun h => hu h.1)] at Hwh
              have b2 : ((s.used : Int) == (p.b.length : Int)) = false := by rw [beq_eq_false_iff_ne]; omega
              go_wp2_with fail
              go_meet
              exact ⟨_, _, HBb, Lib.hid (anew_of Han.out Hwh.out Hso.out hsm (HPV5.out.more (fun x hx hl => ⟨by omega, hl⟩)) (HRV5.out.more (fun x hx hl => ⟨by omega, hl⟩))), HT5, HXb⟩
    case rest =>
      obtain ⟨bv, rv, HBk, HA, HTc, HXc⟩ := hcut
      generalize hwq : wc = wq at *
      clear hwq
      have hsc := HTc.out.size
      have hs1w := HX1.out.size
      have hslt := HBk.out.lt
      have HZc : Hid (RdZ wq (.slice ha P.L.length hc) (numsP P)) := Lib.hid (RdRow.keep HZ.out (fun x hx => HTc.out.block x (HZB.out x hx).2 (fun e => by have := (HZB.out x hx).1; omega)))
      have HDc : Hid (RAt (fun x => G x ∧ x < w.heap.size) wq m P) := Lib.hid (HD.out.next HXc.out)
      obtain ⟨pa, pc, rfl, -, -, -, -⟩ := HA.out.first.rd.open
      obtain ⟨ra, rc, rfl, -, -, -⟩ := HA.out.recs.rd.open
      have HOe := HO.out
      rw [HA.out.no] at HOe
      simp only at HOe
      have HX : Hid (∀ W, Below wq.heap.size wq W → W.cell? ⟨w.heap.size, 1, none⟩ = some (.int .i64 (nextW P)) ∧ W.cell? ⟨w.heap.size, 2, none⟩ = some (.slice pa (anewW P).1.length pc) ∧ W.cell? ⟨w.heap.size, 3, none⟩ = some (.slice ra (anewW P).2.length rc)) := Lib.hid (fun W hb => ⟨(HBk.out.next hb).cell 1, (HBk.out.next hb).cell 2, (HBk.out.next hb).cell 3⟩)
      have HS : Hid (∀ W, Below wq.heap.size wq W → Calls Try.prog 36 #[.slice pa (anewW P).1.length pc, .slice ra (anewW P).2.length rc] W fun e w' => ∃ v', e = .returned v' ∧ Mine8 5 W w' v' (wholeW (anewW P).1 (anewW P).2) ∧ Below W.heap.size W w') := Lib.hid (fun W hb => refwhole_any _ _ _ _ W (HA.out.first.next hb).rd (HA.out.recs.next hb).rd HA.out.base HA.out.all HA.out.len)
      have HAp : Hid (∀ (W3 W : World) (v : Value), Below wq.heap.size wq W3 → Mine8 5 wq W3 v (wholeW (anewW P).1 (anewW P).2) → Below W3.heap.size W3 W → Calls Try.prog 30 #[.pointer (some ⟨m, 0, none⟩), .int .i64 (nextW P), v] W (RDone (fun x => G x ∧ x < w.heap.size) wq m (P.app (nextW P) (wholeW (anewW P).1 (anewW P).2)))) := Lib.hid (fun W3 W v h1 h2 h3 => rapp_of HDc.out Hok.out.1 (nextW P) h1 h2 h3)
      have HT : Hid (∀ W, Turn (fun x => G x ∧ x < w.heap.size) wq W → Blk W w.heap.size #[.pointer (some ⟨m, 0, none⟩), .int .i64 (nextW P), .slice pa (anewW P).1.length pc, .slice ra (anewW P).2.length rc] 52) := Lib.hid (fun W ht => blkT HBk.out ht (fun h => by omega))
      have HTz : Hid (∀ W, Turn (fun x => G x ∧ x < w.heap.size) wq W → RdZ W (.slice ha P.L.length hc) (numsP P)) := Lib.hid (fun W ht => RdRow.keep HZc.out (fun x hx => ht.block x (by have := (HZB.out x hx).2; omega) (fun e => by have := (HZB.out x hx).1; omega)))
      have HT8 : Hid (∀ W, Turn (fun x => G x ∧ x < w.heap.size) wq W → In8 (fun x => w.heap.size ≤ x ∧ x < wq.heap.size) W (.slice pa (anewW P).1.length pc) (anewW P).1) := Lib.hid (fun W ht => (HA.out.first.more (fun x hx hl => ⟨hx, hl⟩)).keep ht (fun x hx e => by omega))
      have HTb : Hid (∀ W, Turn (fun x => G x ∧ x < w.heap.size) wq W → OwnBs (fun x => w.heap.size ≤ x ∧ x < wq.heap.size) W (.slice ra (anewW P).2.length rc) (anewW P).2) := Lib.hid (fun W ht => (HA.out.recs.more (fun x hx hl => ⟨hx, hl⟩)).keep ht (fun x hx e => by omega))
      have Hend : Hid (∀ W, Turn (fun x => G x ∧ x < w.heap.size) wq W → Turn G w W) := Lib.hid (fun W ht => (Turn.of (F := G) HXc.out).trans (ht.mono (fun x hx => hx.1)) (fun x hx => .inl hx))
      have hPL : (numsP P).length = P.L.length := by simp [numsP]
      have HL : Hid (layW P (nextW P) (wholeW (anewW P).1 (anewW P).2) (numsP P) = if (P.app (nextW P) (wholeW (anewW P).1 (anewW P).2)).1 ≠ 0 then P.app (nextW P) (wholeW (anewW P).1 (anewW P).2) else if ((P.app (nextW P) (wholeW (anewW P).1 (anewW P).2)).2.sync (nextW P)).1 ≠ 0 then (P.app (nextW P) (wholeW (anewW P).1 (anewW P).2)).2.sync (nextW P) else dropsW ((P.app (nextW P) (wholeW (anewW P).1 (anewW P).2)).2.sync (nextW P)).2 (numsP P)) := Lib.hid rfl
      have hnx := nextW_le Hok.out
      have hok0 : PdN 4611686018427387904 P := ⟨Hok.out.1, fun p hp => by have := Hok.out.2 p hp; omega⟩
      have Hok1 : Hid (PdN 4611686018427387904 (P.app (nextW P) (wholeW (anewW P).1 (anewW P).2)).2) := Lib.hid (hok0.app hnx (by omega) _)
      have HOw := Lib.hid HOe
      obtain ⟨x1, x2, x3⟩ := HX.out wq (bel_refl wq)
      have hx1 := bel_refl wq
      generalize layW P (nextW P) (wholeW (anewW P).1 (anewW P).2) (numsP P) = R at *
      generalize (wholeW (anewW P).1 (anewW P).2) = all at *
      generalize P.app (nextW P) all = r1 at *
      generalize (anewW P).1 = base at *
      generalize (anewW P).2 = recs at *
      generalize nextW P = n at *
      clear HOe HO HA hok0 HDc
      go_upto_region 21 with fail
      go_region_held3 (fun w' => w'.cell? ⟨w.heap.size, 1, none⟩ = some (.int .i64 n) ∧ w'.cell? ⟨w.heap.size, 2, none⟩ = some (.slice pa base.length pc) ∧ w'.cell? ⟨w.heap.size, 3, none⟩ = some (.slice ra recs.length rc))
        (first | go_keep | exact y1 | exact y2 | exact y3 | exact ⟨y1, y2, y3⟩ | exact HX.out _ (by repeat (first | assumption | apply bel_alloc | apply bel_drew | apply bel_drewN)) | exact (HX.out _ (by repeat (first | assumption | apply bel_alloc | apply bel_drew | apply bel_drewN))).1 | exact (HX.out _ (by repeat (first | assumption | apply bel_alloc | apply bel_drew | apply bel_drewN))).2.1 | exact (HX.out _ (by repeat (first | assumption | apply bel_alloc | apply bel_drew | apply bel_drewN))).2.2)
        (first
          | (go_at_call 36; refine (HS.out _ (by repeat (first | assumption | apply bel_alloc | apply bel_drew | apply bel_drewN))).mono ?_; rintro e w3 ⟨sv, rfl, hm, hb3⟩; have hx3 : Below wq.heap.size wq w3 := bel_trans (by repeat (first | assumption | apply bel_alloc | apply bel_drew | apply bel_drewN)) hb3; have HM3 : Hid (Mine8 5 wq w3 sv all) := Lib.hid (hm.since (Below.size (by repeat (first | assumption | apply bel_alloc | apply bel_drew | apply bel_drewN)))); have hy3 := bel_refl w3; clear hm hb3)
          | (go_at_call 30; refine (HAp.out _ _ _ hx3 HM3.out (by repeat (first | assumption | apply bel_alloc | apply bel_drew | apply bel_drewN))).mono ?_; rintro e w4 ⟨rfl, hD4, hT4⟩; have HD4 := Lib.hid hD4; have HT4 := Lib.hid hT4; have y1 : w4.cell? ⟨w.heap.size, 1, none⟩ = some (.int .i64 n) := (HT.out _ hT4).cell 1; have y2 : w4.cell? ⟨w.heap.size, 2, none⟩ = some (.slice pa base.length pc) := (HT.out _ hT4).cell 2; have y3 : w4.cell? ⟨w.heap.size, 3, none⟩ = some (.slice ra recs.length rc) := (HT.out _ hT4).cell 3; clear hD4 hT4))
      have HB4 := Lib.hid (HT.out _ HT4.out)
      clear x1 x2 x3
      go_upto_if 116 with (fail)
      go_cut [13] (fun ev wd => ∃ r2 : Int × Pd, ev = .int .i64 r2.1 ∧ Hid (R = if r2.1 ≠ 0 then r2 else dropsW r2.2 (numsP P)) ∧ Hid (RAt (Plus (fun x => G x ∧ x < w.heap.size) wq wd) wd m r2.2) ∧ Hid (Turn (fun x => G x ∧ x < w.heap.size) wq wd) ∧ Hid (PdN 4611686018427387904 r2.2))
      case first =>
        by_cases h1 : r1.1 = 0
        · rw [if_neg (by omega)] at HL
          have b1 : (r1.1 == 0) = true := by rw [beq_iff_eq]; exact h1
          go_wp2_with fail
          refine (rsync_of HD4.out Hok1.out.1 n (bel_refl _)).mono ?_
          rintro e w5 hd5
          obtain ⟨rfl, hD5, hT5⟩ := rdone_next HT4.out hd5
          have HD5 := Lib.hid hD5
          have HT5 := Lib.hid hT5
          have HN5 := Lib.hid (Hok1.out.sync n)
          generalize r1.2.sync n = r2 at *
          clear hd5 hD5 hT5
          go_wp2_with fail
          go_meet
          exact ⟨r2, rfl, HL, HD5, HT5, HN5⟩
        · rw [if_pos h1] at HL
          have b1 : (r1.1 == 0) = false := by rw [beq_eq_false_iff_ne]; exact h1
          go_wp2_with fail
          go_meet
          exact ⟨r1, rfl, by rw [if_pos h1]; exact HL, HD4, HT4, Hok1⟩
      case rest =>
        obtain ⟨r2, rfl, HQ2, HD2, HT2, HN2⟩ := hcut
        clear HB4 HT4 HD4 HL Hok1 HM3 HAp HS HX
        go_wp2_with fail
        go_loopw [13, 14] (fun ev iv wr => ∃ (k : Nat) (q : Int × Pd), k ≤ P.L.length ∧ ev = .int .i64 q.1 ∧ iv = .int .i64 k ∧ Hid (R = if q.1 ≠ 0 then q else dropsW q.2 ((numsP P).drop k)) ∧ Hid (RAt (Plus (fun x => G x ∧ x < w.heap.size) wq wr) wr m q.2) ∧ Hid (Turn (fun x => G x ∧ x < w.heap.size) wq wr) ∧ Hid (PdN 4611686018427387904 q.2)) (fun _ iv _ => P.L.length - (intOf iv).toNat)
        case atStart => exact ⟨0, r2, by omega, rfl, rfl, by simpa using HQ2, HD2, HT2, HN2⟩
        case round =>
          clear HD2 HT2 HN2 HQ2
          obtain ⟨k, q, hk, rfl, rfl, HQ, HDq, HTq, HNq⟩ := hrel
          by_cases h0 : q.1 = 0
          · rw [if_neg (by omega)] at HQ
            have b0 : (q.1 == 0) = true := by rw [beq_iff_eq]; exact h0
            by_cases hlt : k < P.L.length
            · obtain ⟨z, hz⟩ : ∃ z, (numsP P)[k]? = some z := ⟨(numsP P)[k]'(by omega), List.getElem?_eq_getElem (by omega)⟩
              obtain ⟨bb, o, rfl, c1⟩ := rdz_cell (HTz.out _ HTq.out) hz (bel_refl wr)
              have Hdr : Hid ((numsP P).drop k = z :: (numsP P).drop (k + 1)) := Lib.hid (by
                obtain ⟨q1, q2⟩ := List.getElem?_eq_some_iff.1 hz
                rw [List.drop_eq_getElem_cons q1, q2])
              rw [Hdr.out, dropsW_cons] at HQ
              clear hz
              go_wp2_with fail
              refine (rdrop_of HDq.out HNq.out.1 z (bel_refl _)).mono ?_
              rintro e w5 hd5
              obtain ⟨rfl, hD5, hT5⟩ := rdone_next HTq.out hd5
              have HD5 := Lib.hid hD5
              have HT5 := Lib.hid hT5
              have HN5 := Lib.hid (HNq.out.drop z)
              generalize q.2.drop z = r3 at *
              clear hd5 hD5 hT5
              go_wp2_with fail
              go_roundw
              case rel => exact ⟨k + 1, r3, by omega, rfl, by go_num, HQ, HD5, HT5, HN5⟩
              case measure => simp [intOf]; omega
            · obtain rfl : k = P.L.length := by omega
              have b1 : (q.1 != 0) = false := by rw [h0]; rfl
              have HQe : Hid (R = (0, q.2)) := Lib.hid (by rw [HQ.out, ← hPL, List.drop_length]; rfl)
              have HOe := HOw.out
              rw [HQe.out, if_neg (by simp)] at HOe
              have HOh := Lib.hid HOe
              clear HOe
              go_wp2_with fail
              go_ret2
              have hsr := HTq.out.size
              refine ⟨fun x => w.heap.size ≤ x ∧ x < wq.heap.size, Plus (fun x => G x ∧ x < w.heap.size) wq wr, ?_, ?_, fun x hx => ⟨?_, fun hk => ?_⟩, fun x hx => ⟨hx.1, by omega⟩, Hend.out _ HTq.out⟩
              · rw [HOh.out]
                exact ⟨_, _, _, rfl, ⟨Nat.le_refl _, hslt⟩, HT.out _ HTq.out, HT8.out _ HTq.out, HTb.out _ HTq.out⟩
              · rw [HOh.out]
                exact HDq.out
              · rcases hx with h | h
                · exact .inl h.1
                · exact .inr ⟨by omega, h.2⟩
              · rcases hx with h | h <;> omega
          · rw [if_pos h0] at HQ
            have b0 : (q.1 == 0) = false := by rw [beq_eq_false_iff_ne]; exact h0
            have b1 := bne0 h0
            have HOe := HOw.out
            rw [HQ.out, if_pos h0] at HOe
            have HOh := Lib.hid HOe
            clear HOe
            by_cases hlt : k < P.L.length
            all_goals (go_wp2_with fail)
            all_goals go_ret2
            all_goals (
              have hsr := HTq.out.size
              refine ⟨fun _ => False, Plus (fun x => G x ∧ x < w.heap.size) wq wr, ?_, ?_, fun x hx => ⟨?_, id⟩, fun x hx => hx.elim, Hend.out _ HTq.out⟩
              · rw [HOh.out]; rfl
              · rw [HOh.out]; exact HDq.out
              · rcases hx with h | h
                · exact .inl h.1
                · exact .inr ⟨by omega, h.2⟩)
theorem ropen_any (h : RAt G w m P) (hok : PdN 4611686018427387903 P) : Calls Try.prog 15 #[.pointer (some ⟨m, 0, none⟩)] w (ROpenIs G w m P) := by
  cases hd : P.down with
  | true => exact ropen_dn h hd
  | false => exact ropen_up h hd hok
end Go.Proofs.Ytokmiphgalpahaa
