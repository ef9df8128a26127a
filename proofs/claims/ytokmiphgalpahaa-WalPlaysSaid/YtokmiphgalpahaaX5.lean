/- The document's Crash (31). -/
import Derived.Test.YtokmiphgalpahaaX4
import Derived.Test.YtokmiphgalpahaaWR
namespace Go.Proofs.Ytokmiphgalpahaa
open Go.RowKit Go.Kt
set_option maxRecDepth 100000
variable {F G : Nat → Prop} {w w' w0 : World} {m : Nat} {P : Pd} {lv : Value} {rs : List RS}
theorem crashP_append (keep : List Int) : ∀ (i : Nat) (a b : List Pg), crashP keep i (a ++ b) = crashP keep i a ++ crashP keep (i + a.length) b
  | i, [], b => by simp [crashP]
  | i, s :: t, b => by
    have ih := crashP_append keep (i + 1) t b
    have e : ∀ t', crashP keep i (s :: t') = if keepP keep i s = 0 ∧ s.kept = false then crashP keep (i + 1) t' else ⟨s.n, s.b.take (keepP keep i s), keepP keep i s, true⟩ :: crashP keep (i + 1) t' := fun _ => rfl
    rw [List.cons_append, e, e, ih, List.length_cons, show i + 1 + t.length = i + (t.length + 1) by omega]
    split
    · rfl
    · rfl
theorem crashP_snoc (keep : List Int) (rs : List RS) (k : Nat) (r : RS) (hr : rs[k]? = some r) {mo : Nat} (hm : moreOf keep k r.loose.length = mo) :
    crashP keep 0 ((rs.take (k + 1)).map RS.pg) = crashP keep 0 ((rs.take k).map RS.pg) ++ (if (r.sure ++ r.loose.take mo).length = 0 ∧ r.kept = false then [] else [⟨r.n, r.sure ++ r.loose.take mo, (r.sure ++ r.loose.take mo).length, true⟩]) := by
  obtain ⟨hk, rfl⟩ := List.getElem?_eq_some_iff.1 hr
  rw [List.take_succ_eq_append_getElem hk, List.map_append, crashP_append]
  have hl : ((rs.take k).map RS.pg).length = k := by rw [List.length_map, List.length_take]; omega
  rw [hl, Nat.zero_add]
  have hle := moreOf_le keep k (rs[k]).loose.length
  have hkp : keepP keep k (rs[k]).pg = (rs[k]).sure.length + mo := by
    unfold keepP
    show (rs[k]).sure.length + moreOf keep k (((rs[k]).sure ++ (rs[k]).loose).length - (rs[k]).sure.length) = _
    rw [List.length_append, Nat.add_sub_cancel_left, hm]
  have hb : (rs[k]).pg.b.take ((rs[k]).sure.length + mo) = (rs[k]).sure ++ (rs[k]).loose.take mo := by
    show ((rs[k]).sure ++ (rs[k]).loose).take _ = _
    rw [List.take_append, List.take_of_length_le (by omega), Nat.add_sub_cancel_left]
  have hbl : ((rs[k]).sure ++ (rs[k]).loose.take mo).length = (rs[k]).sure.length + mo := by rw [List.length_append, List.length_take]; omega
  congr 1
  show (if keepP keep k (rs[k]).pg = 0 ∧ (rs[k]).kept = false then ([] : List Pg) else [Pg.mk (rs[k]).n ((rs[k]).pg.b.take (keepP keep k (rs[k]).pg)) (keepP keep k (rs[k]).pg) true]) = _
  rw [hkp, hb, hbl]
/-- the segments that a crash has left so far -/
structure CrOut (w wr : World) (keep : List Int) (rs : List RS) (k : Nat) (ov : Value) (out : List RS) : Prop where
  eq : out.map RS.pg = crashP keep 0 ((rs.take k).map RS.pg)
  own : Own 80 4 wr ov out.length (rcells out)
  ob : ∀ b, ov.ownBlock = some b → w.heap.size ≤ b
  rows : ∀ r ∈ out, Mine8 5 w wr r.sv r.sure ∧ Mine8 5 w wr r.lv r.loose
  bel : Below w.heap.size w wr
theorem CrOut.len {wr : World} {keep : List Int} {k : Nat} {ov : Value} {out : List RS} (h : CrOut w wr keep rs k ov out) (hk : k ≤ rs.length) : out.length ≤ k := by
  have := congrArg List.length h.eq
  rw [List.length_map] at this
  have h2 := crashP_len keep 0 ((rs.take k).map RS.pg)
  rw [List.length_map, List.length_take] at h2
  omega
theorem CrOut.next {wr : World} {keep : List Int} {k : Nat} {ov : Value} {out : List RS} (h : CrOut w wr keep rs k ov out) (hb : Below wr.heap.size wr w') : CrOut w w' keep rs k ov out :=
  ⟨h.eq, h.own.below' hb, h.ob, fun r hr => ⟨(h.rows r hr).1.below hb, (h.rows r hr).2.below hb⟩, bel_trans h.bel hb⟩
/-- one more segment left -/
theorem cr_push {wr w3 w7 : World} {keep : List Int} {k : Nat} {ov v7 : Value} {out : List RS} {n : Int} {ja : Option Addr} {jl jc : Nat} {bl : List UInt8} {o : Obj} (h : CrOut w w3 keep rs k ov out) (hj : Mine8 5 wr w3 (.slice ja jl jc) bl) (hx : Below wr.heap.size wr w3)
    (he : crashP keep 0 ((rs.take (k + 1)).map RS.pg) = (out ++ [RS.mk n (.slice ja jl jc) bl (.slice none 0 0) [] true]).map RS.pg) (hw : Below w.heap.size w wr)
    (ho : Own 80 4 w7 v7 (out.length + 1) (rcells out ++ (RS.mk n (.slice ja jl jc) bl (.slice none 0 0) [] true).vals)) (hg : (w3.alloc o).grownBy w7 ov.ownBlock) (hn : ∀ b, v7.ownBlock = some b → ov.ownBlock = some b ∨ (w3.alloc o).heap.size ≤ b) : CrOut w w7 keep rs (k + 1) v7 (out ++ [RS.mk n (.slice ja jl jc) bl (.slice none 0 0) [] true]) := by
  have hs := h.bel.size
  have hsw := hw.size
  have hsx := hx.size
  have hsa : (w3.alloc o).heap.size = w3.heap.size + 1 := by simp
  have hne : ∀ {v : Value} {b : List UInt8}, Own8 5 w3 v b → ∀ x, v.ownBlock = some x → ov.ownBlock ≠ some x := fun hv x hx e => by
    rcases h.own.2 with ⟨e1, _⟩ | ⟨g', cap', cur, e1, _, hgb, _⟩
    · rw [e1] at e; cases e
    · rw [e1] at e
      have e2 : g' = x := by simpa [Value.ownBlock] using e
      subst e2
      exact own_no_blk hv (show Blk w3 _ cur 80 from hgb) (by decide) hx
  have kp : ∀ {v : Value} {b : List UInt8}, Mine8 5 w w3 v b → Mine8 5 w w7 v b := fun hm => ⟨Own8.grown (Own8.alloc hm.1 o) hg (fun x hx => hne hm.1 x hx), hm.2⟩
  refine ⟨he.symm, own_push ho, fun b hb => ?_, fun r hr => ?_, (bel_alloc h.bel).grown hg (bel_alloc h.bel).size h.ob⟩
  · rcases hn b hb with h1 | h1
    · exact h.ob b h1
    · omega
  · rcases List.mem_append.1 hr with hr | hr
    · exact ⟨kp (h.rows r hr).1, kp (h.rows r hr).2⟩
    · obtain rfl := List.mem_singleton.1 hr
      exact ⟨kp (hj.since hsw), mine8_nil 5 w w7⟩
/-- a change of the document's own block -/
theorem ref_own {P' : Pd} (h : RefIs G w m P lv rs) (ht : Turn (· = m) w w') (hL : P'.L = P.L) (hb : Blk w' m #[.int .i64 P'.room, lv, .int .i64 P'.fuse, .bool P'.down] 76) : RefIs G w' m P' lv rs := by
  have hne : ∀ {v : Value} {e : TypeId} {sz n : Nat} {xs : List Value}, e ≠ 76 → Own e sz w v n xs → ∀ x, v.ownBlock = some x → x ≠ m := fun he ho x hx e => own_no_blk ho h.blk he (e ▸ hx)
  exact ⟨hb, Own.keep h.own fun b hbb => ht.block b (h.own.lt b hbb) (hne (by decide) h.own b hbb), fun r hr => ⟨Own.keep (h.rows r hr).1 fun b hbb => ht.block b ((h.rows r hr).1.lt b hbb) (hne (by decide) (h.rows r hr).1 b hbb), Own.keep (h.rows r hr).2.1 fun b hbb => ht.block b ((h.rows r hr).2.1.lt b hbb) (hne (by decide) (h.rows r hr).2.1 b hbb), (h.rows r hr).2.2⟩, by rw [hL]; exact h.eq, h.Gm, h.Gl⟩
set_option maxRecDepth 100000 in
set_option maxHeartbeats 4000000 in
theorem crash_ref (h : RefIs G w m P lv rs) (hok : PdOk P) {kv : Value} {keep : List Int} (hk : RdZ w kv keep) : Calls Try.prog 33 #[.pointer (some ⟨m, 0, none⟩), kv] w fun e w' => e = .returned (.tuple #[]) ∧ RAt (Plus G w w') w' m (P.crash keep) ∧ Turn G w w' := by
  have H := Lib.hid h
  have HK := Lib.hid hk
  have hlen : rs.length ≤ 1024 := by rw [h.len]; exact hok.len
  have Hsm : Hid (∀ (i : Nat) (r : RS), rs[i]? = some r → r.sure.length + r.loose.length ≤ 67108864) := Lib.hid (fun i r hr => seg_small h.eq hok hr)
  obtain ⟨c0, c1, c2, c3⟩ := h.cell
  obtain ⟨la0, lc0, rfl⟩ := h.form
  obtain ⟨_, ka, kcap, rfl, hkc, hkb, _⟩ := hk
  clear h hok
  go_enter Try.func33, Try.ntmps33
  go_wp2_with fail
  go_loopw [4, 5, 6, 7] (fun ov iv _ _ wr => ∃ (k : Nat) (out : List RS), k ≤ rs.length ∧ iv = .int .i64 k ∧ Hid (CrOut w wr keep rs k ov out)) (fun _ iv _ _ _ => rs.length - (intOf iv).toNat)
  case atStart => exact ⟨0, [], by omega, rfl, Lib.hid ⟨rfl, own_nil _ _ _, fun b hb => (by cases hb), fun r hr => (by cases hr), bel_refl w⟩⟩
  case round =>
    obtain ⟨k, out, hkl, rfl, HO⟩ := hrel
    have HR := Lib.hid (H.out.next HO.out.bel)
    obtain ⟨g0, g1, g2, g3⟩ := HR.out.cell
    have hol := HO.out.len hkl
    by_cases hlt : k < rs.length
    · obtain ⟨r, hr⟩ : ∃ x, rs[k]? = some x := ⟨rs[k], List.getElem?_eq_getElem hlt⟩
      obtain ⟨g, cap, hlv', k0, k1, k2, k3, kf, hgl⟩ := HR.out.seg hr
      injection hlv' with e1 e2 e3
      subst e1 e3
      have hro := HR.out.rows r (List.mem_of_getElem? hr)
      obtain ⟨_, sa, sc, hsv, _⟩ := hro.1.rd
      obtain ⟨_, la, lc, hlv, _⟩ := hro.2.1.rd
      rw [hsv] at k1
      rw [hlv] at k2
      have hsm := Hsm.out k r hr
      have j1 : (0 : Int) ≤ (k : Int) := by omega
      have j2 : (k : Int) < (rs.length : Int) := by omega
      have hmle := moreOf_le keep k r.loose.length
      obtain ⟨mo, hmo⟩ : ∃ mo, moreOf keep k r.loose.length = mo := ⟨_, rfl⟩
      have Hsn := Lib.hid (crashP_snoc keep rs k r hr hmo)
      have Hcut : Hid (∀ W, (Instr.slice 22 (.slice la r.loose.length lc) none (some (.int .i64 (mo : Int))) none).run Try.prog W = .ok (.slice la mo lc) W) := Lib.hid (fun W => own_cut_run (by rw [← hlv]; exact hro.2.1) mo (by omega) W)
      have HJ : Hid (∀ W, Below wr.heap.size wr W → Calls Try.prog 43 #[.slice sa r.sure.length sc, .slice la mo lc] W fun e w' => ∃ v, e = .returned v ∧ Mine8 5 W w' v (r.sure ++ r.loose.take mo) ∧ Below W.heap.size W w') := Lib.hid (fun W hW => by
        have hc := (own8_cut hro.2.1 mo (by omega)).rd
        rw [hlv] at hc
        exact join_any _ _ r.sure (r.loose.take mo) W (by rw [← hsv]; exact hro.1.rd.below hW) (hc.below hW) (by rw [List.length_take]; omega))
      have HC : Hid (∀ W, Below wr.heap.size wr W → W.cell? ⟨m, 1, none⟩ = some (.slice (some ⟨g, 0, none⟩) rs.length lc0) ∧ W.cell? ⟨g, k * 4 + 1, none⟩ = some (.slice sa r.sure.length sc) ∧ W.cell? ⟨g, k * 4 + 2, none⟩ = some (.slice la r.loose.length lc) ∧ W.cell? ⟨g, k * 4, none⟩ = some (.int .i64 r.n) ∧ W.cell? ⟨g, k * 4 + 3, none⟩ = some (.bool r.kept)) := Lib.hid (fun W hW => by
        have h1 := HR.out.next hW
        obtain ⟨g', cap', e, z0, z1, z2, z3, zf, zl⟩ := h1.seg hr
        injection e with e1 _ _
        injection e1 with e1
        injection e1 with e1
        subst e1
        rw [hsv] at z1
        rw [hlv] at z2
        exact ⟨h1.cell.2.1, z1, z2, z0, z3⟩)
      have hx1 := bel_refl wr
      have Hmo := Lib.hid hmo
      have hbl0 : (r.sure ++ r.loose.take mo).length ≤ 67108864 := by rw [List.length_append, List.length_take]; omega
      generalize hbl : r.sure ++ r.loose.take mo = bl at *
      clear hro hr hmo hbl
      have hcase : (mo = 0 ∧ keep.length ≤ k) ∨ (∃ kx, keep[k]? = some kx ∧ ((mo = 0 ∧ kx ≤ 0) ∨ (0 < kx ∧ kx = (mo : Int) ∧ mo ≤ r.loose.length) ∨ (mo = r.loose.length ∧ (r.loose.length : Int) < kx))) := by
        have h := Hmo.out
        unfold moreOf at h
        cases hx : keep[k]? with
        | none =>
          rw [hx] at h
          exact .inl ⟨h.symm, by rw [List.getElem?_eq_none_iff] at hx; exact hx⟩
        | some kx =>
          rw [hx] at h
          simp only at h
          refine .inr ⟨kx, rfl, ?_⟩
          by_cases h0 : kx ≤ 0
          · exact .inl ⟨by omega, h0⟩
          · by_cases h1 : (r.loose.length : Int) < kx
            · exact .inr (.inr ⟨by omega, h1⟩)
            · exact .inr (.inl ⟨by omega, by omega, by omega⟩)
      rcases hcase with ⟨rfl, hkk⟩ | ⟨kx, hkx, hcase⟩
      case' inl =>
        have d1 : decide ((k : Int) < (keep.length : Int)) = false := by simp only [decide_eq_false_iff_not]; omega
        have d2 : decide ((r.loose.length : Int) < 0) = false := by simp only [decide_eq_false_iff_not]; omega
        have hrun : ∀ W, (Instr.slice 22 (.slice la r.loose.length lc) none (some (.int .i64 0)) none).run Try.prog W = .ok (.slice la 0 lc) W := Hcut.out
        go_upto_region 9 with fail
      case' inr =>
        have hkl2 := (List.getElem?_eq_some_iff.1 hkx).1
        obtain ⟨kb, ko, hka, hkc⟩ : ∃ b o, ka = some ⟨b, o, none⟩ ∧ wr.cell? ⟨b, o + k, none⟩ = some (.int .i64 kx) := by
          obtain ⟨_, a', c', e, _, _, _, h6⟩ := RdRow.below HK.out HO.out.bel
          injection e with e1 _ _
          subst e1
          exact h6 k _ (by rw [List.getElem?_map, hkx]; rfl)
        subst hka
        have j3 : (k : Int) < (keep.length : Int) := by omega
        clear hkx
        rcases hcase with ⟨rfl, h0⟩ | ⟨h0, rfl, h1⟩ | ⟨rfl, h0⟩
      case' inr.inl =>
        have d0 : decide (0 < kx) = false := by simp only [decide_eq_false_iff_not]; omega
        have d2 : decide ((r.loose.length : Int) < 0) = false := by simp only [decide_eq_false_iff_not]; omega
        have hrun : ∀ W, (Instr.slice 22 (.slice la r.loose.length lc) none (some (.int .i64 0)) none).run Try.prog W = .ok (.slice la 0 lc) W := Hcut.out
        go_upto_region 9 with fail
      case' inr.inr.inl =>
        have d0 : decide (0 < (mo : Int)) = true := by simp only [decide_eq_true_eq]; omega
        have d2 : decide ((r.loose.length : Int) < (mo : Int)) = false := by simp only [decide_eq_false_iff_not]; omega
        have hrun := Hcut.out
        go_upto_region 9 with fail
      case' inr.inr.inr =>
        have d0 : decide (0 < kx) = true := by simp only [decide_eq_true_eq]; omega
        have d2 : decide ((r.loose.length : Int) < kx) = true := by simp only [decide_eq_true_eq]; omega
        have hrun := Hcut.out
        go_upto_region 9 with fail
      all_goals (
        go_region_held3 (fun w' => w'.cell? ⟨m, 1, none⟩ = some (.slice (some ⟨g, 0, none⟩) rs.length lc0) ∧ w'.cell? ⟨g, k * 4 + 1, none⟩ = some (.slice sa r.sure.length sc) ∧ w'.cell? ⟨g, k * 4 + 2, none⟩ = some (.slice la r.loose.length lc))
          (first | go_keep | (have hz := HC.out _ (by repeat (first | assumption | apply bel_alloc | apply bel_drew | apply bel_drewN)); exact ⟨hz.1, hz.2.1, hz.2.2.1⟩))
          ((go_at_call 43; refine (HJ.out _ (by repeat (first | assumption | apply bel_alloc | apply bel_drew | apply bel_drewN))).mono ?_; rintro e w3 ⟨jv, rfl, hj, hb3⟩; obtain ⟨ja, jc, rfl, _⟩ := hj.rd.open; have hx3 : Below wr.heap.size wr w3 := bel_trans (by repeat (first | assumption | apply bel_alloc | apply bel_drew | apply bel_drewN)) hb3; have HJ3 : Hid (Mine8 5 wr w3 (.slice ja bl.length jc) bl) := Lib.hid hj; clear hb3 hj)))
      all_goals (
        have HX3 := Lib.hid hx3
        obtain ⟨p1, p2, p3, p4, p5⟩ := HC.out _ hx3
        clear k0 k1 k2 k3 g0 g1 g2 g3 hx1
        have HO3 := Lib.hid (HO.out.next hx3)
        by_cases hgone : bl = [] ∧ r.kept = false
        · have HN : Hid (CrOut w w3 keep rs (k + 1) u4 out) := Lib.hid ⟨by rw [Hsn.out, if_pos ⟨by rw [hgone.1]; rfl, hgone.2⟩, List.append_nil]; exact HO3.out.eq, HO3.out.own, HO3.out.ob, HO3.out.rows, HO3.out.bel⟩
          obtain ⟨rfl, d6⟩ := hgone
          rw [d6] at p5
          clear HO3
          go_wp2_with fail
          go_roundw
          case rel => exact ⟨k + 1, out, by omega, by go_num, HN⟩
          case measure => simp [intOf] <;> omega
        · have HN : Hid (crashP keep 0 ((rs.take (k + 1)).map RS.pg) = (out ++ [RS.mk r.n (.slice ja bl.length jc) bl (.slice none 0 0) [] true]).map RS.pg) := Lib.hid (by
            rw [Hsn.out, if_neg (fun e => hgone ⟨List.eq_nil_of_length_eq_zero e.1, e.2⟩), List.map_append, HO3.out.eq]
            show _ = _ ++ [Pg.mk r.n (bl ++ []) bl.length true]
            rw [List.append_nil])
          have hor : (bl ≠ []) ∨ (bl = [] ∧ r.kept = true) := by
            by_cases h0 : bl = []
            · refine .inr ⟨h0, ?_⟩
              cases hkp : r.kept with
              | true => rfl
              | false => exact (hgone ⟨h0, hkp⟩).elim
            · exact .inl h0
          clear hgone
          rcases hor with h0 | ⟨rfl, d6⟩
          case' inl =>
            have h1 : 0 < bl.length := List.length_pos_iff.2 h0
            have h0' : (0 : Int) < (bl.length : Int) := by omega
            have d5 : decide ((0 : Int) < (bl.length : Int)) = true := by simp only [decide_eq_true_eq]; omega
          case' inr => rw [d6] at p5
          all_goals (
            go_wp2_with (at_builtin; apply Hold.mk)
            unfold Hold
            refine wpList_app rfl _ _ 74 rfl ok63 (by rfl) (by rfl) (HO3.out.own.below' (bel_alloc (bel_refl _))) (own_lit_at (g := _) 80 4 #[.int .i64 r.n, .slice ja _ jc, .slice none 0 0, .bool true] 1 (by simp [maxLen]) rfl (by simp)).rd vals_one (by simp only [maxLen]; omega) (by omega) ?_
            intro v7 w7 ho7 hg7 hn7
            have HN7 := Lib.hid (cr_push HO3.out HJ3.out HX3.out HN.out HO.out.bel ho7 hg7 hn7)
            clear ho7 hg7 hn7
            go_wp2_with fail
            go_roundw
            case rel => exact ⟨k + 1, _, by omega, by go_num, HN7⟩
            case measure => simp [intOf] <;> omega))
    · obtain rfl : k = rs.length := by omega
      have hb := HR.out.blk
      have f1 : wr.frozen? ⟨m, 1, none⟩ = false := hb.free 1
      have f2 : wr.frozen? ⟨m, 2, none⟩ = false := hb.free 2
      have f3 : wr.frozen? ⟨m, 3, none⟩ = false := hb.free 3
      have hml := hb.lt
      obtain ⟨_, oa, oc, rfl, _⟩ := HO.out.own.rd
      clear hb
      go_wp2_with fail
      refine bodyPost_end (v := .tuple #[]) (by simp [results, Try.results33, go_sem]) rfl ?_
      have hz := ref_relist (P' := { P with L := crashP keep 0 P.L }) (Turn.refl G w) H.out HO.out.bel HO.out.own HO.out.ob (fun r hr => .inr (HO.out.rows r hr)) rfl rfl rfl (by
        have := HO.out.eq
        rw [List.take_length, H.out.eq] at this
        exact this)
      have hT : Turn (· = m) (wr.setCell ⟨m, 1, none⟩ (.slice oa out.length oc)) (((wr.setCell ⟨m, 1, none⟩ (.slice oa out.length oc)).setCell ⟨m, 2, none⟩ (.int .i64 (-1))).setCell ⟨m, 3, none⟩ (.bool false)) := ((Turn.refl (· = m) _).set (a := ⟨m, 2, none⟩) rfl _).set (a := ⟨m, 3, none⟩) rfl _
      have hR := ref_own (P' := P.crash keep) hz.1 hT rfl ((hz.1.blk.set 2 (.int .i64 (-1))).set 3 (.bool false))
      have hsz : (wr.setCell ⟨m, 1, none⟩ (.slice oa out.length oc)).heap.size ≤ (((wr.setCell ⟨m, 1, none⟩ (.slice oa out.length oc)).setCell ⟨m, 2, none⟩ (.int .i64 (-1))).setCell ⟨m, 3, none⟩ (.bool false)).heap.size := hT.size
      refine ⟨rfl, ⟨_, _, hR.more (fun x hx => ?_)⟩, hz.2.trans hT (fun x hx => .inl (hx ▸ H.out.Gm))⟩
      rcases hx with hx | hx
      · exact .inl hx
      · exact .inr ⟨hx.1, by omega⟩
end Go.Proofs.Ytokmiphgalpahaa
