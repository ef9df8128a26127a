/- Points as the document's: Points (22), SamePoints (18). -/
import Derived.Test.YtbaflgddpciadaaGreatSQ
import Derived.Test.YtbaflgddpciadaaGreatSY
set_option linter.unusedVariables false
set_option linter.unusedSimpArgs false
namespace Go.Proofs.YtbaflgddpciadaaGreat
open Go.RowKit Go.Kt Go.Ix Go.Sx
set_option maxRecDepth 100000
theorem ok53 : ElemOk Tryz.prog 62 170 (.agg #[.slice none 0 0, .int .i64 0, .int .i64 0, .int .i64 0, .string ⟨#[]⟩, .int .i64 0, .int .u32 0, .int .u32 0]) 8 80 := ⟨Tryz.underlying62, info_parts (by kernel_rfl), rfl, by decide⟩
set_option maxHeartbeats 4000000 in
theorem points_any (v : Value) (P : List Pn) (w : World) (hv : RdN w v P) (hl : P.length ≤ 65536) (hs : ∀ q ∈ P, q.st.length ≤ 16) :
    Calls Tryz.prog 25 #[v] w fun e w' => ∃ v' Q, e = .returned v' ∧ Pts 170 219 w w' v' Q ∧ Q.map Pn.told = P.map Pn.told := by
  obtain ⟨va, vc, hve, -⟩ := hv.open
  subst hve
  have HV := Lib.hid hv
  have HS := Lib.hid hs
  have HP0 : Hid (Pts 170 219 w w (.slice none 0 0) []) := Lib.hid (Pts.nil 170 219 w)
  clear hv hs
  go_enter Tryz.func25, Tryz.ntmps25
  go_wp2_with fail
  go_loopw [3, 8] (fun ov i wr => ∃ (k : Nat) (Q : List Pn), k ≤ P.length ∧ i = .int .i64 k ∧ Hid (Pts 170 219 w wr ov Q) ∧ Hid (Q.map Pn.told = (P.take k).map Pn.told)) (fun _ i _ => P.length - (intOf i).toNat)
  case atStart => exact ⟨0, [], by omega, rfl, HP0, Lib.hid rfl⟩
  case round =>
    clear HP0
    obtain ⟨k, Q, hk, rfl, HP, HQ⟩ := hrel
    by_cases hlt : k < P.length
    · obtain ⟨q, hq⟩ : ∃ x, P[k]? = some x := ⟨P[k], List.getElem?_eq_getElem hlt⟩
      have hB := HP.out.bel
      obtain ⟨gb, go, rfl, hgb, c0, c1, c2, c3, c4, c5, c6, c7⟩ := HV.out.get hq
      have hgr := Nat.lt_of_lt_of_le hgb hB.size
      have HQn : Hid ((P.take (k + 1)).map Pn.told = Q.map Pn.told ++ [q.told]) := Lib.hid (by
        obtain ⟨hk', e⟩ := List.getElem?_eq_some_iff.1 hq
        rw [List.take_succ_eq_append_getElem hk', List.map_append, HQ.out, e]; rfl)
      have hQl : Q.length ≤ k := by
        have := congrArg List.length HQ.out
        rw [List.length_map, List.length_map, List.length_take] at this
        omega
      have HRq := Lib.hid ((HV.out.2 q (List.mem_of_getElem? hq)).below hB)
      have HSq := Lib.hid (HS.out q (List.mem_of_getElem? hq))
      obtain ⟨qst, qt, ⟨⟨qw, qk, qm⟩, qkd, qn, qx⟩, qsv⟩ := q
      obtain ⟨qa, qc, hsv, -⟩ := HRq.out.open
      simp only at hsv
      subst hsv
      simp only at c0 c1 c2 c3 c4 c5 c6 c7 HRq HSq
      have d0 : wr.cell? ⟨gb, go + k * 8, none⟩ = some (.slice qa qst.length qc) := (hB.cell (p := ⟨gb, _, none⟩) hgb).trans c0
      have d1 : wr.cell? ⟨gb, go + k * 8 + 1, none⟩ = some (.int .i64 qt) := (hB.cell (p := ⟨gb, _, none⟩) hgb).trans c1
      have d2 : wr.cell? ⟨gb, go + k * 8 + 2, none⟩ = some (.int .i64 qkd) := (hB.cell (p := ⟨gb, _, none⟩) hgb).trans c2
      have d3 : wr.cell? ⟨gb, go + k * 8 + 3, none⟩ = some (.int .i64 qn) := (hB.cell (p := ⟨gb, _, none⟩) hgb).trans c3
      have d4 : wr.cell? ⟨gb, go + k * 8 + 4, none⟩ = some (.string qx) := (hB.cell (p := ⟨gb, _, none⟩) hgb).trans c4
      have d5 : wr.cell? ⟨gb, go + k * 8 + 5, none⟩ = some (.int .i64 qw) := (hB.cell (p := ⟨gb, _, none⟩) hgb).trans c5
      have d6 : wr.cell? ⟨gb, go + k * 8 + 6, none⟩ = some (.int .u32 qk) := (hB.cell (p := ⟨gb, _, none⟩) hgb).trans c6
      have d7 : wr.cell? ⟨gb, go + k * 8 + 7, none⟩ = some (.int .u32 qm) := (hB.cell (p := ⟨gb, _, none⟩) hgb).trans c7
      have hk1 : (0 : Int) ≤ (k : Int) := by omega
      have hk2 : (k : Int) < (P.length : Int) := by omega
      have HX := Lib.hid (Blk.new wr #[.slice qa qst.length qc, .int .i64 qt, .int .i64 qkd, .int .i64 qn, .string qx, .int .i64 qw, .int .u32 qk, .int .u32 qm] 142)
      have HBa := Lib.hid (below_alloc wr (.cells #[.slice qa qst.length qc, .int .i64 qt, .int .i64 qkd, .int .i64 qn, .string qx, .int .i64 qw, .int .u32 qk, .int .u32 qm] 142))
      clear c0 c1 c2 c3 c4 c5 c6 c7 hq hB
      go_upto_region 5 with fail
      generalize wr.alloc (.cells #[.slice qa qst.length qc, .int .i64 qt, .int .i64 qkd, .int .i64 qn, .string qx, .int .i64 qw, .int .u32 qk, .int .u32 qm] 142) = w5 at HX HBa ⊢
      have HPw := Lib.hid (HP.out.below HBa.out)
      have HR5 := Lib.hid (HRq.out.below HBa.out)
      have HKs : Hid (∀ W, Below w5.heap.size w5 W → W.cell? ⟨wr.heap.size, 0, none⟩ = some (.slice qa qst.length qc) ∧ W.cell? ⟨wr.heap.size, 1, none⟩ = some (.int .i64 qt) ∧ W.cell? ⟨wr.heap.size, 2, none⟩ = some (.int .i64 qkd) ∧ W.cell? ⟨wr.heap.size, 3, none⟩ = some (.int .i64 qn) ∧ W.cell? ⟨wr.heap.size, 4, none⟩ = some (.string qx) ∧ W.cell? ⟨wr.heap.size, 5, none⟩ = some (.int .i64 qw) ∧ W.cell? ⟨wr.heap.size, 6, none⟩ = some (.int .u32 qk) ∧ W.cell? ⟨wr.heap.size, 7, none⟩ = some (.int .u32 qm)) :=
        Lib.hid (fun W hW => ⟨(HX.out.next hW).cell 0, (HX.out.next hW).cell 1, (HX.out.next hW).cell 2, (HX.out.next hW).cell 3, (HX.out.next hW).cell 4, (HX.out.next hW).cell 5, (HX.out.next hW).cell 6, (HX.out.next hW).cell 7⟩)
      have hx5 := bel_refl w5
      obtain ⟨q0, q1, q2, q3, q4, q5, q6, q7⟩ := HKs.out _ hx5
      clear d0 d1 d2 d3 d4 d5 d6 d7 hgr HP HRq HQ
      go_region_held3 (fun W => W.cell? ⟨wr.heap.size, 0, none⟩ = some (.slice qa qst.length qc) ∧ W.cell? ⟨wr.heap.size, 1, none⟩ = some (.int .i64 qt) ∧ W.cell? ⟨wr.heap.size, 2, none⟩ = some (.int .i64 qkd) ∧ W.cell? ⟨wr.heap.size, 3, none⟩ = some (.int .i64 qn) ∧ W.cell? ⟨wr.heap.size, 4, none⟩ = some (.string qx) ∧ W.cell? ⟨wr.heap.size, 5, none⟩ = some (.int .i64 qw) ∧ W.cell? ⟨wr.heap.size, 6, none⟩ = some (.int .u32 qk) ∧ W.cell? ⟨wr.heap.size, 7, none⟩ = some (.int .u32 qm))
        (first | (with_reducible exact ⟨q0, q1, q2, q3, q4, q5, q6, q7⟩) | (with_reducible exact ⟨y0, y1, y2, y3, y4, y5, y6, y7⟩) | (with_reducible refine HKs.out _ ?_; (repeat (first | assumption | apply bel_alloc | apply bel_drew)); done) | go_keep)
        (first
          | (go_simp; go_at_call 82; refine (from_any (.slice qa qst.length qc) qst _ (HR5.out.below (by repeat (first | exact bel_refl _ | assumption | apply bel_alloc | apply bel_drew))) (by have := HSq.out; omega)).mono ?_; rintro e w6 ⟨v6, rfl, hm6⟩; obtain ⟨a6, c6, rfl, -⟩ := hm6.rd.open; have hx6 : Below w5.heap.size w5 w6 := bel_trans (by repeat (first | exact bel_refl _ | assumption | apply bel_alloc | apply bel_drew)) hm6.bel; have HM6 := Lib.hid hm6; clear hm6)
          | (go_simp; go_at_call 83; refine (from_any1 ⟨qw, qk, qm⟩ _).mono ?_; rintro e w7 ⟨rfl, hb7⟩; unfold Tm.val; have hx7 : Below w5.heap.size w5 w7 := bel_trans (by repeat (first | exact bel_refl _ | assumption | apply bel_alloc | apply bel_drew)) hb7; have hb67 : Below w6.heap.size w6 w7 := bel_trans (by repeat (first | exact bel_refl _ | apply bel_alloc | apply bel_drew)) hb7; clear hb7)
          | (refine step_app (by rfl) _ _ 62 (by rfl) ok53 (by rfl) (by rfl) (HPw.out.row.1.below' (by repeat (first | exact bel_refl _ | assumption | apply bel_alloc | apply bel_drew))) (own_lit_at (g := _) 170 8 #[.slice a6 qst.length c6, .int .i64 qt, .int .i64 qkd, .int .i64 qn, .string qx, .int .i64 qw, .int .u32 qk, .int .u32 qm] 1 (by simp [maxLen]) rfl (by simp)).rd (pcells_one ⟨qst, qt, ⟨⟨qw, qk, qm⟩, qkd, qn, qx⟩, .slice a6 qst.length c6⟩ rfl) (by simp only [maxLen]; omega) (by omega) ?_; intro v8 w8 ho8 hg8 hn8; obtain ⟨-, b8, c8, rfl, -⟩ := ho8.rd; have hy := box_push HX.out (by repeat (first | exact bel_refl _ | assumption | apply bel_alloc | apply bel_drew)) hg8 (HPw.out.row.1.below' (by repeat (first | exact bel_refl _ | assumption | apply bel_alloc | apply bel_drew))) (by decide); have y0 : w8.cell? ⟨wr.heap.size, 0, none⟩ = some (.slice qa qst.length qc) := hy.cell 0; have y1 : w8.cell? ⟨wr.heap.size, 1, none⟩ = some (.int .i64 qt) := hy.cell 1; have y2 : w8.cell? ⟨wr.heap.size, 2, none⟩ = some (.int .i64 qkd) := hy.cell 2; have y3 : w8.cell? ⟨wr.heap.size, 3, none⟩ = some (.int .i64 qn) := hy.cell 3; have y4 : w8.cell? ⟨wr.heap.size, 4, none⟩ = some (.string qx) := hy.cell 4; have y5 : w8.cell? ⟨wr.heap.size, 5, none⟩ = some (.int .i64 qw) := hy.cell 5; have y6 : w8.cell? ⟨wr.heap.size, 6, none⟩ = some (.int .u32 qk) := hy.cell 6; have y7 : w8.cell? ⟨wr.heap.size, 7, none⟩ = some (.int .u32 qm) := hy.cell 7; have HPn : Hid (Pts 170 219 w w8 (.slice b8 (Q.length + 1) c8) (Q ++ [⟨qst, qt, ⟨⟨qw, qk, qm⟩, qkd, qn, qx⟩, .slice a6 qst.length c6⟩])) := Lib.hid ((HPw.out.below (by repeat (first | exact bel_refl _ | assumption | apply bel_alloc | apply bel_drew))).push (by decide) (OwnP.below (OwnP.below HM6.out.1 hb67) (below_alloc _ _)) (fun b hb => Nat.le_trans HPw.out.bel.size (HM6.out.2.1 b hb)) ho8 hg8 hn8); clear hy ho8 hg8 hn8))
      go_wp2_with fail
      go_roundw
      case rel => exact ⟨k + 1, _, by omega, by go_num, HPn, Lib.hid (by rw [HQn.out, List.map_append]; rfl)⟩
      case measure => simp [intOf]; omega
    · obtain rfl : k = P.length := by omega
      go_wp2_with fail
      go_ret
      exact ⟨_, Q, rfl, HP.out, by rw [HQ.out, List.take_length]⟩
theorem told_get {Q R : List Pn} (h : R.map Pn.told = Q.map Pn.told) {i : Nat} {q : Pn} (hq : Q[i]? = some q) : ∃ r, R[i]? = some r ∧ r.st = q.st ∧ r.t = q.t ∧ r.v = q.v := by
  have h1 := congrArg (fun l => l[i]?) h
  simp only [List.getElem?_map, hq, Option.map_some] at h1
  obtain ⟨r, hr, e⟩ := Option.map_eq_some_iff.1 h1
  unfold Pn.told at e
  injection e with e1 e2
  injection e2 with e2 e3
  exact ⟨r, hr, e1, e2, e3⟩
set_option maxHeartbeats 4000000 in
/-- the same points are the same points -/
theorem samep_yes (v u : Value) (Q R : List Pn) (w : World) (hv : RdN w v Q) (hu : RdN w u R) (h : R.map Pn.told = Q.map Pn.told) :
    Calls Tryz.prog 24 #[v, u] w fun e w' => e = .returned (.bool true) ∧ Below w.heap.size w w' := by
  obtain ⟨va, vc, hve, hvc, hvm, -⟩ := hv.open
  obtain ⟨ua, uc, hue, huc, hum, -⟩ := hu.open
  subst hve hue
  have hlen : R.length = Q.length := by have := congrArg List.length h; simpa using this
  rw [hlen] at hu huc ⊢
  have HV := Lib.hid hv
  have HU := Lib.hid hu
  have HE := Lib.hid h
  have HL := Lib.hid hlen
  clear hv hu h hlen
  go_enter Tryz.func24, Tryz.ntmps24
  go_wp2_with fail
  go_loopw [5] (fun i wr => ∃ k : Nat, k ≤ Q.length ∧ i = .int .i64 k ∧ Hid (Below w.heap.size w wr)) (fun i _ => Q.length - (intOf i).toNat)
  case atStart => exact ⟨0, by omega, rfl, Lib.hid (bel_refl w)⟩
  case round =>
    obtain ⟨k, hk, rfl, HB⟩ := hrel
    by_cases hlt : k < Q.length
    · obtain ⟨q, hq⟩ : ∃ x, Q[k]? = some x := ⟨Q[k], List.getElem?_eq_getElem hlt⟩
      obtain ⟨r, hr, e1, e2, e3⟩ := told_get HE.out hq
      obtain ⟨gb, go, rfl, hgb, c0, c1, c2, c3, c4, c5, c6, c7⟩ := HV.out.get hq
      have hu' : RdN w (.slice ua R.length uc) R := by rw [HL.out]; exact HU.out
      obtain ⟨hb, ho, rfl, hhb, e0, e1', e2', e3', e4, e5, e6, e7⟩ := hu'.get hr
      have HRq := Lib.hid ((HV.out.2 q (List.mem_of_getElem? hq)).below HB.out)
      have HRr : Hid (RdP wr r.sv q.st) := Lib.hid (e1 ▸ (HU.out.2 r (List.mem_of_getElem? hr)).below HB.out)
      rw [e2] at e1'
      rw [e3] at e2' e3' e4 e5 e6 e7
      obtain ⟨qst, qt, ⟨⟨qw, qk, qm⟩, qkd, qn, qx⟩, qsv⟩ := q
      simp only at c0 c1 c2 c3 c4 c5 c6 c7 e1' e2' e3' e4 e5 e6 e7 HRq HRr
      have hgr := Nat.lt_of_lt_of_le hgb HB.out.size
      have hhr := Nat.lt_of_lt_of_le hhb HB.out.size
      have x0 : ∀ g : GrownOf wr, g.W.cell? ⟨gb, go + k * 8, none⟩ = some qsv := fun g => ((bel_trans HB.out g.b).cell (p := ⟨gb, _, none⟩) hgb).trans c0
      have x1 : ∀ g : GrownOf wr, g.W.cell? ⟨gb, go + k * 8 + 1, none⟩ = some (.int .i64 qt) := fun g => ((bel_trans HB.out g.b).cell (p := ⟨gb, _, none⟩) hgb).trans c1
      have x2 : ∀ g : GrownOf wr, g.W.cell? ⟨gb, go + k * 8 + 2, none⟩ = some (.int .i64 qkd) := fun g => ((bel_trans HB.out g.b).cell (p := ⟨gb, _, none⟩) hgb).trans c2
      have x3 : ∀ g : GrownOf wr, g.W.cell? ⟨gb, go + k * 8 + 3, none⟩ = some (.int .i64 qn) := fun g => ((bel_trans HB.out g.b).cell (p := ⟨gb, _, none⟩) hgb).trans c3
      have x4 : ∀ g : GrownOf wr, g.W.cell? ⟨gb, go + k * 8 + 4, none⟩ = some (.string qx) := fun g => ((bel_trans HB.out g.b).cell (p := ⟨gb, _, none⟩) hgb).trans c4
      have x5 : ∀ g : GrownOf wr, g.W.cell? ⟨gb, go + k * 8 + 5, none⟩ = some (.int .i64 qw) := fun g => ((bel_trans HB.out g.b).cell (p := ⟨gb, _, none⟩) hgb).trans c5
      have x6 : ∀ g : GrownOf wr, g.W.cell? ⟨gb, go + k * 8 + 6, none⟩ = some (.int .u32 qk) := fun g => ((bel_trans HB.out g.b).cell (p := ⟨gb, _, none⟩) hgb).trans c6
      have x7 : ∀ g : GrownOf wr, g.W.cell? ⟨gb, go + k * 8 + 7, none⟩ = some (.int .u32 qm) := fun g => ((bel_trans HB.out g.b).cell (p := ⟨gb, _, none⟩) hgb).trans c7
      have y0 : ∀ g : GrownOf wr, g.W.cell? ⟨hb, ho + k * 8, none⟩ = some r.sv := fun g => ((bel_trans HB.out g.b).cell (p := ⟨hb, _, none⟩) hhb).trans e0
      have y1 : ∀ g : GrownOf wr, g.W.cell? ⟨hb, ho + k * 8 + 1, none⟩ = some (.int .i64 qt) := fun g => ((bel_trans HB.out g.b).cell (p := ⟨hb, _, none⟩) hhb).trans e1'
      have y2 : ∀ g : GrownOf wr, g.W.cell? ⟨hb, ho + k * 8 + 2, none⟩ = some (.int .i64 qkd) := fun g => ((bel_trans HB.out g.b).cell (p := ⟨hb, _, none⟩) hhb).trans e2'
      have y3 : ∀ g : GrownOf wr, g.W.cell? ⟨hb, ho + k * 8 + 3, none⟩ = some (.int .i64 qn) := fun g => ((bel_trans HB.out g.b).cell (p := ⟨hb, _, none⟩) hhb).trans e3'
      have y4 : ∀ g : GrownOf wr, g.W.cell? ⟨hb, ho + k * 8 + 4, none⟩ = some (.string qx) := fun g => ((bel_trans HB.out g.b).cell (p := ⟨hb, _, none⟩) hhb).trans e4
      have y5 : ∀ g : GrownOf wr, g.W.cell? ⟨hb, ho + k * 8 + 5, none⟩ = some (.int .i64 qw) := fun g => ((bel_trans HB.out g.b).cell (p := ⟨hb, _, none⟩) hhb).trans e5
      have y6 : ∀ g : GrownOf wr, g.W.cell? ⟨hb, ho + k * 8 + 6, none⟩ = some (.int .u32 qk) := fun g => ((bel_trans HB.out g.b).cell (p := ⟨hb, _, none⟩) hhb).trans e6
      have y7 : ∀ g : GrownOf wr, g.W.cell? ⟨hb, ho + k * 8 + 7, none⟩ = some (.int .u32 qm) := fun g => ((bel_trans HB.out g.b).cell (p := ⟨hb, _, none⟩) hhb).trans e7
      have hk1 : (0 : Int) ≤ (k : Int) := by omega
      have hk2 : (k : Int) < (Q.length : Int) := by omega
      generalize r.sv = rsv at *
      clear hu' hr hq e0 e1' e2' e3' e4 e5 e6 e7 e1 e2 e3 c0 c1 c2 c3 c4 c5 c6 c7
      go_upto_region 6 with fail
      simp only [List.append_eq, List.cons_append, List.nil_append]
      refine wp_region_grown (by kernel_rfl) (by kernel_rfl) ?_
      repeat (go_big_quiet_step ((go_at_call 81; refine (same_yes qsv rsv qst _ (HRq.out.below (GrownOf.b _)) (HRr.out.below (GrownOf.b _))).mono ?_; rintro e w7 ⟨rfl, t, rfl⟩; exact ⟨rfl, ⟨_, bel_drewN (GrownOf.b _) t⟩, rfl⟩)))
      refine wpQuiet_nil ?_
      rintro _ ⟨⟨w7, hb7⟩, rfl⟩
      have HB7 := Lib.hid (bel_trans HB.out hb7)
      clear hb7 x0 x1 x2 x3 x4 x5 x6 x7 y0 y1 y2 y3 y4 y5 y6 y7
      go_wp2_with fail
      go_roundw
      case rel => exact ⟨k + 1, by omega, by go_num, HB7⟩
      case measure => simp [intOf]; omega
    · obtain rfl : k = Q.length := by omega
      go_wp2_with fail
      go_ret
      exact ⟨rfl, HB.out⟩
end Go.Proofs.YtbaflgddpciadaaGreat
