/- The document's list of all versions: law11.Kept (17). -/
import Derived.Test.YtplieoalfbpniaaGreatT2
set_option linter.unusedVariables false
set_option linter.unusedSimpArgs false
namespace Go.Proofs.YtplieoalfbpniaaGreat
open Go.RowKit Go.Kt Go.Ix Go.Sx
set_option maxRecDepth 100000
variable {F : Nat → Prop} {w w' : World} {s om : Nat} {S : Sp} {L : List It} {N : Nat} {w0 : World} {v u : Value} {Q R : List Pn}
theorem Kp.get5 {a : Option Addr} {n c : Nat} (h : Kp w0 w (.slice a n c) u Q R) {i : Nat} {x : Pn} (hi : Q[i]? = some x) : ∃ b o, a = some ⟨b, o, none⟩ ∧ b < w.heap.size ∧ w.cell? ⟨b, o + i * 5, none⟩ = some x.sv ∧ w.cell? ⟨b, o + i * 5 + 1, none⟩ = some (.int .i64 x.t) ∧
    w.cell? ⟨b, o + i * 5 + 2, none⟩ = some (.int .i64 x.v.kind) ∧ w.cell? ⟨b, o + i * 5 + 3, none⟩ = some (.int .i64 x.v.num) ∧ w.cell? ⟨b, o + i * 5 + 4, none⟩ = some (.string x.v.text) := by
  obtain ⟨-, a', c', e, -, -, -, h5⟩ := h.r1.rd
  injection e with e _ _
  subst e
  have hget := flat5_get Q i x hi
  obtain ⟨b, o, rfl, hc⟩ := h5 _ _ (hget 0 (by omega))
  have key : ∀ j u, j < 5 → (cells5 x)[j]? = some u → w.cell? ⟨b, o + i * 5 + j, none⟩ = some u := by
    intro j u hj hu
    obtain ⟨b', o', e, hc'⟩ := h5 _ _ ((hget j hj).trans hu)
    cases e
    rw [Nat.add_assoc]; exact hc'
  exact ⟨b, o, rfl, World.block_lt_of_cell? w _ hc, key 0 _ (by omega) rfl, key 1 _ (by omega) rfl, key 2 _ (by omega) rfl, key 3 _ (by omega) rfl, key 4 _ (by omega) rfl⟩
theorem Kp.get3 {a : Option Addr} {n c : Nat} (h : Kp w0 w v (.slice a n c) Q R) {i : Nat} {x : Pn} (hi : R[i]? = some x) : ∃ b o, a = some ⟨b, o, none⟩ ∧ b < w.heap.size ∧ w.cell? ⟨b, o + i * 3, none⟩ = some (.int .i64 x.v.at_.wall) ∧ w.cell? ⟨b, o + i * 3 + 1, none⟩ = some (.int .u32 x.v.at_.tick) ∧ w.cell? ⟨b, o + i * 3 + 2, none⟩ = some (.int .u32 x.v.at_.mark) := by
  obtain ⟨-, a', c', e, -, -, -, h5⟩ := h.r2.rd
  injection e with e _ _
  subst e
  have hget := flat3_get R i x hi
  obtain ⟨b, o, rfl, hc⟩ := h5 _ _ (hget 0 (by omega))
  have key : ∀ j u, j < 3 → (cells3t x)[j]? = some u → w.cell? ⟨b, o + i * 3 + j, none⟩ = some u := by
    intro j u hj hu
    obtain ⟨b', o', e, hc'⟩ := h5 _ _ ((hget j hj).trans hu)
    cases e
    rw [Nat.add_assoc]; exact hc'
  exact ⟨b, o, rfl, World.block_lt_of_cell? w _ hc, key 0 _ (by omega) rfl, key 1 _ (by omega) rfl, key 2 _ (by omega) rfl⟩
theorem kept_right (h : StAt F w s om S L N) (hq : Q.map Pn.told = keptL L) : Q.length ≤ 65536 ∧ ∀ q ∈ Q, q.st.length ≤ 16 := by
  constructor
  · have := congrArg List.length hq
    rw [List.length_map] at this
    rw [this]
    exact kept_bound h (List.Sublist.refl _)
  · intro q hm
    have h1 : q.told ∈ keptL L := by rw [← hq]; exact List.mem_map_of_mem hm
    unfold keptL at h1
    obtain ⟨x, hx, h2⟩ := List.mem_flatMap.1 h1
    obtain ⟨y, _, e⟩ := List.mem_map.1 h2
    have e1 : x.set = q.st := congrArg Prod.fst e
    rw [← e1]
    exact (right_sets h x hx).1
set_option maxHeartbeats 8000000 in
theorem lkept_any (w : World) (h : St F w s L N) (hN : N ≤ 1000000) :
    Calls Tryz.prog 17 #[.pointer (some ⟨s, 0, none⟩)] w fun e w' => ∃ v Q, e = .returned (.tuple #[v, .bool true]) ∧ Pts 112 152 w w' v Q ∧ Q.map Pn.told = keptL L := by
  obtain ⟨om, S, h⟩ := h
  have HKp := Lib.hid (kept_any w h hN)
  have H := Lib.hid h
  clear h hN
  go_enter Tryz.func17, Tryz.ntmps17
  go_wp2_with (first
    | (go_at_call 32; refine HKp.out.mono ?_; rintro e w2 ⟨v2, u2, P, rfl, hk, hq⟩; obtain ⟨hPl, hPs⟩ := kept_right H.out hq; obtain ⟨-, va, vc, rfl, -, -, -, -⟩ := hk.r1.rd; obtain ⟨-, ua, uc, rfl, -, -, -, -⟩ := hk.r2.rd; have HK := Lib.hid hk; have HQ2 := Lib.hid hq; have HS := Lib.hid hPs; clear hk hq hPs)
    | fail)
  have HP0 : Hid (Pts 112 152 w2 w2 (.slice none 0 0) []) := Lib.hid (Pts.nil 112 152 w2)
  clear HKp
  go_loopw [6, 21] (fun ov i wr => ∃ (k : Nat) (Q : List Pn), k ≤ P.length ∧ i = .int .i64 k ∧ Hid (Pts 112 152 w2 wr ov Q) ∧ Hid (Q.map Pn.told = (P.take k).map Pn.told)) (fun _ i _ => P.length - (intOf i).toNat)
  case atStart => exact ⟨0, [], by omega, rfl, HP0, Lib.hid rfl⟩
  case round =>
    clear HP0
    obtain ⟨k, Q, hk, rfl, HP, HQ⟩ := hrel
    by_cases hlt : k < P.length
    · obtain ⟨q, hq⟩ : ∃ x, P[k]? = some x := ⟨P[k], List.getElem?_eq_getElem hlt⟩
      have hB := HP.out.bel
      obtain ⟨gb, go, rfl, hgb, c0, c1, c2, c3, c4⟩ := HK.out.get5 hq
      obtain ⟨tb, tof, rfl, htb, c5, c6, c7⟩ := HK.out.get3 hq
      have hgr := Nat.lt_of_lt_of_le hgb hB.size
      have htr := Nat.lt_of_lt_of_le htb hB.size
      have HQn : Hid ((P.take (k + 1)).map Pn.told = Q.map Pn.told ++ [q.told]) := Lib.hid (by
        obtain ⟨hk', e⟩ := List.getElem?_eq_some_iff.1 hq
        rw [List.take_succ_eq_append_getElem hk', List.map_append, HQ.out, e]; rfl)
      have hQl : Q.length ≤ k := by
        have := congrArg List.length HQ.out
        rw [List.length_map, List.length_map, List.length_take] at this
        omega
      have HRq := Lib.hid (((HK.out.sets q (List.mem_of_getElem? hq)).1.below hB).rd)
      have HSq := Lib.hid (HS.out q (List.mem_of_getElem? hq))
      obtain ⟨qst, qt, ⟨⟨qw, qk, qm⟩, qkd, qn, qx⟩, qsv⟩ := q
      obtain ⟨qa, qc, hsv, -⟩ := HRq.out.open
      simp only at hsv
      subst hsv
      simp only at c0 c1 c2 c3 c4 c5 c6 c7 HRq HSq
      have d0 : wr.cell? ⟨gb, go + k * 5, none⟩ = some (.slice qa qst.length qc) := (hB.cell (p := ⟨gb, _, none⟩) hgb).trans c0
      have d1 : wr.cell? ⟨gb, go + k * 5 + 1, none⟩ = some (.int .i64 qt) := (hB.cell (p := ⟨gb, _, none⟩) hgb).trans c1
      have d2 : wr.cell? ⟨gb, go + k * 5 + 2, none⟩ = some (.int .i64 qkd) := (hB.cell (p := ⟨gb, _, none⟩) hgb).trans c2
      have d3 : wr.cell? ⟨gb, go + k * 5 + 3, none⟩ = some (.int .i64 qn) := (hB.cell (p := ⟨gb, _, none⟩) hgb).trans c3
      have d4 : wr.cell? ⟨gb, go + k * 5 + 4, none⟩ = some (.string qx) := (hB.cell (p := ⟨gb, _, none⟩) hgb).trans c4
      have hk1 : (0 : Int) ≤ (k : Int) := by omega
      have hk2 : (k : Int) < (P.length : Int) := by omega
      have HX := Lib.hid (Blk.new wr #[.slice qa qst.length qc, .int .i64 qt, .int .i64 qkd, .int .i64 qn, .string qx] 50)
      have HBa := Lib.hid (below_alloc wr (.cells #[.slice qa qst.length qc, .int .i64 qt, .int .i64 qkd, .int .i64 qn, .string qx] 50))
      have HT3 : Hid (∀ W, Below w2.heap.size w2 W → W.cell? ⟨tb, tof + k * 3, none⟩ = some (.int .i64 qw) ∧ W.cell? ⟨tb, tof + k * 3 + 1, none⟩ = some (.int .u32 qk) ∧ W.cell? ⟨tb, tof + k * 3 + 2, none⟩ = some (.int .u32 qm)) := Lib.hid (fun W hW => ⟨(hW.cell (p := ⟨tb, _, none⟩) htb).trans c5, (hW.cell (p := ⟨tb, _, none⟩) htb).trans c6, (hW.cell (p := ⟨tb, _, none⟩) htb).trans c7⟩)
      clear c0 c1 c2 c3 c4 c5 c6 c7 hq
      have HBr := Lib.hid hB
      clear hB
      go_upto_region 8 with fail
      generalize wr.alloc (.cells #[.slice qa qst.length qc, .int .i64 qt, .int .i64 qkd, .int .i64 qn, .string qx] 50) = w5 at HX HBa ⊢
      have HPw := Lib.hid (HP.out.below HBa.out)
      have HR5 := Lib.hid (HRq.out.below HBa.out)
      have HKs : Hid (∀ W, Below w5.heap.size w5 W → W.cell? ⟨wr.heap.size, 0, none⟩ = some (.slice qa qst.length qc) ∧ W.cell? ⟨wr.heap.size, 1, none⟩ = some (.int .i64 qt) ∧ W.cell? ⟨wr.heap.size, 2, none⟩ = some (.int .i64 qkd) ∧ W.cell? ⟨wr.heap.size, 3, none⟩ = some (.int .i64 qn) ∧ W.cell? ⟨wr.heap.size, 4, none⟩ = some (.string qx) ∧ W.cell? ⟨tb, tof + k * 3, none⟩ = some (.int .i64 qw) ∧ W.cell? ⟨tb, tof + k * 3 + 1, none⟩ = some (.int .u32 qk) ∧ W.cell? ⟨tb, tof + k * 3 + 2, none⟩ = some (.int .u32 qm)) :=
        Lib.hid (fun W hW => ⟨(HX.out.next hW).cell 0, (HX.out.next hW).cell 1, (HX.out.next hW).cell 2, (HX.out.next hW).cell 3, (HX.out.next hW).cell 4, HT3.out W (bel_trans HBr.out (bel_trans HBa.out hW))⟩)
      have htb5 : tb < w5.heap.size := Nat.lt_of_lt_of_le htr HBa.out.size
      have hx5 := bel_refl w5
      obtain ⟨q0, q1, q2, q3, q4, q5, q6, q7⟩ := HKs.out _ hx5
      clear d0 d1 d2 d3 d4 hgr HP HRq HQ
      go_region_held3 (fun W => W.cell? ⟨wr.heap.size, 0, none⟩ = some (.slice qa qst.length qc) ∧ W.cell? ⟨wr.heap.size, 1, none⟩ = some (.int .i64 qt) ∧ W.cell? ⟨wr.heap.size, 2, none⟩ = some (.int .i64 qkd) ∧ W.cell? ⟨wr.heap.size, 3, none⟩ = some (.int .i64 qn) ∧ W.cell? ⟨wr.heap.size, 4, none⟩ = some (.string qx) ∧ W.cell? ⟨tb, tof + k * 3, none⟩ = some (.int .i64 qw) ∧ W.cell? ⟨tb, tof + k * 3 + 1, none⟩ = some (.int .u32 qk) ∧ W.cell? ⟨tb, tof + k * 3 + 2, none⟩ = some (.int .u32 qm))
        (first | (with_reducible exact ⟨q0, q1, q2, q3, q4, q5, q6, q7⟩) | (with_reducible exact ⟨y0, y1, y2, y3, y4, y5, y6, y7⟩) | (with_reducible refine HKs.out _ ?_; (repeat (first | assumption | apply bel_alloc | apply bel_drew)); done) | go_keep)
        (first
          | (go_simp; go_at_call 42; refine (from_any (.slice qa qst.length qc) qst _ (HR5.out.below (by repeat (first | exact bel_refl _ | assumption | apply bel_alloc | apply bel_drew))) (by have := HSq.out; omega)).mono ?_; rintro e w6 ⟨v6, rfl, hm6⟩; obtain ⟨a6, c6, rfl, -⟩ := hm6.rd.open; have hx6 : Below w5.heap.size w5 w6 := bel_trans (by repeat (first | exact bel_refl _ | assumption | apply bel_alloc | apply bel_drew)) hm6.bel; have HM6 := Lib.hid hm6; clear hm6)
          | (go_simp; go_at_call 13; refine (from_any1 ⟨qw, qk, qm⟩ _).mono ?_; rintro e w7 ⟨rfl, hb7⟩; unfold Tm.val; have hx7 : Below w5.heap.size w5 w7 := bel_trans (by repeat (first | exact bel_refl _ | assumption | apply bel_alloc | apply bel_drew)) hb7; have hb67 : Below w6.heap.size w6 w7 := bel_trans (by repeat (first | exact bel_refl _ | apply bel_alloc | apply bel_drew)) hb7; clear hb7)
          | (refine step_app (by rfl) _ _ 53 (by rfl) ok53 (by rfl) (by rfl) (HPw.out.row.1.below' (by repeat (first | exact bel_refl _ | assumption | apply bel_alloc | apply bel_drew))) (own_lit_at (g := _) 112 8 #[.slice a6 qst.length c6, .int .i64 qt, .int .i64 qkd, .int .i64 qn, .string qx, .int .i64 qw, .int .u32 qk, .int .u32 qm] 1 (by simp [maxLen]) rfl (by simp)).rd (pcells_one ⟨qst, qt, ⟨⟨qw, qk, qm⟩, qkd, qn, qx⟩, .slice a6 qst.length c6⟩ rfl) (by simp only [maxLen]; omega) (by omega) ?_; intro v8 w8 ho8 hg8 hn8; obtain ⟨-, b8, c8, rfl, -⟩ := ho8.rd; have hPn := (HPw.out.below (by repeat (first | exact bel_refl _ | assumption | apply bel_alloc | apply bel_drew))).push (q := ⟨qst, qt, ⟨⟨qw, qk, qm⟩, qkd, qn, qx⟩, .slice a6 qst.length c6⟩) (by decide) (OwnP.below (OwnP.below HM6.out.1 hb67) (below_alloc _ _)) (fun b hb => Nat.le_trans HPw.out.bel.size (HM6.out.2.1 b hb)) ho8 hg8 hn8; have hy := box_push HX.out (by repeat (first | exact bel_refl _ | assumption | apply bel_alloc | apply bel_drew)) hg8 (HPw.out.row.1.below' (by repeat (first | exact bel_refl _ | assumption | apply bel_alloc | apply bel_drew))) (by decide); have y0 : w8.cell? ⟨wr.heap.size, 0, none⟩ = some (.slice qa qst.length qc) := hy.cell 0; have y1 : w8.cell? ⟨wr.heap.size, 1, none⟩ = some (.int .i64 qt) := hy.cell 1; have y2 : w8.cell? ⟨wr.heap.size, 2, none⟩ = some (.int .i64 qkd) := hy.cell 2; have y3 : w8.cell? ⟨wr.heap.size, 3, none⟩ = some (.int .i64 qn) := hy.cell 3; have y4 : w8.cell? ⟨wr.heap.size, 4, none⟩ = some (.string qx) := hy.cell 4; obtain ⟨y5, y6, y7⟩ := HT3.out w8 hPn.bel; have HPn := Lib.hid hPn; clear hy ho8 hg8 hn8 hPn))
      go_wp2_with fail
      go_roundw
      case rel => exact ⟨k + 1, _, by omega, by go_num, HPn, Lib.hid (by rw [HQn.out, List.map_append]; rfl)⟩
      case measure => simp [intOf]; omega
    · obtain rfl : k = P.length := by omega
      go_wp2_with fail
      go_ret2
      exact ⟨_, Q, rfl, HP.out.since HK.out.bel, by rw [HQ.out, List.take_length]; exact HQ2.out⟩
end Go.Proofs.YtplieoalfbpniaaGreat
