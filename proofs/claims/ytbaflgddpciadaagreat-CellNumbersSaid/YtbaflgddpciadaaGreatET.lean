/- Book (31). -/
import Derived.Test.YtbaflgddpciadaaGreatEQ
set_option linter.unusedVariables false
set_option linter.unusedSimpArgs false
namespace Go.Proofs.YtbaflgddpciadaaGreat
open Go.RowKit Go.Kt Go.Ix Go.Sx Go.Cx
set_option maxRecDepth 100000
variable {S : Nat → Prop} {w wr w' : World} {c N : Nat} {C : Cl}
/-- rows of writes of the call's own -/
def OwnWs (w : World) (v : Value) (T : List Wr) : Prop := Kt.Own 87 5 w v T.length (flatW T) ∧ ∀ m ∈ T, OwnP 104 w m.sv m.st
theorem OwnWs.rd {v : Value} {T : List Wr} (h : OwnWs w v T) : RdW w v T := ⟨h.1.rd, fun m hm => (h.2 m hm).rd⟩
theorem OwnWs.below {v : Value} {T : List Wr} (h : OwnWs w v T) (hb : Below w.heap.size w w') : OwnWs w' v T := ⟨h.1.below' hb, fun m hm => (h.2 m hm).below hb⟩
/-- a book that is handed out -/
structure Bk (w wr : World) (v : Value) (Q : List (En × Value)) : Prop where
  row : Kt.Own 93 7 wr v Q.length (flatE Q)
  new : ∀ b, v.ownBlock = some b → w.heap.size ≤ b
  ws : ∀ q ∈ Q, ∃ T, OwnWs wr q.2 T ∧ T.map Wr.pl = q.1.ws
  bel : Below w.heap.size w wr
theorem Bk.next {v : Value} {Q : List (En × Value)} (h : Bk w wr v Q) (hb : Below wr.heap.size wr w') : Bk w w' v Q :=
  ⟨h.row.below' hb, h.new, fun q hq => by obtain ⟨T, h1, h2⟩ := h.ws q hq; exact ⟨T, h1.below hb, h2⟩, bel_trans h.bel hb⟩
theorem Bk.push {W w7 : World} {v v7 : Value} {Q : List (En × Value)} (h : Bk w wr v Q) {e : En} {sl : Value} {T : List Wr} (ho : OwnWs W sl T) (hpl : T.map Wr.pl = e.ws) (hb : Below wr.heap.size wr W)
    (ho7 : Kt.Own 93 7 w7 v7 (Q.length + 1) (flatE Q ++ ecells e sl)) (hg7 : W.grownBy w7 v.ownBlock) (hn7 : ∀ c, v7.ownBlock = some c → v.ownBlock = some c ∨ W.heap.size ≤ c) : Bk w w7 v7 (Q ++ [(e, sl)]) := by
  have hW := h.next hb
  have hsz : w.heap.size ≤ W.heap.size := hW.bel.size
  have key : ∀ {s : Value} {T : List Wr}, OwnWs W s T → OwnWs w7 s T := fun hs => ⟨Own.grown hs.1 hg7 (fun c hc e => own_apart hs.1 hW.row (by decide) c hc e), fun m hm => Own.grown (hs.2 m hm) hg7 (fun c hc e => own_apart (hs.2 m hm) hW.row (by decide) c hc e)⟩
  refine ⟨?_, fun y hy => ?_, fun q hq => ?_, hW.bel.grown hg7 hsz h.new⟩
  · rw [flatE_append, List.length_append]
    exact cast (congrArg _ (by simp [flatE])) ho7
  · rcases hn7 y hy with h1 | h1
    · exact h.new y h1
    · omega
  · rcases List.mem_append.1 hq with hq | hq
    · obtain ⟨T', h1, h2⟩ := hW.ws q hq; exact ⟨T', key h1, h2⟩
    · rw [List.mem_singleton.1 hq]; exact ⟨T, key ho, hpl⟩
theorem okI : ElemOk Tryz.prog 90 93 (.agg #[.string ⟨#[]⟩, .int .u32 0, .int .i64 0, .int .i64 0, .int .u32 0, .int .u32 0, .slice none 0 0]) 7 72 := ⟨Tryz.underlying90, info_parts (by kernel_rfl), rfl, by decide⟩
theorem e7_one (a : ByteArray) (b c d e f : Int) (v : Value) (h : v.oneCell' = true) : ∀ u ∈ (#[.string a, .int .u32 b, .int .i64 c, .int .i64 d, .int .u32 e, .int .u32 f, v] : Array Value).toList, u.oneCell' = true := by
  intro u hu
  simp only [List.mem_cons, List.not_mem_nil, or_false] at hu
  rcases hu with rfl | rfl | rfl | rfl | rfl | rfl | rfl
  all_goals first | exact h | rfl
set_option maxHeartbeats 8000000 in
theorem book_any (h : Cel S w c C N) : Calls Tryz.prog 31 #[.pointer (some ⟨c, 0, none⟩)] w fun e w' => ∃ v Q, e = .returned v ∧ Bk w w' v Q ∧ Q.map Prod.fst = C.book := by
  obtain ⟨p, F, hp, -⟩ := h.at_
  obtain ⟨B, hB⟩ : ∃ B, B = p.B := ⟨_, rfl⟩
  have hbk : BookAt F w p.bv B := hB ▸ hp.book
  have htold : B.map Prod.fst = C.book := hB ▸ hp.told
  obtain ⟨la, lc, hbv, hcap, hbig, hcell⟩ := hbk.cells
  have Hcell := Lib.hid hcell
  have HBk := Lib.hid hbk
  have HTold := Lib.hid htold
  have HI := Lib.hid h.inv
  have g4 : w.cell? ⟨c, 4, none⟩ = some (.slice la B.length lc) := by rw [← hbv]; exact hp.blk.cell 4
  have hlen : B.length ≤ 1024 := by have h1 := h.inv.nbook; rw [← htold, List.length_map] at h1; exact h1
  have Hlen := Lib.hid hlen
  clear hcell hbk htold hbv hB
  go_enter Tryz.func31, Tryz.ntmps31
  go_upto_region 5 with fail
  clear g4
  have HQ0 : Hid (Bk w w (.slice none 0 0) []) := Lib.hid ⟨own_nil _ _ _, (fun b e => by cases e), (fun q hq => by cases hq), bel_refl w⟩
  go_loopw [3, 13] (fun v i wr => ∃ (k : Nat) (Q : List (En × Value)), k ≤ B.length ∧ i = .int .i64 k ∧ Hid (Bk w wr v Q) ∧ Hid (Q.map Prod.fst = C.book.take k)) (fun _ i _ => B.length - (intOf i).toNat)
  case atStart => exact ⟨0, _, by omega, rfl, HQ0, Lib.hid rfl⟩
  case round =>
    clear HQ0
    obtain ⟨k, Q, hk, rfl, HQ, HQm⟩ := hrel
    obtain ⟨-, qa, qc, rfl, -⟩ := HQ.out.row.rd
    by_cases hlt : k < B.length
    · obtain ⟨x, hx⟩ : ∃ x, B[k]? = some x := ⟨B[k], List.getElem?_eq_getElem hlt⟩
      obtain ⟨b, rfl, hbl, c0, c1, c2, c3, c4, c5, c6⟩ := Hcell.out k x hx
      obtain ⟨T, hT, hTp⟩ := HBk.out.ws x (List.mem_of_getElem? hx)
      have hen : C.book[k]? = some x.1 := by rw [← HTold.out, List.getElem?_map, hx]; rfl
      have HEn := Lib.hid hen
      have HBt := Lib.hid (HI.out.entry k x.1 hen).2.2.1
      obtain ⟨⟨tok, ed, es, ⟨ew, et, em⟩, ews⟩, sl⟩ := x
      simp only at c0 c1 c2 c3 c4 c5 c6 hT hTp
      obtain ⟨sa, sc, rfl, -⟩ := hT.rd.open
      have HRd := Lib.hid hT.rd
      have HTp := Lib.hid hTp
      obtain ⟨el, hel⟩ : ∃ el, T.length = el := ⟨_, rfl⟩
      rw [hel] at c6
      have HEl := Lib.hid hel
      have d0 : wr.cell? ⟨b, k * 7, none⟩ = some (.string tok) := (HQ.out.bel.cell (p := ⟨b, _, none⟩) hbl).trans c0
      have d1 : wr.cell? ⟨b, k * 7 + 1, none⟩ = some (.int .u32 ed) := (HQ.out.bel.cell (p := ⟨b, _, none⟩) hbl).trans c1
      have d2 : wr.cell? ⟨b, k * 7 + 2, none⟩ = some (.int .i64 es) := (HQ.out.bel.cell (p := ⟨b, _, none⟩) hbl).trans c2
      have d3 : wr.cell? ⟨b, k * 7 + 3, none⟩ = some (.int .i64 ew) := (HQ.out.bel.cell (p := ⟨b, _, none⟩) hbl).trans c3
      have d4 : wr.cell? ⟨b, k * 7 + 4, none⟩ = some (.int .u32 et) := (HQ.out.bel.cell (p := ⟨b, _, none⟩) hbl).trans c4
      have d5 : wr.cell? ⟨b, k * 7 + 5, none⟩ = some (.int .u32 em) := (HQ.out.bel.cell (p := ⟨b, _, none⟩) hbl).trans c5
      have d6 : wr.cell? ⟨b, k * 7 + 6, none⟩ = some (.slice sa el sc) := (HQ.out.bel.cell (p := ⟨b, _, none⟩) hbl).trans c6
      have hk1 : (0 : Int) ≤ (k : Int) := by omega
      have hk2 : (k : Int) < (B.length : Int) := by omega
      have Hlt := Lib.hid hlt
      have HX5' := Lib.hid (Blk.new wr #[.string tok, .int .u32 ed, .int .i64 es, .int .i64 ew, .int .u32 et, .int .u32 em, .slice sa el sc] 178)
      have HBx := Lib.hid (below_alloc wr (.cells #[.string tok, .int .u32 ed, .int .i64 es, .int .i64 ew, .int .u32 et, .int .u32 em, .slice sa el sc] 178))
      clear c0 c1 c2 c3 c4 c5 c6 hx hen hT hTp hel
      go_upto_region 7 with fail
      clear d0 d1 d2 d3 d4 d5 d6
      generalize wr.alloc (.cells #[.string tok, .int .u32 ed, .int .i64 es, .int .i64 ew, .int .u32 et, .int .u32 em, .slice sa el sc] 178) = w3 at HX5' HBx ⊢
      generalize wr.heap.size = g5 at HX5' ⊢
      have HX5 := HX5'
      have HQw := Lib.hid (HQ.out.next HBx.out)
      have HTl : Hid (T.length ≤ 64 ∧ ∀ m ∈ T, m.st.length ≤ 4398046511104) := Lib.hid (by
        have hb := HBt.out
        simp only at hb
        rw [← HTp.out] at hb
        refine ⟨by have := hb.2.1; simpa using this, fun m hm => ?_⟩
        have := (hb.2.2.1 m.pl (List.mem_map_of_mem hm)).1.1
        simp only [Wr.pl] at this
        omega)
      have HTw : Hid (∀ W, Below w3.heap.size w3 W → Calls Tryz.prog 88 #[.slice sa el sc] W fun e w' => ∃ v' T', e = .returned v' ∧ OwnWs w' v' T' ∧ T'.map Wr.pl = ews ∧ Below W.heap.size W w') := Lib.hid (fun W hW => by
        have h1 := twins_any (.slice sa T.length sc) T W (HRd.out.below (bel_trans HQw.out.bel hW)) (by have := HTl.out.1; omega) HTl.out.2
        rw [HEl.out] at h1
        exact h1.mono (fun e w' ⟨v', T', h2, h3, h4⟩ => ⟨v', T', h2, ⟨h3.row.1, fun m hm => (h3.sets m hm).1⟩, (pl_bares.1 h4).trans HTp.out, h3.bel⟩))
      have hgl5 : g5 < w3.heap.size := HX5.out.lt
      have HKs : Hid (∀ W, Below w3.heap.size w3 W → W.cell? ⟨g5, 0, none⟩ = some (.string tok) ∧ W.cell? ⟨g5, 1, none⟩ = some (.int .u32 ed) ∧ W.cell? ⟨g5, 2, none⟩ = some (.int .i64 es) ∧ W.cell? ⟨g5, 3, none⟩ = some (.int .i64 ew) ∧ W.cell? ⟨g5, 4, none⟩ = some (.int .u32 et) ∧ W.cell? ⟨g5, 5, none⟩ = some (.int .u32 em) ∧ W.cell? ⟨g5, 6, none⟩ = some (.slice sa el sc)) := Lib.hid (fun W hW => ⟨(HX5.out.next hW).cell 0, (HX5.out.next hW).cell 1, (HX5.out.next hW).cell 2, (HX5.out.next hW).cell 3, (HX5.out.next hW).cell 4, (HX5.out.next hW).cell 5, (HX5.out.next hW).cell 6⟩)
      obtain ⟨p0, p1, p2, p3, p4, p5, p6⟩ := HKs.out w3 (bel_refl w3)
      have hx0 := bel_refl w3
      have HQl : Hid (Q.length + 1 ≤ 1024) := Lib.hid (by
        have h1 := congrArg List.length HQm.out
        rw [List.length_map, List.length_take] at h1
        have := Hlt.out; have := Hlen.out; omega)
      go_region_held3 (fun W => W.cell? ⟨g5, 0, none⟩ = some (.string tok) ∧ W.cell? ⟨g5, 1, none⟩ = some (.int .u32 ed) ∧ W.cell? ⟨g5, 2, none⟩ = some (.int .i64 es) ∧ W.cell? ⟨g5, 3, none⟩ = some (.int .i64 ew) ∧ W.cell? ⟨g5, 4, none⟩ = some (.int .u32 et) ∧ W.cell? ⟨g5, 5, none⟩ = some (.int .u32 em) ∧ W.cell? ⟨g5, 6, none⟩ = some (.slice sa el sc))
        (first | (with_reducible exact ⟨p0, p1, p2, p3, p4, p5, p6⟩) | (with_reducible exact ⟨y0, y1, y2, y3, y4, y5, y6⟩) | (with_reducible refine HKs.out _ ?_; (repeat (first | assumption | apply bel_alloc | apply bel_drew)); done) | go_keep)
        (first
          | (go_simp; go_at_call 88; refine (HTw.out _ (by repeat (first | exact bel_refl _ | assumption | apply bel_alloc | apply bel_drew))).mono ?_; rintro e w4 ⟨v3, T3, rfl, ho3, hp3, hb4⟩; obtain ⟨a3, c3, hv3, -⟩ := ho3.rd.open; subst hv3; have HO3 := Lib.hid ho3; have HP3 := Lib.hid hp3; have hx4 : Below w3.heap.size w3 w4 := bel_trans (by repeat (first | exact bel_refl _ | assumption | apply bel_alloc | apply bel_drew)) hb4; clear ho3 hb4 hp3)
          | (refine step_app (by rfl) _ _ 90 (by rfl) okI (by rfl) (by rfl) (HQw.out.row.below' (by repeat (first | exact bel_refl _ | assumption | apply bel_alloc | apply bel_drew))) (own_lit_at (g := _) 93 7 #[.string tok, .int .u32 ed, .int .i64 es, .int .i64 ew, .int .u32 et, .int .u32 em, .slice a3 T3.length c3] 1 (by simp [maxLen]) rfl (by simp)).rd (e7_one _ _ _ _ _ _ _ rfl) (by have h1 := HQl.out; simp only [maxLen]; omega) (by have h1 := HQl.out; omega) ?_; intro v7 w17 ho7 hg7 hn7; obtain ⟨-, a7, c7, rfl, -⟩ := ho7.rd; have HQ17 := Lib.hid (HQw.out.push (e := ⟨tok, ed, es, ⟨ew, et, em⟩, ews⟩) (HO3.out.below (by repeat (first | exact bel_refl _ | assumption | apply bel_alloc | apply bel_drew))) HP3.out (by repeat (first | exact bel_refl _ | assumption | apply bel_alloc | apply bel_drew)) ho7 hg7 hn7); have hb17 := Blk.grown (HX5.out.next (by repeat (first | exact bel_refl _ | assumption | apply bel_alloc | apply bel_drew))) hg7 (own_no_blk (HQw.out.row.below' (by repeat (first | exact bel_refl _ | assumption | apply bel_alloc | apply bel_drew))) (HX5.out.next (by repeat (first | exact bel_refl _ | assumption | apply bel_alloc | apply bel_drew))) (by decide)); have y0 : w17.cell? ⟨g5, 0, none⟩ = some (.string tok) := hb17.cell 0; have y1 : w17.cell? ⟨g5, 1, none⟩ = some (.int .u32 ed) := hb17.cell 1; have y2 : w17.cell? ⟨g5, 2, none⟩ = some (.int .i64 es) := hb17.cell 2; have y3 : w17.cell? ⟨g5, 3, none⟩ = some (.int .i64 ew) := hb17.cell 3; have y4 : w17.cell? ⟨g5, 4, none⟩ = some (.int .u32 et) := hb17.cell 4; have y5 : w17.cell? ⟨g5, 5, none⟩ = some (.int .u32 em) := hb17.cell 5; have y6 : w17.cell? ⟨g5, 6, none⟩ = some (.slice sa el sc) := hb17.cell 6; clear ho7 hg7 hn7 hb17))
      trace_state
      go_wp2_with fail
      go_roundw
      case rel => exact ⟨k + 1, _, by have := Hlt.out; omega, by go_num, by simpa using HQ17, Lib.hid (by rw [List.take_add_one, HEn.out, List.map_append, HQm.out]; rfl)⟩
      case measure => have := Hlt.out; simp [intOf]; omega
    · obtain rfl : k = B.length := by omega
      have HE : Hid (Q.map Prod.fst = C.book) := Lib.hid (by rw [HQm.out, ← HTold.out, List.take_of_length_le (by simp)])
      go_wp2_with fail
      go_ret
      exact ⟨_, _, rfl, HQ.out, HE.out⟩
end Go.Proofs.YtbaflgddpciadaaGreat
