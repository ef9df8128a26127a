/- decide (52). -/
import Derived.Test.YtbaflgddpciadaaGreatPW
import Derived.Test.YtbaflgddpciadaaGreatED
set_option linter.unusedVariables false
set_option linter.unusedSimpArgs false
namespace Go.Proofs.YtbaflgddpciadaaGreat
open Go.RowKit Go.Kt Go.Ix Go.Sx Go.Cx
set_option maxRecDepth 100000
variable {F : Nat → Prop} {w w' : World} {c N : Nat} {C : Cl} {p : Cp}
theorem dec_none {m : Cmd} (hn : ∀ x ∈ C.book, x.deed ≠ m.deed) : decideC C m = (bad 6, C) := by
  unfold decideC; rw [List.find?_eq_none.2 (fun x hx => by simpa using hn x hx)]
theorem dec_find (hi : CInv C) {x : En} {d : Int} (hx : x ∈ C.book) (e : x.deed = d) : C.book.find? (fun y => decide (y.deed = d)) = some x := by
  cases hf : C.book.find? (fun y => decide (y.deed = d)) with
  | none => exact absurd e (by simpa using List.find?_eq_none.1 hf x hx)
  | some y =>
    have e2 : y.deed = d := by simpa using List.find?_some hf
    rw [entry_inj hi (List.mem_of_find?_eq_some hf) hx (e2.trans e.symm)]
theorem dec_told (hi : CInv C) {m : Cmd} {x : En} (hx : x ∈ C.book) (e : x.deed = m.deed) (hs : x.state ≠ 1) : decideC C m = (x.told, C) := by
  unfold decideC; rw [dec_find hi hx e]; simp only; rw [if_pos hs]
theorem dec_arg (hi : CInv C) {m : Cmd} {x : En} (hx : x ∈ C.book) (e : x.deed = m.deed) (hs : x.state = 1) (hy : m.yes = true) (hb : ¬ (tmR m.at_ ∧ m.at_.mark = m.deed)) : decideC C m = (bad 1, C) := by
  unfold decideC; rw [dec_find hi hx e]; simp only; rw [if_neg (fun h => h hs), if_pos ⟨hy, hb⟩]
theorem dec_set (hi : CInv C) {m : Cmd} {x : En} {i : Nat} (hx : C.book[i]? = some x) (e : x.deed = m.deed) (hs : x.state = 1) (hb : ¬ (m.yes = true ∧ ¬ (tmR m.at_ ∧ m.at_.mark = m.deed))) : decideC C m = ((x.decide_ m).told, { C with book := C.book.set i (x.decide_ m) }) := by
  have hm := List.mem_of_getElem? hx
  have hset : (C.book.map fun y => if y.deed = m.deed then y.decide_ m else y) = C.book.set i (x.decide_ m) := by
    apply List.ext_getElem?
    intro j
    rw [List.getElem?_map, List.getElem?_set]
    by_cases hj : i = j
    · subst hj
      rw [if_pos rfl, if_pos (List.getElem?_eq_some_iff.1 hx).1, hx]
      simp [e]
    · rw [if_neg hj]
      cases hy : C.book[j]? with
      | none => rfl
      | some y =>
        have hne : y.deed ≠ m.deed := fun h2 => by
          have h1 := (hi.entry i x hx).1
          have h3 := (hi.entry j y hy).1
          omega
        simp [hne]
  unfold decideC; rw [dec_find hi hm e]; simp only; rw [if_neg (fun h => h hs), if_neg hb, hset]
/-- an entry of the book set anew -/
theorem set_end {wx w9 : World} {x y : En} {sl : Value} {i g bb n cap : Nat} {d0 d1 d2 d3 d4 d5 : Value} {z : Rep × Cl} {e : Ending} (h : CeAt F w c C N p) (hg : w.heap.size ≤ g) (hx : p.B[i]? = some (x, sl)) (hws : y.ws = x.ws) (hbv : p.bv = .slice (some ⟨bb, 0, none⟩) n cap) (hn : n = p.B.length)
    (hb : Below w.heap.size w wx) (h9 : Below (wx.setCells bb (i * 7) (ecells y sl)).heap.size (wx.setCells bb (i * 7) (ecells y sl)) w9) (he : e = .returned (replyV z.1)) (hz : z.2 = { C with book := C.book.set i y }) (hi : CInv z.2) :
    DoPost F w c p z N e ((((((w9.setCell ⟨g + 1, 0, none⟩ d0).setCell ⟨g + 1, 1, none⟩ d1).setCell ⟨g + 1, 2, none⟩ d2).setCell ⟨g + 1, 3, none⟩ d3).setCell ⟨g + 1, 4, none⟩ d4).setCell ⟨g + 1, 5, none⟩ d5) := by
  subst hn
  have hbb : p.bv.ownBlock = some bb := by rw [hbv]; rfl
  have hbl := h.lt bb (h.Fb bb hbb)
  have hcl := h.blk.lt
  have hil := (List.getElem?_eq_some_iff.1 hx).1
  have t8 : Turn (fun y => y = c ∨ p.bv.ownBlock = some y) w (wx.setCells bb (i * 7) (ecells y sl)) := turn_setCells (.inr hbb) _ _ (Turn.of hb)
  have tZ := turn6 (g := g) hg (t8.next h9) (d0 := d0) (d1 := d1) (d2 := d2) (d3 := d3) (d4 := d4) (d5 := d5)
  have h9b : Turn (fun y => y = g + 1) (wx.setCells bb (i * 7) (ecells y sl)) ((((((w9.setCell ⟨g + 1, 0, none⟩ d0).setCell ⟨g + 1, 1, none⟩ d1).setCell ⟨g + 1, 2, none⟩ d2).setCell ⟨g + 1, 3, none⟩ d3).setCell ⟨g + 1, 4, none⟩ d4).setCell ⟨g + 1, 5, none⟩ d5) :=
    (Turn.of (F := fun y => y = g + 1) h9).trans (own6 w9 g) (fun y hy => .inl hy)
  have hFs : ∀ y, (y = c ∨ p.bv.ownBlock = some y) → F y := fun y hy => by
    rcases hy with rfl | hy
    · exact h.Fc
    · exact h.Fb y hy
  have hrow : Kt.Own 178 7 wx (.slice (some ⟨bb, 0, none⟩) p.B.length cap) p.B.length (flatE p.B) := by rw [← hbv]; exact (h.next hb).book.row
  have hset := own_keep h9b (own_set_en hrow rfl hil y sl) (fun b e h2 => by rw [show bb = b from by simpa [Value.ownBlock] using e] at hbl; omega)
  have hc9 := blk_other6 (g := g) (blk_keep (Turn.of (F := fun y => y = bb) h9) (blk_keep (turn_setCells (F := fun y => y = bb) rfl (ecells y sl) (i * 7) (Turn.refl _ wx)) (h.blk.next hb) (fun e => h.cb c (by rw [hbb, e]) rfl)) (fun e => h.cb c (by rw [hbb, e]) rfl)) (by omega) (d0 := d0) (d1 := d1) (d2 := d2) (d3 := d3) (d4 := d4) (d5 := d5)
  have hkeep : ∀ y, (F y ∨ p.bv.ownBlock = some y) → F y ∨ w.heap.size ≤ y := fun y hy => .inl (hy.elim id (h.Fb y))
  refine post_book (v' := p.bv) (B' := p.B.set i (y, sl)) h he ⟨?_, fun q hq => ?_⟩ (fun b hb => .inl hb) tZ ?_ (by rw [hz]) (by rw [hz]) (by rw [hz]) (by rw [hz, List.map_set, h.told]) hi
  · rw [hbv, List.length_set]; exact hset
  · rcases List.mem_or_eq_of_mem_set hq with hq | rfl
    · exact (h.book.ws q hq).keep (tZ.mono hFs) hkeep
    · have := h.book.ws (x, sl) (List.mem_of_getElem? hx)
      simp only at this ⊢
      rw [hws]
      exact this.keep (tZ.mono hFs) hkeep
  · rw [hz]; exact hc9
set_option maxHeartbeats 8000000 in
theorem decidec_any (m : Cmd) (v : Value) (T : List Wr) (w : World) (h : CeAt F w c C N p) (hm : CmdR w m v T) (hi : CInv (decideC C m).2) :
    Calls Tryz.prog 52 #[.pointer (some ⟨c, 0, none⟩), cmdV m v] w fun e w' => DoPost F w c p (decideC C m) N e w' := by
  obtain ⟨kd, dd, ⟨aw, at1, am⟩, ys, tk, nn, id, ws⟩ := m
  obtain ⟨va, vc, hve, -⟩ := hm.rd.open
  subst hve
  have H := Lib.hid h
  have HM := Lib.hid hm
  have HX := Lib.hid ((Blk.new w #[.int .i64 kd, .int .u32 dd, .int .i64 aw, .int .u32 at1, .int .u32 am, .bool ys, .string tk, .int .i64 nn, .int .i64 id, .slice va T.length vc] 50).next (below_alloc _ (.cells #[.int .i64 0, .int .u32 0, .int .i64 0, .int .i64 0, .int .u32 0, .int .u32 0] 46)))
  have HY := Lib.hid (Blk.new (w.alloc (.cells #[.int .i64 kd, .int .u32 dd, .int .i64 aw, .int .u32 at1, .int .u32 am, .bool ys, .string tk, .int .i64 nn, .int .i64 id, .slice va T.length vc] 50)) #[.int .i64 0, .int .u32 0, .int .i64 0, .int .i64 0, .int .u32 0, .int .u32 0] 46)
  have HB1 := Lib.hid (bel_alloc (o := .cells #[.int .i64 0, .int .u32 0, .int .i64 0, .int .i64 0, .int .u32 0, .int .u32 0] 46) (below_alloc w (.cells #[.int .i64 kd, .int .u32 dd, .int .i64 aw, .int .u32 at1, .int .u32 am, .bool ys, .string tk, .int .i64 nn, .int .i64 id, .slice va T.length vc] 50)))
  rw [World.size_alloc] at HY
  unfold cmdV
  simp only
  clear h hm
  go_enter Tryz.func52, Tryz.ntmps52
  go_upto_region 1 with fail
  generalize (w.alloc (.cells #[.int .i64 kd, .int .u32 dd, .int .i64 aw, .int .u32 at1, .int .u32 am, .bool ys, .string tk, .int .i64 nn, .int .i64 id, .slice va T.length vc] 50)).alloc (.cells #[.int .i64 0, .int .u32 0, .int .i64 0, .int .i64 0, .int .u32 0, .int .u32 0] 46) = w1 at HX HY HB1 ⊢
  have HBr : Hid (∀ W, Below w1.heap.size w1 W → Below w.heap.size w W) := Lib.hid (fun W hW => bel_trans HB1.out hW)
  have HG : Hid (w.heap.size < w1.heap.size) := Lib.hid HX.out.lt
  generalize hg : w.heap.size = g at HX HY ⊢
  have x1 : w1.cell? ⟨g, 1, none⟩ = some (.int .u32 dd) := (HX.out.next (bel_refl w1)).cell 1
  have HYf : Hid (∀ W, Below w1.heap.size w1 W → W.cell? ⟨g + 1, 0, none⟩ = some (.int .i64 0) ∧ W.frozen? ⟨g + 1, 0, none⟩ = false ∧ W.cell? ⟨g + 1, 1, none⟩ = some (.int .u32 0) ∧ W.frozen? ⟨g + 1, 1, none⟩ = false ∧ W.cell? ⟨g + 1, 2, none⟩ = some (.int .i64 0) ∧ W.frozen? ⟨g + 1, 2, none⟩ = false ∧ W.cell? ⟨g + 1, 3, none⟩ = some (.int .i64 0) ∧ W.frozen? ⟨g + 1, 3, none⟩ = false ∧ W.cell? ⟨g + 1, 4, none⟩ = some (.int .u32 0) ∧ W.frozen? ⟨g + 1, 4, none⟩ = false ∧ W.cell? ⟨g + 1, 5, none⟩ = some (.int .u32 0) ∧ W.frozen? ⟨g + 1, 5, none⟩ = false) := Lib.hid (fun W hW => ⟨(HY.out.next hW).cell 0, (HY.out.next hW).free 0, (HY.out.next hW).cell 1, (HY.out.next hW).free 1, (HY.out.next hW).cell 2, (HY.out.next hW).free 2, (HY.out.next hW).cell 3, (HY.out.next hW).free 3, (HY.out.next hW).cell 4, (HY.out.next hW).free 4, (HY.out.next hW).cell 5, (HY.out.next hW).free 5⟩)
  obtain ⟨ba, bc, hbv, hb1, hb2, hbcell⟩ := H.out.book.cells
  have HCell := Lib.hid hbcell
  have HBv := Lib.hid hbv
  have HBl : Hid (p.B.length ≤ bc ∧ bc ≤ 9223372036854775807 ∧ p.B.length = C.book.length ∧ p.B.length ≤ 1024) := Lib.hid ⟨hb1, hb2, by rw [← H.out.told, List.length_map], by rw [← List.length_map (f := Prod.fst), H.out.told]; exact H.out.inv.nbook⟩
  clear hbcell hbv hb1 hb2
  have HC4 : Hid (∀ W, Below w1.heap.size w1 W → W.cell? ⟨c, 4, none⟩ = some (.slice ba p.B.length bc)) := Lib.hid (fun W hW => by rw [← HBv.out]; exact (H.out.next (HBr.out _ hW)).blk.cell 4)
  have c4 := HC4.out w1 (bel_refl w1)
  have HB3 := Lib.hid (bel_refl w1)
  go_upto_region 2 with fail
  clear c4
  have HN0 : Hid (∀ (j : Nat) y, j < 0 → p.B[j]? = some y → y.1.deed ≠ dd) := Lib.hid (fun j y h => by omega)
  go_loopw [12] (fun i wr => ∃ k : Nat, k ≤ p.B.length ∧ i = .int .i64 k ∧ Hid (∀ (j : Nat) y, j < k → p.B[j]? = some y → y.1.deed ≠ dd) ∧ Hid (Below w1.heap.size w1 wr)) (fun i _ => p.B.length - (intOf i).toNat)
  case atStart => exact ⟨0, by omega, rfl, HN0, HB3⟩
  case round =>
    clear HN0 HB3 x1
    obtain ⟨k, hk, rfl, HN, HB⟩ := hrel
    by_cases hlt : k < p.B.length
    · obtain ⟨q, hq⟩ : ∃ q, p.B[k]? = some q := ⟨p.B[k], List.getElem?_eq_getElem hlt⟩
      obtain ⟨b, rfl, hbl, c0, c1, c2, c3, c40, c5, c6⟩ := HCell.out k q hq
      have hrd : RdB F wr q.2 q.1.ws := ((H.out.next (HBr.out _ HB.out)).book.ws q (List.mem_of_getElem? hq))
      have Hmem : Hid (q.1 ∈ C.book) := Lib.hid (by rw [← H.out.told]; exact List.mem_map_of_mem (List.mem_of_getElem? hq))
      have Hq := Lib.hid hq
      obtain ⟨⟨etk, edd, est, ⟨ew, et, em⟩, ews⟩, sl⟩ := q
      obtain ⟨T2, hT2, hT3⟩ := hrd
      obtain ⟨sa, sc, hsl, -⟩ := hT2.rd.open
      simp only at c0 c1 c2 c3 c40 c5 c6 hsl hT3 hT2
      subst hsl
      have hB := HBr.out _ HB.out
      have d0 : wr.cell? ⟨b, k * 7, none⟩ = some (.string etk) := (hB.cell (p := ⟨b, _, none⟩) hbl).trans c0
      have d1 : wr.cell? ⟨b, k * 7 + 1, none⟩ = some (.int .u32 edd) := (hB.cell (p := ⟨b, _, none⟩) hbl).trans c1
      have d2 : wr.cell? ⟨b, k * 7 + 2, none⟩ = some (.int .i64 est) := (hB.cell (p := ⟨b, _, none⟩) hbl).trans c2
      have d3 : wr.cell? ⟨b, k * 7 + 3, none⟩ = some (.int .i64 ew) := (hB.cell (p := ⟨b, _, none⟩) hbl).trans c3
      have d4 : wr.cell? ⟨b, k * 7 + 4, none⟩ = some (.int .u32 et) := (hB.cell (p := ⟨b, _, none⟩) hbl).trans c40
      have d5 : wr.cell? ⟨b, k * 7 + 5, none⟩ = some (.int .u32 em) := (hB.cell (p := ⟨b, _, none⟩) hbl).trans c5
      have d6 : wr.cell? ⟨b, k * 7 + 6, none⟩ = some (.slice sa T2.length sc) := (hB.cell (p := ⟨b, _, none⟩) hbl).trans c6
      have hk1 : (0 : Int) ≤ (k : Int) := by omega
      have hk2 : (k : Int) < (p.B.length : Int) := by omega
      have HX5 := Lib.hid (Blk.new wr #[.string etk, .int .u32 edd, .int .i64 est, .int .i64 ew, .int .u32 et, .int .u32 em, .slice sa T2.length sc] 178)
      have HBa5 := Lib.hid (below_alloc wr (.cells #[.string etk, .int .u32 edd, .int .i64 est, .int .i64 ew, .int .u32 et, .int .u32 em, .slice sa T2.length sc] 178))
      have HT3 := Lib.hid hT3
      have Hlt := Lib.hid hlt
      have Hbl := Lib.hid hbl
      clear c0 c1 c2 c3 c40 c5 c6 hB hq hT2 hT3
      go_upto_region 4 with fail
      clear d0 d1 d2 d3 d4 d5 d6
      generalize wr.alloc (.cells #[.string etk, .int .u32 edd, .int .i64 est, .int .i64 ew, .int .u32 et, .int .u32 em, .slice sa T2.length sc] 178) = w5 at HX5 HBa5 ⊢
      obtain ⟨g5, hg5⟩ : ∃ g, wr.heap.size = g := ⟨_, rfl⟩
      rw [hg5] at HX5 ⊢
      have HB5 := Lib.hid (bel_trans HB.out HBa5.out)
      have e1 : w5.cell? ⟨g5, 1, none⟩ = some (.int .u32 edd) := HX5.out.cell 1
      have x1 : w5.cell? ⟨g, 1, none⟩ = some (.int .u32 dd) := (HX.out.next HB5.out).cell 1
      by_cases ht : edd = dd
      · subst ht
        have e2 : w5.cell? ⟨g5, 2, none⟩ = some (.int .i64 est) := HX5.out.cell 2
        by_cases hs : est = 1
        · subst hs
          go_upto_region 7 with fail
          clear e1 x1
          have F2 : w5.frozen? ⟨g5, 2, none⟩ = false := HX5.out.free 2
          have x5 : w5.cell? ⟨g, 5, none⟩ = some (.bool ys) := (HX.out.next HB5.out).cell 5
          have hg5l : w1.heap.size ≤ g5 := by have := HB.out.size; omega
          go_upto_region 8 with fail
          have HX6 : Hid (Blk (w5.setCell ⟨g5, 2, none⟩ (.int .i64 3)) g5 #[.string etk, .int .u32 edd, .int .i64 3, .int .i64 ew, .int .u32 et, .int .u32 em, .slice sa T2.length sc] 178) := Lib.hid (by simpa using HX5.out.set 2 (.int .i64 3))
          have HB6 := Lib.hid (bel_set (p := ⟨g5, 2, none⟩) (u := .int .i64 3) HB5.out hg5l)
          clear F2 e2
          generalize w5.setCell ⟨g5, 2, none⟩ (.int .i64 3) = w6 at HX6 HB6 ⊢
          have x5 : w6.cell? ⟨g, 5, none⟩ = some (.bool ys) := (HX.out.next HB6.out).cell 5
          cases ys with
          | false =>
            go_upto_region 12 with fail
            clear x5
            have HE : Hid (decideC C ⟨kd, edd, ⟨aw, at1, am⟩, false, tk, nn, id, ws⟩ = ((⟨etk, edd, 3, ⟨ew, et, em⟩, ews⟩ : En).told, { C with book := C.book.set k ⟨etk, edd, 3, ⟨ew, et, em⟩, ews⟩ })) := Lib.hid (by
              have := dec_set (m := ⟨kd, edd, ⟨aw, at1, am⟩, false, tk, nn, id, ws⟩) (x := ⟨etk, edd, 1, ⟨ew, et, em⟩, ews⟩) (i := k) H.out.inv (by rw [← H.out.told, List.getElem?_map, Hq.out]; rfl) rfl rfl (fun h => by cases h.1)
              simpa [En.decide_] using this)
            have HTl := Lib.hid (fun W => told_any ⟨etk, edd, 3, ⟨ew, et, em⟩, ews⟩ sa T2.length sc W)
            unfold replyV replyA eval1 En.told at HTl
            simp only at HTl
            have HCw := Lib.hid (H.out.next (HBr.out _ HB6.out))
            have c4 : w6.cell? ⟨c, 4, none⟩ = some (.slice (some ⟨b, 0, none⟩) p.B.length bc) := HC4.out w6 HB6.out
            have HRow : Hid (Kt.Own 178 7 w6 (.slice (some ⟨b, 0, none⟩) p.B.length bc) p.B.length (flatE p.B)) := Lib.hid (by rw [← HBv.out]; exact HCw.out.book.row)
            have HFr : Hid (∀ j, j < 7 → w6.frozen? ⟨b, k * 7 + j, none⟩ = false) := Lib.hid (fun j hj => by
              have h1 := Hlt.out
              obtain ⟨b', c', e, -, h2, -⟩ := own_place HRow.out (j := k * 7 + j) (by omega)
              cases e
              exact h2)
            have HCl : Hid (w6.cell? ⟨b, k * 7, none⟩ = some (.string etk) ∧ w6.cell? ⟨b, k * 7 + 1, none⟩ = some (.int .u32 edd) ∧ w6.cell? ⟨b, k * 7 + 2, none⟩ = some (.int .i64 1) ∧ w6.cell? ⟨b, k * 7 + 3, none⟩ = some (.int .i64 ew) ∧ w6.cell? ⟨b, k * 7 + 4, none⟩ = some (.int .u32 et) ∧ w6.cell? ⟨b, k * 7 + 5, none⟩ = some (.int .u32 em) ∧ w6.cell? ⟨b, k * 7 + 6, none⟩ = some (.slice sa T2.length sc)) := Lib.hid (by
              obtain ⟨a', c', e, -, -, h3⟩ := HCw.out.book.cells
              rw [HBv.out] at e
              cases e
              obtain ⟨g', e', -, q⟩ := h3 k _ Hq.out
              cases e'
              exact q)
            have r0 : w6.frozen? ⟨b, k * 7, none⟩ = false := HFr.out 0 (by omega)
            have hbg : b ≠ g5 := by have := Hbl.out; have := HG.out; omega
            have hk1 : (0 : Int) ≤ (k : Int) := by omega
            have hk2 : (k : Int) < (p.B.length : Int) := by have := Hlt.out; omega
            obtain ⟨k0, k1, k2, k3, k4, k5, k6⟩ := HCl.out
            have r1 : w6.frozen? ⟨b, k * 7 + 1, none⟩ = false := HFr.out 1 (by omega)
            have r2 : w6.frozen? ⟨b, k * 7 + 2, none⟩ = false := HFr.out 2 (by omega)
            have r3 : w6.frozen? ⟨b, k * 7 + 3, none⟩ = false := HFr.out 3 (by omega)
            have r4 : w6.frozen? ⟨b, k * 7 + 4, none⟩ = false := HFr.out 4 (by omega)
            have r5 : w6.frozen? ⟨b, k * 7 + 5, none⟩ = false := HFr.out 5 (by omega)
            have r6 : w6.frozen? ⟨b, k * 7 + 6, none⟩ = false := HFr.out 6 (by omega)
            have e0 : w6.cell? ⟨g5, 0, none⟩ = some (.string etk) := HX6.out.cell 0
            have e1 : w6.cell? ⟨g5, 1, none⟩ = some (.int .u32 edd) := HX6.out.cell 1
            have e2 : w6.cell? ⟨g5, 2, none⟩ = some (.int .i64 3) := HX6.out.cell 2
            have e3 : w6.cell? ⟨g5, 3, none⟩ = some (.int .i64 ew) := HX6.out.cell 3
            have e4 : w6.cell? ⟨g5, 4, none⟩ = some (.int .u32 et) := HX6.out.cell 4
            have e5 : w6.cell? ⟨g5, 5, none⟩ = some (.int .u32 em) := HX6.out.cell 5
            have e6 : w6.cell? ⟨g5, 6, none⟩ = some (.slice sa T2.length sc) := HX6.out.cell 6
            go_region
            clear c4 e0 k0 r0 e1 k1 r1 e2 k2 r2 e3 k3 r3 e4 k4 r4 e5 k5 r5 e6 k6 r6
            generalize hw8 : (((((((w6.setCell ⟨b, k * 7, none⟩ (.string etk)).setCell ⟨b, k * 7 + 1, none⟩ (.int .u32 edd)).setCell ⟨b, k * 7 + 2, none⟩ (.int .i64 3)).setCell ⟨b, k * 7 + 3, none⟩ (.int .i64 ew)).setCell ⟨b, k * 7 + 4, none⟩ (.int .u32 et)).setCell ⟨b, k * 7 + 5, none⟩ (.int .u32 em)).setCell ⟨b, k * 7 + 6, none⟩ (.slice sa T2.length sc)).drew = w8
            have Hw8 : Hid (w8 = (w6.setCells b (k * 7) (ecells ⟨etk, edd, 3, ⟨ew, et, em⟩, ews⟩ (.slice sa T2.length sc))).drew) := Lib.hid (by rw [← hw8]; rfl)
            clear hw8
            have HT8 : Hid (Turn (fun y => y = b) w6 w8) := Lib.hid (by rw [Hw8.out]; exact (turn_setCells (F := fun y => y = b) rfl _ _ (Turn.refl _ _)).next (bel_drew (bel_refl _)))
            have hbg1 : g + 1 ≠ b := by have := Hbl.out; omega
            have HX8 : Hid (Blk w8 g5 #[.string etk, .int .u32 edd, .int .i64 3, .int .i64 ew, .int .u32 et, .int .u32 em, .slice sa T2.length sc] 178) := Lib.hid (blk_keep HT8.out HX6.out (fun e => hbg e.symm))
            have HY8 : Hid (Blk w8 (g + 1) #[.int .i64 0, .int .u32 0, .int .i64 0, .int .i64 0, .int .u32 0, .int .u32 0] 46) := Lib.hid (blk_keep HT8.out (HY.out.next HB6.out) hbg1)
            have HYf8 : Hid (∀ W, Below w8.heap.size w8 W → W.cell? ⟨g + 1, 0, none⟩ = some (.int .i64 0) ∧ W.frozen? ⟨g + 1, 0, none⟩ = false ∧ W.cell? ⟨g + 1, 1, none⟩ = some (.int .u32 0) ∧ W.frozen? ⟨g + 1, 1, none⟩ = false ∧ W.cell? ⟨g + 1, 2, none⟩ = some (.int .i64 0) ∧ W.frozen? ⟨g + 1, 2, none⟩ = false ∧ W.cell? ⟨g + 1, 3, none⟩ = some (.int .i64 0) ∧ W.frozen? ⟨g + 1, 3, none⟩ = false ∧ W.cell? ⟨g + 1, 4, none⟩ = some (.int .u32 0) ∧ W.frozen? ⟨g + 1, 4, none⟩ = false ∧ W.cell? ⟨g + 1, 5, none⟩ = some (.int .u32 0) ∧ W.frozen? ⟨g + 1, 5, none⟩ = false) := Lib.hid (fun W hW => ⟨(HY8.out.next hW).cell 0, (HY8.out.next hW).free 0, (HY8.out.next hW).cell 1, (HY8.out.next hW).free 1, (HY8.out.next hW).cell 2, (HY8.out.next hW).free 2, (HY8.out.next hW).cell 3, (HY8.out.next hW).free 3, (HY8.out.next hW).cell 4, (HY8.out.next hW).free 4, (HY8.out.next hW).cell 5, (HY8.out.next hW).free 5⟩)
            have e0 : w8.cell? ⟨g5, 0, none⟩ = some (.string etk) := HX8.out.cell 0
            have e1 : w8.cell? ⟨g5, 1, none⟩ = some (.int .u32 edd) := HX8.out.cell 1
            have e2 : w8.cell? ⟨g5, 2, none⟩ = some (.int .i64 3) := HX8.out.cell 2
            have e3 : w8.cell? ⟨g5, 3, none⟩ = some (.int .i64 ew) := HX8.out.cell 3
            have e4 : w8.cell? ⟨g5, 4, none⟩ = some (.int .u32 et) := HX8.out.cell 4
            have e5 : w8.cell? ⟨g5, 5, none⟩ = some (.int .u32 em) := HX8.out.cell 5
            have e6 : w8.cell? ⟨g5, 6, none⟩ = some (.slice sa T2.length sc) := HX8.out.cell 6
            have Hi := Lib.hid hi
            clear hi
            go_wp2_with (first
              | (go_at_call 128; refine (HTl.out _).mono ?_; rintro e w9 ⟨rfl, hb9⟩; have HB9 := Lib.hid hb9; clear hb9; obtain ⟨y0, f0, y1, f1, y2, f2, y3, f3, y4, f4, y5, f5⟩ := HYf8.out w9 HB9.out)
              | fail)
            have hY := set6 (HY8.out.next HB9.out) (.int .i64 0) (.int .u32 edd) (.int .i64 3) (.int .i64 ew) (.int .u32 et) (.int .u32 em)
            have z0 : ((((((w9.setCell ⟨g + 1, 0, none⟩ (.int .i64 0)).setCell ⟨g + 1, 1, none⟩ (.int .u32 edd)).setCell ⟨g + 1, 2, none⟩ (.int .i64 3)).setCell ⟨g + 1, 3, none⟩ (.int .i64 ew)).setCell ⟨g + 1, 4, none⟩ (.int .u32 et)).setCell ⟨g + 1, 5, none⟩ (.int .u32 em)).cell? ⟨g + 1, 0, none⟩ = some (.int .i64 0) := hY.cell 0
            have z1 : ((((((w9.setCell ⟨g + 1, 0, none⟩ (.int .i64 0)).setCell ⟨g + 1, 1, none⟩ (.int .u32 edd)).setCell ⟨g + 1, 2, none⟩ (.int .i64 3)).setCell ⟨g + 1, 3, none⟩ (.int .i64 ew)).setCell ⟨g + 1, 4, none⟩ (.int .u32 et)).setCell ⟨g + 1, 5, none⟩ (.int .u32 em)).cell? ⟨g + 1, 1, none⟩ = some (.int .u32 edd) := hY.cell 1
            have z2 : ((((((w9.setCell ⟨g + 1, 0, none⟩ (.int .i64 0)).setCell ⟨g + 1, 1, none⟩ (.int .u32 edd)).setCell ⟨g + 1, 2, none⟩ (.int .i64 3)).setCell ⟨g + 1, 3, none⟩ (.int .i64 ew)).setCell ⟨g + 1, 4, none⟩ (.int .u32 et)).setCell ⟨g + 1, 5, none⟩ (.int .u32 em)).cell? ⟨g + 1, 2, none⟩ = some (.int .i64 3) := hY.cell 2
            have z3 : ((((((w9.setCell ⟨g + 1, 0, none⟩ (.int .i64 0)).setCell ⟨g + 1, 1, none⟩ (.int .u32 edd)).setCell ⟨g + 1, 2, none⟩ (.int .i64 3)).setCell ⟨g + 1, 3, none⟩ (.int .i64 ew)).setCell ⟨g + 1, 4, none⟩ (.int .u32 et)).setCell ⟨g + 1, 5, none⟩ (.int .u32 em)).cell? ⟨g + 1, 3, none⟩ = some (.int .i64 ew) := hY.cell 3
            have z4 : ((((((w9.setCell ⟨g + 1, 0, none⟩ (.int .i64 0)).setCell ⟨g + 1, 1, none⟩ (.int .u32 edd)).setCell ⟨g + 1, 2, none⟩ (.int .i64 3)).setCell ⟨g + 1, 3, none⟩ (.int .i64 ew)).setCell ⟨g + 1, 4, none⟩ (.int .u32 et)).setCell ⟨g + 1, 5, none⟩ (.int .u32 em)).cell? ⟨g + 1, 4, none⟩ = some (.int .u32 et) := hY.cell 4
            have z5 : ((((((w9.setCell ⟨g + 1, 0, none⟩ (.int .i64 0)).setCell ⟨g + 1, 1, none⟩ (.int .u32 edd)).setCell ⟨g + 1, 2, none⟩ (.int .i64 3)).setCell ⟨g + 1, 3, none⟩ (.int .i64 ew)).setCell ⟨g + 1, 4, none⟩ (.int .u32 et)).setCell ⟨g + 1, 5, none⟩ (.int .u32 em)).cell? ⟨g + 1, 5, none⟩ = some (.int .u32 em) := hY.cell 5
            refine bodyPost_ret (v := .agg #[.int .i64 0, .int .u32 edd, .int .i64 3, .int .i64 ew, .int .u32 et, .int .u32 em]) (by simp [results, Tryz.results52, go_sem, z0, z1, z2, z3, z4, z5]) rfl ?_
            exact set_end (wx := w6) H.out (Nat.le_of_eq hg) Hq.out (y := ⟨etk, edd, 3, ⟨ew, et, em⟩, ews⟩) rfl HBv.out rfl (HBr.out _ HB6.out) (by have := HB9.out; rw [Hw8.out] at this; exact bel_trans (bel_drew (bel_refl _)) this) (by rw [HE.out]; rfl) (by rw [HE.out]) Hi.out
          | true =>
            have HR := Lib.hid (fun W => str_any ⟨aw, at1, am⟩ W)
            unfold Tm.val at HR
            simp only [stR_tm] at HR
            have x1 : w6.cell? ⟨g, 1, none⟩ = some (.int .u32 edd) := (HX.out.next HB6.out).cell 1
            have x2 : w6.cell? ⟨g, 2, none⟩ = some (.int .i64 aw) := (HX.out.next HB6.out).cell 2
            have x3 : w6.cell? ⟨g, 3, none⟩ = some (.int .u32 at1) := (HX.out.next HB6.out).cell 3
            have x4 : w6.cell? ⟨g, 4, none⟩ = some (.int .u32 am) := (HX.out.next HB6.out).cell 4
            by_cases hr : tmR ⟨aw, at1, am⟩
            · have hd : decide (tmR ⟨aw, at1, am⟩) = true := by simpa using hr
              rw [hd] at HR
              clear hd
              by_cases hm : am = edd
              · have hmb : (am == edd) = true := by simp [hm]
                have HRa : Hid (tmR ⟨aw, at1, am⟩ ∧ am = edd) := Lib.hid ⟨hr, hm⟩
                clear hr hm
                go_upto_region 11 with (first
                  | (go_at_call 73; refine (HR.out _).mono ?_; rintro e w7 ⟨rfl, hb7⟩; have HB67 := Lib.hid hb7; have HB7 := Lib.hid (bel_trans HB6.out hb7); clear hb7; have X1 : w7.cell? ⟨g, 1, none⟩ = some (.int .u32 edd) := (HX.out.next HB7.out).cell 1; have X4 : w7.cell? ⟨g, 4, none⟩ = some (.int .u32 am) := (HX.out.next HB7.out).cell 4)
                  | fail)
                clear x1 x2 x3 x4 x5 X1 X4 hmb
                have HX7 := Lib.hid (HX6.out.next HB67.out)
                have HXc := Lib.hid (HX.out.next HB7.out)
                have x2 : w7.cell? ⟨g, 2, none⟩ = some (.int .i64 aw) := HXc.out.cell 2
                have x3 : w7.cell? ⟨g, 3, none⟩ = some (.int .u32 at1) := HXc.out.cell 3
                have x4 : w7.cell? ⟨g, 4, none⟩ = some (.int .u32 am) := HXc.out.cell 4
                have e2 : w7.cell? ⟨g5, 2, none⟩ = some (.int .i64 3) := HX7.out.cell 2
                have q2 : w7.frozen? ⟨g5, 2, none⟩ = false := HX7.out.free 2
                have e3 : w7.cell? ⟨g5, 3, none⟩ = some (.int .i64 ew) := HX7.out.cell 3
                have q3 : w7.frozen? ⟨g5, 3, none⟩ = false := HX7.out.free 3
                have e4 : w7.cell? ⟨g5, 4, none⟩ = some (.int .u32 et) := HX7.out.cell 4
                have q4 : w7.frozen? ⟨g5, 4, none⟩ = false := HX7.out.free 4
                have e5 : w7.cell? ⟨g5, 5, none⟩ = some (.int .u32 em) := HX7.out.cell 5
                have q5 : w7.frozen? ⟨g5, 5, none⟩ = false := HX7.out.free 5
                have hne : g ≠ g5 := by have := HG.out; omega
                have hne2 : g5 ≠ g := by have := HG.out; omega
                go_region
                have HXa : Hid (Blk ((((w7.setCell ⟨g5, 2, none⟩ (.int .i64 2)).setCell ⟨g5, 3, none⟩ (.int .i64 aw)).setCell ⟨g5, 4, none⟩ (.int .u32 at1)).setCell ⟨g5, 5, none⟩ (.int .u32 am)).drew g5 #[.string etk, .int .u32 edd, .int .i64 2, .int .i64 aw, .int .u32 at1, .int .u32 am, .slice sa T2.length sc] 178) := Lib.hid (by simpa using ((((HX7.out.set 2 (.int .i64 2)).set 3 (.int .i64 aw)).set 4 (.int .u32 at1)).set 5 (.int .u32 am)).next (bel_drew (bel_refl _)))
                have HBa : Hid (Below w1.heap.size w1 ((((w7.setCell ⟨g5, 2, none⟩ (.int .i64 2)).setCell ⟨g5, 3, none⟩ (.int .i64 aw)).setCell ⟨g5, 4, none⟩ (.int .u32 at1)).setCell ⟨g5, 5, none⟩ (.int .u32 am)).drew) := Lib.hid (bel_drew (bel_set (bel_set (bel_set (bel_set HB7.out hg5l) hg5l) hg5l) hg5l))
                clear x2 x3 x4 e2 e3 e4 e5 q2 q3 q4 q5
                generalize ((((w7.setCell ⟨g5, 2, none⟩ (.int .i64 2)).setCell ⟨g5, 3, none⟩ (.int .i64 aw)).setCell ⟨g5, 4, none⟩ (.int .u32 at1)).setCell ⟨g5, 5, none⟩ (.int .u32 am)).drew = w10 at HXa HBa ⊢
                go_upto_region 12 with fail
                have HE : Hid (decideC C ⟨kd, edd, ⟨aw, at1, am⟩, true, tk, nn, id, ws⟩ = ((⟨etk, edd, 2, ⟨aw, at1, am⟩, ews⟩ : En).told, { C with book := C.book.set k ⟨etk, edd, 2, ⟨aw, at1, am⟩, ews⟩ })) := Lib.hid (by
                  have := dec_set (m := ⟨kd, edd, ⟨aw, at1, am⟩, true, tk, nn, id, ws⟩) (x := ⟨etk, edd, 1, ⟨ew, et, em⟩, ews⟩) (i := k) H.out.inv (by rw [← H.out.told, List.getElem?_map, Hq.out]; rfl) rfl rfl (fun h => h.2 HRa.out)
                  simpa [En.decide_] using this)
                have HTl := Lib.hid (fun W => told_any ⟨etk, edd, 2, ⟨aw, at1, am⟩, ews⟩ sa T2.length sc W)
                unfold replyV replyA eval1 En.told at HTl
                simp only at HTl
                have HCw := Lib.hid (H.out.next (HBr.out _ HBa.out))
                have c4 : w10.cell? ⟨c, 4, none⟩ = some (.slice (some ⟨b, 0, none⟩) p.B.length bc) := HC4.out w10 HBa.out
                have HRow : Hid (Kt.Own 178 7 w10 (.slice (some ⟨b, 0, none⟩) p.B.length bc) p.B.length (flatE p.B)) := Lib.hid (by rw [← HBv.out]; exact HCw.out.book.row)
                have HFr : Hid (∀ j, j < 7 → w10.frozen? ⟨b, k * 7 + j, none⟩ = false) := Lib.hid (fun j hj => by
                  have h1 := Hlt.out
                  obtain ⟨b', c', e, -, h2, -⟩ := own_place HRow.out (j := k * 7 + j) (by omega)
                  cases e
                  exact h2)
                have HCl : Hid (w10.cell? ⟨b, k * 7, none⟩ = some (.string etk) ∧ w10.cell? ⟨b, k * 7 + 1, none⟩ = some (.int .u32 edd) ∧ w10.cell? ⟨b, k * 7 + 2, none⟩ = some (.int .i64 1) ∧ w10.cell? ⟨b, k * 7 + 3, none⟩ = some (.int .i64 ew) ∧ w10.cell? ⟨b, k * 7 + 4, none⟩ = some (.int .u32 et) ∧ w10.cell? ⟨b, k * 7 + 5, none⟩ = some (.int .u32 em) ∧ w10.cell? ⟨b, k * 7 + 6, none⟩ = some (.slice sa T2.length sc)) := Lib.hid (by
                  obtain ⟨a', c', e, -, -, h3⟩ := HCw.out.book.cells
                  rw [HBv.out] at e
                  cases e
                  obtain ⟨g', e', -, q⟩ := h3 k _ Hq.out
                  cases e'
                  exact q)
                have r0 : w10.frozen? ⟨b, k * 7, none⟩ = false := HFr.out 0 (by omega)
                have hbg : b ≠ g5 := by have := Hbl.out; have := HG.out; omega
                have hk1 : (0 : Int) ≤ (k : Int) := by omega
                have hk2 : (k : Int) < (p.B.length : Int) := by have := Hlt.out; omega
                obtain ⟨k0, k1, k2, k3, k4, k5, k6⟩ := HCl.out
                have r1 : w10.frozen? ⟨b, k * 7 + 1, none⟩ = false := HFr.out 1 (by omega)
                have r2 : w10.frozen? ⟨b, k * 7 + 2, none⟩ = false := HFr.out 2 (by omega)
                have r3 : w10.frozen? ⟨b, k * 7 + 3, none⟩ = false := HFr.out 3 (by omega)
                have r4 : w10.frozen? ⟨b, k * 7 + 4, none⟩ = false := HFr.out 4 (by omega)
                have r5 : w10.frozen? ⟨b, k * 7 + 5, none⟩ = false := HFr.out 5 (by omega)
                have r6 : w10.frozen? ⟨b, k * 7 + 6, none⟩ = false := HFr.out 6 (by omega)
                have e0 : w10.cell? ⟨g5, 0, none⟩ = some (.string etk) := HXa.out.cell 0
                have e1 : w10.cell? ⟨g5, 1, none⟩ = some (.int .u32 edd) := HXa.out.cell 1
                have e2 : w10.cell? ⟨g5, 2, none⟩ = some (.int .i64 2) := HXa.out.cell 2
                have e3 : w10.cell? ⟨g5, 3, none⟩ = some (.int .i64 aw) := HXa.out.cell 3
                have e4 : w10.cell? ⟨g5, 4, none⟩ = some (.int .u32 at1) := HXa.out.cell 4
                have e5 : w10.cell? ⟨g5, 5, none⟩ = some (.int .u32 am) := HXa.out.cell 5
                have e6 : w10.cell? ⟨g5, 6, none⟩ = some (.slice sa T2.length sc) := HXa.out.cell 6
                go_region
                clear c4 e0 k0 r0 e1 k1 r1 e2 k2 r2 e3 k3 r3 e4 k4 r4 e5 k5 r5 e6 k6 r6
                generalize hw8 : (((((((w10.setCell ⟨b, k * 7, none⟩ (.string etk)).setCell ⟨b, k * 7 + 1, none⟩ (.int .u32 edd)).setCell ⟨b, k * 7 + 2, none⟩ (.int .i64 2)).setCell ⟨b, k * 7 + 3, none⟩ (.int .i64 aw)).setCell ⟨b, k * 7 + 4, none⟩ (.int .u32 at1)).setCell ⟨b, k * 7 + 5, none⟩ (.int .u32 am)).setCell ⟨b, k * 7 + 6, none⟩ (.slice sa T2.length sc)).drew = w8
                have Hw8 : Hid (w8 = (w10.setCells b (k * 7) (ecells ⟨etk, edd, 2, ⟨aw, at1, am⟩, ews⟩ (.slice sa T2.length sc))).drew) := Lib.hid (by rw [← hw8]; rfl)
                clear hw8
                have HT8 : Hid (Turn (fun y => y = b) w10 w8) := Lib.hid (by rw [Hw8.out]; exact (turn_setCells (F := fun y => y = b) rfl _ _ (Turn.refl _ _)).next (bel_drew (bel_refl _)))
                have hbg1 : g + 1 ≠ b := by have := Hbl.out; omega
                have HX8 : Hid (Blk w8 g5 #[.string etk, .int .u32 edd, .int .i64 2, .int .i64 aw, .int .u32 at1, .int .u32 am, .slice sa T2.length sc] 178) := Lib.hid (blk_keep HT8.out HXa.out (fun e => hbg e.symm))
                have HY8 : Hid (Blk w8 (g + 1) #[.int .i64 0, .int .u32 0, .int .i64 0, .int .i64 0, .int .u32 0, .int .u32 0] 46) := Lib.hid (blk_keep HT8.out (HY.out.next HBa.out) hbg1)
                have HYf8 : Hid (∀ W, Below w8.heap.size w8 W → W.cell? ⟨g + 1, 0, none⟩ = some (.int .i64 0) ∧ W.frozen? ⟨g + 1, 0, none⟩ = false ∧ W.cell? ⟨g + 1, 1, none⟩ = some (.int .u32 0) ∧ W.frozen? ⟨g + 1, 1, none⟩ = false ∧ W.cell? ⟨g + 1, 2, none⟩ = some (.int .i64 0) ∧ W.frozen? ⟨g + 1, 2, none⟩ = false ∧ W.cell? ⟨g + 1, 3, none⟩ = some (.int .i64 0) ∧ W.frozen? ⟨g + 1, 3, none⟩ = false ∧ W.cell? ⟨g + 1, 4, none⟩ = some (.int .u32 0) ∧ W.frozen? ⟨g + 1, 4, none⟩ = false ∧ W.cell? ⟨g + 1, 5, none⟩ = some (.int .u32 0) ∧ W.frozen? ⟨g + 1, 5, none⟩ = false) := Lib.hid (fun W hW => ⟨(HY8.out.next hW).cell 0, (HY8.out.next hW).free 0, (HY8.out.next hW).cell 1, (HY8.out.next hW).free 1, (HY8.out.next hW).cell 2, (HY8.out.next hW).free 2, (HY8.out.next hW).cell 3, (HY8.out.next hW).free 3, (HY8.out.next hW).cell 4, (HY8.out.next hW).free 4, (HY8.out.next hW).cell 5, (HY8.out.next hW).free 5⟩)
                have e0 : w8.cell? ⟨g5, 0, none⟩ = some (.string etk) := HX8.out.cell 0
                have e1 : w8.cell? ⟨g5, 1, none⟩ = some (.int .u32 edd) := HX8.out.cell 1
                have e2 : w8.cell? ⟨g5, 2, none⟩ = some (.int .i64 2) := HX8.out.cell 2
                have e3 : w8.cell? ⟨g5, 3, none⟩ = some (.int .i64 aw) := HX8.out.cell 3
                have e4 : w8.cell? ⟨g5, 4, none⟩ = some (.int .u32 at1) := HX8.out.cell 4
                have e5 : w8.cell? ⟨g5, 5, none⟩ = some (.int .u32 am) := HX8.out.cell 5
                have e6 : w8.cell? ⟨g5, 6, none⟩ = some (.slice sa T2.length sc) := HX8.out.cell 6
                have Hi := Lib.hid hi
                clear hi
                go_wp2_with (first
                  | (go_at_call 128; refine (HTl.out _).mono ?_; rintro e w9 ⟨rfl, hb9⟩; have HB9 := Lib.hid hb9; clear hb9; obtain ⟨y0, f0, y1, f1, y2, f2, y3, f3, y4, f4, y5, f5⟩ := HYf8.out w9 HB9.out)
                  | fail)
                have hY := set6 (HY8.out.next HB9.out) (.int .i64 0) (.int .u32 edd) (.int .i64 2) (.int .i64 aw) (.int .u32 at1) (.int .u32 am)
                have z0 : ((((((w9.setCell ⟨g + 1, 0, none⟩ (.int .i64 0)).setCell ⟨g + 1, 1, none⟩ (.int .u32 edd)).setCell ⟨g + 1, 2, none⟩ (.int .i64 2)).setCell ⟨g + 1, 3, none⟩ (.int .i64 aw)).setCell ⟨g + 1, 4, none⟩ (.int .u32 at1)).setCell ⟨g + 1, 5, none⟩ (.int .u32 am)).cell? ⟨g + 1, 0, none⟩ = some (.int .i64 0) := hY.cell 0
                have z1 : ((((((w9.setCell ⟨g + 1, 0, none⟩ (.int .i64 0)).setCell ⟨g + 1, 1, none⟩ (.int .u32 edd)).setCell ⟨g + 1, 2, none⟩ (.int .i64 2)).setCell ⟨g + 1, 3, none⟩ (.int .i64 aw)).setCell ⟨g + 1, 4, none⟩ (.int .u32 at1)).setCell ⟨g + 1, 5, none⟩ (.int .u32 am)).cell? ⟨g + 1, 1, none⟩ = some (.int .u32 edd) := hY.cell 1
                have z2 : ((((((w9.setCell ⟨g + 1, 0, none⟩ (.int .i64 0)).setCell ⟨g + 1, 1, none⟩ (.int .u32 edd)).setCell ⟨g + 1, 2, none⟩ (.int .i64 2)).setCell ⟨g + 1, 3, none⟩ (.int .i64 aw)).setCell ⟨g + 1, 4, none⟩ (.int .u32 at1)).setCell ⟨g + 1, 5, none⟩ (.int .u32 am)).cell? ⟨g + 1, 2, none⟩ = some (.int .i64 2) := hY.cell 2
                have z3 : ((((((w9.setCell ⟨g + 1, 0, none⟩ (.int .i64 0)).setCell ⟨g + 1, 1, none⟩ (.int .u32 edd)).setCell ⟨g + 1, 2, none⟩ (.int .i64 2)).setCell ⟨g + 1, 3, none⟩ (.int .i64 aw)).setCell ⟨g + 1, 4, none⟩ (.int .u32 at1)).setCell ⟨g + 1, 5, none⟩ (.int .u32 am)).cell? ⟨g + 1, 3, none⟩ = some (.int .i64 aw) := hY.cell 3
                have z4 : ((((((w9.setCell ⟨g + 1, 0, none⟩ (.int .i64 0)).setCell ⟨g + 1, 1, none⟩ (.int .u32 edd)).setCell ⟨g + 1, 2, none⟩ (.int .i64 2)).setCell ⟨g + 1, 3, none⟩ (.int .i64 aw)).setCell ⟨g + 1, 4, none⟩ (.int .u32 at1)).setCell ⟨g + 1, 5, none⟩ (.int .u32 am)).cell? ⟨g + 1, 4, none⟩ = some (.int .u32 at1) := hY.cell 4
                have z5 : ((((((w9.setCell ⟨g + 1, 0, none⟩ (.int .i64 0)).setCell ⟨g + 1, 1, none⟩ (.int .u32 edd)).setCell ⟨g + 1, 2, none⟩ (.int .i64 2)).setCell ⟨g + 1, 3, none⟩ (.int .i64 aw)).setCell ⟨g + 1, 4, none⟩ (.int .u32 at1)).setCell ⟨g + 1, 5, none⟩ (.int .u32 am)).cell? ⟨g + 1, 5, none⟩ = some (.int .u32 am) := hY.cell 5
                refine bodyPost_ret (v := .agg #[.int .i64 0, .int .u32 edd, .int .i64 2, .int .i64 aw, .int .u32 at1, .int .u32 am]) (by simp [results, Tryz.results52, go_sem, z0, z1, z2, z3, z4, z5]) rfl ?_
                exact set_end (wx := w10) H.out (Nat.le_of_eq hg) Hq.out (y := ⟨etk, edd, 2, ⟨aw, at1, am⟩, ews⟩) rfl HBv.out rfl (HBr.out _ HBa.out) (by have := HB9.out; rw [Hw8.out] at this; exact bel_trans (bel_drew (bel_refl _)) this) (by rw [HE.out]; rfl) (by rw [HE.out]) Hi.out
              · have hmb : (am == edd) = false := bne_of hm
                have HE := Lib.hid (dec_arg (m := ⟨kd, edd, ⟨aw, at1, am⟩, true, tk, nn, id, ws⟩) H.out.inv Hmem.out rfl rfl rfl (fun h => hm h.2))
                clear hr hm hi
                go_upto_region 10 with (first
                  | (go_at_call 73; refine (HR.out _).mono ?_; rintro e w7 ⟨rfl, hb7⟩; have HB67 := Lib.hid hb7; have HB7 := Lib.hid (bel_trans HB6.out hb7); clear hb7; have X1 : w7.cell? ⟨g, 1, none⟩ = some (.int .u32 edd) := (HX.out.next HB7.out).cell 1; have X4 : w7.cell? ⟨g, 4, none⟩ = some (.int .u32 am) := (HX.out.next HB7.out).cell 4)
                  | fail)
                clear x1 x2 x3 x4 x5 X1 X4 hmb
                have y0 : w7.cell? ⟨g + 1, 0, none⟩ = some (.int .i64 0) := (HY.out.next HB7.out).cell 0
                have f0 : w7.frozen? ⟨g + 1, 0, none⟩ = false := (HY.out.next HB7.out).free 0
                have y1 : w7.cell? ⟨g + 1, 1, none⟩ = some (.int .u32 0) := (HY.out.next HB7.out).cell 1
                have f1 : w7.frozen? ⟨g + 1, 1, none⟩ = false := (HY.out.next HB7.out).free 1
                have y2 : w7.cell? ⟨g + 1, 2, none⟩ = some (.int .i64 0) := (HY.out.next HB7.out).cell 2
                have f2 : w7.frozen? ⟨g + 1, 2, none⟩ = false := (HY.out.next HB7.out).free 2
                have y3 : w7.cell? ⟨g + 1, 3, none⟩ = some (.int .i64 0) := (HY.out.next HB7.out).cell 3
                have f3 : w7.frozen? ⟨g + 1, 3, none⟩ = false := (HY.out.next HB7.out).free 3
                have y4 : w7.cell? ⟨g + 1, 4, none⟩ = some (.int .u32 0) := (HY.out.next HB7.out).cell 4
                have f4 : w7.frozen? ⟨g + 1, 4, none⟩ = false := (HY.out.next HB7.out).free 4
                have y5 : w7.cell? ⟨g + 1, 5, none⟩ = some (.int .u32 0) := (HY.out.next HB7.out).cell 5
                have f5 : w7.frozen? ⟨g + 1, 5, none⟩ = false := (HY.out.next HB7.out).free 5
                go_wp2_with fail
                have hY := set6 (HY.out.next HB7.out) (.int .i64 1) (.int .u32 0) (.int .i64 0) (.int .i64 0) (.int .u32 0) (.int .u32 0)
                have z0 : ((((((w7.setCell ⟨g + 1, 0, none⟩ (.int .i64 1)).setCell ⟨g + 1, 1, none⟩ (.int .u32 0)).setCell ⟨g + 1, 2, none⟩ (.int .i64 0)).setCell ⟨g + 1, 3, none⟩ (.int .i64 0)).setCell ⟨g + 1, 4, none⟩ (.int .u32 0)).setCell ⟨g + 1, 5, none⟩ (.int .u32 0)).cell? ⟨g + 1, 0, none⟩ = some (.int .i64 1) := hY.cell 0
                have z1 : ((((((w7.setCell ⟨g + 1, 0, none⟩ (.int .i64 1)).setCell ⟨g + 1, 1, none⟩ (.int .u32 0)).setCell ⟨g + 1, 2, none⟩ (.int .i64 0)).setCell ⟨g + 1, 3, none⟩ (.int .i64 0)).setCell ⟨g + 1, 4, none⟩ (.int .u32 0)).setCell ⟨g + 1, 5, none⟩ (.int .u32 0)).cell? ⟨g + 1, 1, none⟩ = some (.int .u32 0) := hY.cell 1
                have z2 : ((((((w7.setCell ⟨g + 1, 0, none⟩ (.int .i64 1)).setCell ⟨g + 1, 1, none⟩ (.int .u32 0)).setCell ⟨g + 1, 2, none⟩ (.int .i64 0)).setCell ⟨g + 1, 3, none⟩ (.int .i64 0)).setCell ⟨g + 1, 4, none⟩ (.int .u32 0)).setCell ⟨g + 1, 5, none⟩ (.int .u32 0)).cell? ⟨g + 1, 2, none⟩ = some (.int .i64 0) := hY.cell 2
                have z3 : ((((((w7.setCell ⟨g + 1, 0, none⟩ (.int .i64 1)).setCell ⟨g + 1, 1, none⟩ (.int .u32 0)).setCell ⟨g + 1, 2, none⟩ (.int .i64 0)).setCell ⟨g + 1, 3, none⟩ (.int .i64 0)).setCell ⟨g + 1, 4, none⟩ (.int .u32 0)).setCell ⟨g + 1, 5, none⟩ (.int .u32 0)).cell? ⟨g + 1, 3, none⟩ = some (.int .i64 0) := hY.cell 3
                have z4 : ((((((w7.setCell ⟨g + 1, 0, none⟩ (.int .i64 1)).setCell ⟨g + 1, 1, none⟩ (.int .u32 0)).setCell ⟨g + 1, 2, none⟩ (.int .i64 0)).setCell ⟨g + 1, 3, none⟩ (.int .i64 0)).setCell ⟨g + 1, 4, none⟩ (.int .u32 0)).setCell ⟨g + 1, 5, none⟩ (.int .u32 0)).cell? ⟨g + 1, 4, none⟩ = some (.int .u32 0) := hY.cell 4
                have z5 : ((((((w7.setCell ⟨g + 1, 0, none⟩ (.int .i64 1)).setCell ⟨g + 1, 1, none⟩ (.int .u32 0)).setCell ⟨g + 1, 2, none⟩ (.int .i64 0)).setCell ⟨g + 1, 3, none⟩ (.int .i64 0)).setCell ⟨g + 1, 4, none⟩ (.int .u32 0)).setCell ⟨g + 1, 5, none⟩ (.int .u32 0)).cell? ⟨g + 1, 5, none⟩ = some (.int .u32 0) := hY.cell 5
                refine bodyPost_ret (v := .agg #[.int .i64 1, .int .u32 0, .int .i64 0, .int .i64 0, .int .u32 0, .int .u32 0]) (by simp [results, Tryz.results52, go_sem, z0, z1, z2, z3, z4, z5]) rfl ?_
                exact post_same H.out (by rw [HE.out]; rfl) (by rw [HE.out]) (bel6 hg (HBr.out _ HB7.out))
            · have hd : decide (tmR ⟨aw, at1, am⟩) = false := by simpa using hr
              rw [hd] at HR
              have HE := Lib.hid (dec_arg (m := ⟨kd, edd, ⟨aw, at1, am⟩, true, tk, nn, id, ws⟩) H.out.inv Hmem.out rfl rfl rfl (fun h => hr h.1))
              clear hd hr hi
              go_upto_region 10 with (first
                | (go_at_call 73; refine (HR.out _).mono ?_; rintro e w7 ⟨rfl, hb7⟩; have HB67 := Lib.hid hb7; have HB7 := Lib.hid (bel_trans HB6.out hb7); clear hb7; have X1 : w7.cell? ⟨g, 1, none⟩ = some (.int .u32 edd) := (HX.out.next HB7.out).cell 1; have X4 : w7.cell? ⟨g, 4, none⟩ = some (.int .u32 am) := (HX.out.next HB7.out).cell 4)
                | fail)
              clear x1 x2 x3 x4 x5 X1 X4
              have y0 : w7.cell? ⟨g + 1, 0, none⟩ = some (.int .i64 0) := (HY.out.next HB7.out).cell 0
              have f0 : w7.frozen? ⟨g + 1, 0, none⟩ = false := (HY.out.next HB7.out).free 0
              have y1 : w7.cell? ⟨g + 1, 1, none⟩ = some (.int .u32 0) := (HY.out.next HB7.out).cell 1
              have f1 : w7.frozen? ⟨g + 1, 1, none⟩ = false := (HY.out.next HB7.out).free 1
              have y2 : w7.cell? ⟨g + 1, 2, none⟩ = some (.int .i64 0) := (HY.out.next HB7.out).cell 2
              have f2 : w7.frozen? ⟨g + 1, 2, none⟩ = false := (HY.out.next HB7.out).free 2
              have y3 : w7.cell? ⟨g + 1, 3, none⟩ = some (.int .i64 0) := (HY.out.next HB7.out).cell 3
              have f3 : w7.frozen? ⟨g + 1, 3, none⟩ = false := (HY.out.next HB7.out).free 3
              have y4 : w7.cell? ⟨g + 1, 4, none⟩ = some (.int .u32 0) := (HY.out.next HB7.out).cell 4
              have f4 : w7.frozen? ⟨g + 1, 4, none⟩ = false := (HY.out.next HB7.out).free 4
              have y5 : w7.cell? ⟨g + 1, 5, none⟩ = some (.int .u32 0) := (HY.out.next HB7.out).cell 5
              have f5 : w7.frozen? ⟨g + 1, 5, none⟩ = false := (HY.out.next HB7.out).free 5
              go_wp2_with fail
              have hY := set6 (HY.out.next HB7.out) (.int .i64 1) (.int .u32 0) (.int .i64 0) (.int .i64 0) (.int .u32 0) (.int .u32 0)
              have z0 : ((((((w7.setCell ⟨g + 1, 0, none⟩ (.int .i64 1)).setCell ⟨g + 1, 1, none⟩ (.int .u32 0)).setCell ⟨g + 1, 2, none⟩ (.int .i64 0)).setCell ⟨g + 1, 3, none⟩ (.int .i64 0)).setCell ⟨g + 1, 4, none⟩ (.int .u32 0)).setCell ⟨g + 1, 5, none⟩ (.int .u32 0)).cell? ⟨g + 1, 0, none⟩ = some (.int .i64 1) := hY.cell 0
              have z1 : ((((((w7.setCell ⟨g + 1, 0, none⟩ (.int .i64 1)).setCell ⟨g + 1, 1, none⟩ (.int .u32 0)).setCell ⟨g + 1, 2, none⟩ (.int .i64 0)).setCell ⟨g + 1, 3, none⟩ (.int .i64 0)).setCell ⟨g + 1, 4, none⟩ (.int .u32 0)).setCell ⟨g + 1, 5, none⟩ (.int .u32 0)).cell? ⟨g + 1, 1, none⟩ = some (.int .u32 0) := hY.cell 1
              have z2 : ((((((w7.setCell ⟨g + 1, 0, none⟩ (.int .i64 1)).setCell ⟨g + 1, 1, none⟩ (.int .u32 0)).setCell ⟨g + 1, 2, none⟩ (.int .i64 0)).setCell ⟨g + 1, 3, none⟩ (.int .i64 0)).setCell ⟨g + 1, 4, none⟩ (.int .u32 0)).setCell ⟨g + 1, 5, none⟩ (.int .u32 0)).cell? ⟨g + 1, 2, none⟩ = some (.int .i64 0) := hY.cell 2
              have z3 : ((((((w7.setCell ⟨g + 1, 0, none⟩ (.int .i64 1)).setCell ⟨g + 1, 1, none⟩ (.int .u32 0)).setCell ⟨g + 1, 2, none⟩ (.int .i64 0)).setCell ⟨g + 1, 3, none⟩ (.int .i64 0)).setCell ⟨g + 1, 4, none⟩ (.int .u32 0)).setCell ⟨g + 1, 5, none⟩ (.int .u32 0)).cell? ⟨g + 1, 3, none⟩ = some (.int .i64 0) := hY.cell 3
              have z4 : ((((((w7.setCell ⟨g + 1, 0, none⟩ (.int .i64 1)).setCell ⟨g + 1, 1, none⟩ (.int .u32 0)).setCell ⟨g + 1, 2, none⟩ (.int .i64 0)).setCell ⟨g + 1, 3, none⟩ (.int .i64 0)).setCell ⟨g + 1, 4, none⟩ (.int .u32 0)).setCell ⟨g + 1, 5, none⟩ (.int .u32 0)).cell? ⟨g + 1, 4, none⟩ = some (.int .u32 0) := hY.cell 4
              have z5 : ((((((w7.setCell ⟨g + 1, 0, none⟩ (.int .i64 1)).setCell ⟨g + 1, 1, none⟩ (.int .u32 0)).setCell ⟨g + 1, 2, none⟩ (.int .i64 0)).setCell ⟨g + 1, 3, none⟩ (.int .i64 0)).setCell ⟨g + 1, 4, none⟩ (.int .u32 0)).setCell ⟨g + 1, 5, none⟩ (.int .u32 0)).cell? ⟨g + 1, 5, none⟩ = some (.int .u32 0) := hY.cell 5
              refine bodyPost_ret (v := .agg #[.int .i64 1, .int .u32 0, .int .i64 0, .int .i64 0, .int .u32 0, .int .u32 0]) (by simp [results, Tryz.results52, go_sem, z0, z1, z2, z3, z4, z5]) rfl ?_
              exact post_same H.out (by rw [HE.out]; rfl) (by rw [HE.out]) (bel6 hg (HBr.out _ HB7.out))
        · have HE := Lib.hid (dec_told (m := ⟨kd, edd, ⟨aw, at1, am⟩, ys, tk, nn, id, ws⟩) H.out.inv Hmem.out rfl hs)
          have hsn : (est == 1) = false := bne_of hs
          have HTl := Lib.hid (fun W => told_any ⟨etk, edd, est, ⟨ew, et, em⟩, ews⟩ sa T2.length sc W)
          unfold replyV replyA eval1 En.told at HTl
          simp only at HTl
          clear hi hs
          have e0 : w5.cell? ⟨g5, 0, none⟩ = some (.string etk) := HX5.out.cell 0
          have e3 : w5.cell? ⟨g5, 3, none⟩ = some (.int .i64 ew) := HX5.out.cell 3
          have e4 : w5.cell? ⟨g5, 4, none⟩ = some (.int .u32 et) := HX5.out.cell 4
          have e5 : w5.cell? ⟨g5, 5, none⟩ = some (.int .u32 em) := HX5.out.cell 5
          have e6 : w5.cell? ⟨g5, 6, none⟩ = some (.slice sa T2.length sc) := HX5.out.cell 6
          go_wp2_with (first
            | (go_at_call 128; refine (HTl.out _).mono ?_; rintro e w8 ⟨rfl, hb8⟩; have HB8 := Lib.hid (bel_trans HB5.out hb8); clear hb8; obtain ⟨y0, f0, y1, f1, y2, f2, y3, f3, y4, f4, y5, f5⟩ := HYf.out w8 HB8.out)
            | fail)
          have hY := set6 (HY.out.next HB8.out) (.int .i64 0) (.int .u32 edd) (.int .i64 est) (.int .i64 ew) (.int .u32 et) (.int .u32 em)
          have z0 : ((((((w8.setCell ⟨g + 1, 0, none⟩ (.int .i64 0)).setCell ⟨g + 1, 1, none⟩ (.int .u32 edd)).setCell ⟨g + 1, 2, none⟩ (.int .i64 est)).setCell ⟨g + 1, 3, none⟩ (.int .i64 ew)).setCell ⟨g + 1, 4, none⟩ (.int .u32 et)).setCell ⟨g + 1, 5, none⟩ (.int .u32 em)).cell? ⟨g + 1, 0, none⟩ = some (.int .i64 0) := hY.cell 0
          have z1 : ((((((w8.setCell ⟨g + 1, 0, none⟩ (.int .i64 0)).setCell ⟨g + 1, 1, none⟩ (.int .u32 edd)).setCell ⟨g + 1, 2, none⟩ (.int .i64 est)).setCell ⟨g + 1, 3, none⟩ (.int .i64 ew)).setCell ⟨g + 1, 4, none⟩ (.int .u32 et)).setCell ⟨g + 1, 5, none⟩ (.int .u32 em)).cell? ⟨g + 1, 1, none⟩ = some (.int .u32 edd) := hY.cell 1
          have z2 : ((((((w8.setCell ⟨g + 1, 0, none⟩ (.int .i64 0)).setCell ⟨g + 1, 1, none⟩ (.int .u32 edd)).setCell ⟨g + 1, 2, none⟩ (.int .i64 est)).setCell ⟨g + 1, 3, none⟩ (.int .i64 ew)).setCell ⟨g + 1, 4, none⟩ (.int .u32 et)).setCell ⟨g + 1, 5, none⟩ (.int .u32 em)).cell? ⟨g + 1, 2, none⟩ = some (.int .i64 est) := hY.cell 2
          have z3 : ((((((w8.setCell ⟨g + 1, 0, none⟩ (.int .i64 0)).setCell ⟨g + 1, 1, none⟩ (.int .u32 edd)).setCell ⟨g + 1, 2, none⟩ (.int .i64 est)).setCell ⟨g + 1, 3, none⟩ (.int .i64 ew)).setCell ⟨g + 1, 4, none⟩ (.int .u32 et)).setCell ⟨g + 1, 5, none⟩ (.int .u32 em)).cell? ⟨g + 1, 3, none⟩ = some (.int .i64 ew) := hY.cell 3
          have z4 : ((((((w8.setCell ⟨g + 1, 0, none⟩ (.int .i64 0)).setCell ⟨g + 1, 1, none⟩ (.int .u32 edd)).setCell ⟨g + 1, 2, none⟩ (.int .i64 est)).setCell ⟨g + 1, 3, none⟩ (.int .i64 ew)).setCell ⟨g + 1, 4, none⟩ (.int .u32 et)).setCell ⟨g + 1, 5, none⟩ (.int .u32 em)).cell? ⟨g + 1, 4, none⟩ = some (.int .u32 et) := hY.cell 4
          have z5 : ((((((w8.setCell ⟨g + 1, 0, none⟩ (.int .i64 0)).setCell ⟨g + 1, 1, none⟩ (.int .u32 edd)).setCell ⟨g + 1, 2, none⟩ (.int .i64 est)).setCell ⟨g + 1, 3, none⟩ (.int .i64 ew)).setCell ⟨g + 1, 4, none⟩ (.int .u32 et)).setCell ⟨g + 1, 5, none⟩ (.int .u32 em)).cell? ⟨g + 1, 5, none⟩ = some (.int .u32 em) := hY.cell 5
          refine bodyPost_ret (v := .agg #[.int .i64 0, .int .u32 edd, .int .i64 est, .int .i64 ew, .int .u32 et, .int .u32 em]) (by simp [results, Tryz.results52, go_sem, z0, z1, z2, z3, z4, z5]) rfl ?_
          exact post_same H.out (by rw [HE.out]; rfl) (by rw [HE.out]) (bel6 hg (HBr.out _ HB8.out))
      · have hnd : (edd == dd) = false := bne_of ht
        have HNn : Hid (∀ (j : Nat) y, j < k + 1 → p.B[j]? = some y → y.1.deed ≠ dd) := Lib.hid (fun j y hj hy => by
          by_cases e : j = k
          · subst e
            rw [Hq.out] at hy
            injection hy with hy
            subst hy
            exact ht
          · exact HN.out j y (by omega) hy)
        clear ht
        go_wp2_with fail
        go_roundw
        case rel => exact ⟨k + 1, Hlt.out, by have h1 := Hlt.out; have h2 := HBl.out; rw [IntWalk.wrap64_in _ ⟨by omega, by omega⟩]; rfl, HNn, HB5⟩
        case measure => have h1 := Hlt.out; have h2 := HBl.out; rw [IntWalk.wrap64_in _ ⟨by omega, by omega⟩]; simp [intOf]; omega
    · obtain rfl : k = p.B.length := by omega
      have HNo : Hid (∀ x ∈ C.book, x.deed ≠ dd) := Lib.hid (fun x hx => by
        rw [← H.out.told] at hx
        obtain ⟨y, hy, rfl⟩ := List.mem_map.1 hx
        obtain ⟨j, hj⟩ := List.getElem?_of_mem hy
        exact HN.out j y (List.getElem?_eq_some_iff.1 hj).1 hj)
      have HE := Lib.hid (dec_none (m := ⟨kd, dd, ⟨aw, at1, am⟩, ys, tk, nn, id, ws⟩) HNo.out)
      clear hi
      go_upto_region 15 with fail
      have y0 : wr.cell? ⟨g + 1, 0, none⟩ = some (.int .i64 0) := (HY.out.next HB.out).cell 0
      have f0 : wr.frozen? ⟨g + 1, 0, none⟩ = false := (HY.out.next HB.out).free 0
      have y1 : wr.cell? ⟨g + 1, 1, none⟩ = some (.int .u32 0) := (HY.out.next HB.out).cell 1
      have f1 : wr.frozen? ⟨g + 1, 1, none⟩ = false := (HY.out.next HB.out).free 1
      have y2 : wr.cell? ⟨g + 1, 2, none⟩ = some (.int .i64 0) := (HY.out.next HB.out).cell 2
      have f2 : wr.frozen? ⟨g + 1, 2, none⟩ = false := (HY.out.next HB.out).free 2
      have y3 : wr.cell? ⟨g + 1, 3, none⟩ = some (.int .i64 0) := (HY.out.next HB.out).cell 3
      have f3 : wr.frozen? ⟨g + 1, 3, none⟩ = false := (HY.out.next HB.out).free 3
      have y4 : wr.cell? ⟨g + 1, 4, none⟩ = some (.int .u32 0) := (HY.out.next HB.out).cell 4
      have f4 : wr.frozen? ⟨g + 1, 4, none⟩ = false := (HY.out.next HB.out).free 4
      have y5 : wr.cell? ⟨g + 1, 5, none⟩ = some (.int .u32 0) := (HY.out.next HB.out).cell 5
      have f5 : wr.frozen? ⟨g + 1, 5, none⟩ = false := (HY.out.next HB.out).free 5
      go_wp2_with fail
      have hY := set6 (HY.out.next HB.out) (.int .i64 6) (.int .u32 0) (.int .i64 0) (.int .i64 0) (.int .u32 0) (.int .u32 0)
      have z0 : ((((((wr.setCell ⟨g + 1, 0, none⟩ (.int .i64 6)).setCell ⟨g + 1, 1, none⟩ (.int .u32 0)).setCell ⟨g + 1, 2, none⟩ (.int .i64 0)).setCell ⟨g + 1, 3, none⟩ (.int .i64 0)).setCell ⟨g + 1, 4, none⟩ (.int .u32 0)).setCell ⟨g + 1, 5, none⟩ (.int .u32 0)).cell? ⟨g + 1, 0, none⟩ = some (.int .i64 6) := hY.cell 0
      have z1 : ((((((wr.setCell ⟨g + 1, 0, none⟩ (.int .i64 6)).setCell ⟨g + 1, 1, none⟩ (.int .u32 0)).setCell ⟨g + 1, 2, none⟩ (.int .i64 0)).setCell ⟨g + 1, 3, none⟩ (.int .i64 0)).setCell ⟨g + 1, 4, none⟩ (.int .u32 0)).setCell ⟨g + 1, 5, none⟩ (.int .u32 0)).cell? ⟨g + 1, 1, none⟩ = some (.int .u32 0) := hY.cell 1
      have z2 : ((((((wr.setCell ⟨g + 1, 0, none⟩ (.int .i64 6)).setCell ⟨g + 1, 1, none⟩ (.int .u32 0)).setCell ⟨g + 1, 2, none⟩ (.int .i64 0)).setCell ⟨g + 1, 3, none⟩ (.int .i64 0)).setCell ⟨g + 1, 4, none⟩ (.int .u32 0)).setCell ⟨g + 1, 5, none⟩ (.int .u32 0)).cell? ⟨g + 1, 2, none⟩ = some (.int .i64 0) := hY.cell 2
      have z3 : ((((((wr.setCell ⟨g + 1, 0, none⟩ (.int .i64 6)).setCell ⟨g + 1, 1, none⟩ (.int .u32 0)).setCell ⟨g + 1, 2, none⟩ (.int .i64 0)).setCell ⟨g + 1, 3, none⟩ (.int .i64 0)).setCell ⟨g + 1, 4, none⟩ (.int .u32 0)).setCell ⟨g + 1, 5, none⟩ (.int .u32 0)).cell? ⟨g + 1, 3, none⟩ = some (.int .i64 0) := hY.cell 3
      have z4 : ((((((wr.setCell ⟨g + 1, 0, none⟩ (.int .i64 6)).setCell ⟨g + 1, 1, none⟩ (.int .u32 0)).setCell ⟨g + 1, 2, none⟩ (.int .i64 0)).setCell ⟨g + 1, 3, none⟩ (.int .i64 0)).setCell ⟨g + 1, 4, none⟩ (.int .u32 0)).setCell ⟨g + 1, 5, none⟩ (.int .u32 0)).cell? ⟨g + 1, 4, none⟩ = some (.int .u32 0) := hY.cell 4
      have z5 : ((((((wr.setCell ⟨g + 1, 0, none⟩ (.int .i64 6)).setCell ⟨g + 1, 1, none⟩ (.int .u32 0)).setCell ⟨g + 1, 2, none⟩ (.int .i64 0)).setCell ⟨g + 1, 3, none⟩ (.int .i64 0)).setCell ⟨g + 1, 4, none⟩ (.int .u32 0)).setCell ⟨g + 1, 5, none⟩ (.int .u32 0)).cell? ⟨g + 1, 5, none⟩ = some (.int .u32 0) := hY.cell 5
      refine bodyPost_ret (v := .agg #[.int .i64 6, .int .u32 0, .int .i64 0, .int .i64 0, .int .u32 0, .int .u32 0]) (by simp [results, Tryz.results52, go_sem, z0, z1, z2, z3, z4, z5]) rfl ?_
      exact post_same H.out (by rw [HE.out]; rfl) (by rw [HE.out]) (bel6 hg (HBr.out _ HB.out))
end Go.Proofs.YtbaflgddpciadaaGreat
