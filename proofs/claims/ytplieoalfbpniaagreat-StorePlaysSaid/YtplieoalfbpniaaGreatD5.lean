/- The document's Cut of a store (27). -/
import Derived.Test.YtplieoalfbpniaaGreatD4
set_option linter.unusedVariables false
set_option linter.unusedSimpArgs false
namespace Go.Proofs.YtplieoalfbpniaaGreat
open Go.RowKit Go.Kt Go.Ix Go.Sx
set_option maxRecDepth 100000
theorem cutL_snoc {Q : List Itm} {k : Nat} {x : Itm} (h : Q[k]? = some x) (t : Tm) : cutL (toldI (Q.take (k + 1))) t = cutL (toldI (Q.take k)) t ++ (if cutC x.it.l t ≠ [] then [{ x.it with l := cutC x.it.l t }] else []) := by
  obtain ⟨hk, rfl⟩ := List.getElem?_eq_some_iff.1 h
  rw [List.take_succ_eq_append_getElem hk]
  unfold toldI cutL
  rw [List.map_append, List.map_append, List.filter_append]
  by_cases e : cutC Q[k].it.l t = [] <;> simp [e]
set_option maxHeartbeats 8000000 in
theorem rcut_any {F : Nat → Prop} (v : Value) (Q : List Itm) (t : Tm) (w : World) (h : RSt F w v Q) (hF : ∀ x, F x → x < w.heap.size) (hl : Q.length ≤ 65536) (hq : ∀ x ∈ Q, Chain x.it.l ∧ x.it.l.length ≤ 65536) :
    Calls Tryz.prog 27 #[.agg #[v], t.val] w fun e w' => ∃ v' R, e = .returned (.agg #[v']) ∧ RSt F w' v' R ∧ toldI R = cutL (toldI Q) t ∧ R.length ≤ Q.length ∧ Below w.heap.size w w' := by
  obtain ⟨a, cap, rfl, hcap, hbig, hcell⟩ := h.open
  have Hcell := Lib.hid hcell
  have HL := Lib.hid hl
  have HF := Lib.hid hF
  have HQ := Lib.hid hq
  clear hcell h hl hF hq
  obtain ⟨tw, tt, tm⟩ := t
  have HX := Lib.hid (((Blk.new w #[.slice a Q.length cap] 67).next (below_alloc _ (.cells #[.int .i64 tw, .int .u32 tt, .int .u32 tm] 25))).next (below_alloc _ (.cells #[.slice none 0 0] 67)))
  have HZ := Lib.hid ((Blk.new (w.alloc (.cells #[.slice a Q.length cap] 67)) #[.int .i64 tw, .int .u32 tt, .int .u32 tm] 25).next (below_alloc _ (.cells #[.slice none 0 0] 67)))
  have HBa := Lib.hid (bel_alloc (o := .cells #[.slice none 0 0] 67) (bel_alloc (o := .cells #[.int .i64 tw, .int .u32 tt, .int .u32 tm] 25) (below_alloc w (.cells #[.slice a Q.length cap] 67))))
  have HY := Lib.hid (Blk.new ((w.alloc (.cells #[.slice a Q.length cap] 67)).alloc (.cells #[.int .i64 tw, .int .u32 tt, .int .u32 tm] 25)) #[.slice none 0 0] 67)
  simp only [World.size_alloc] at HY HZ
  unfold Tm.val
  simp only
  go_enter Tryz.func27, Tryz.ntmps27
  go_wp2_with fail
  generalize ((w.alloc (.cells #[.slice a Q.length cap] 67)).alloc (.cells #[.int .i64 tw, .int .u32 tt, .int .u32 tm] 25)).alloc (.cells #[.slice none 0 0] 67) = w1 at HX HZ HBa HY ⊢
  have HNo : Hid (∀ x, OrB F (w.heap.size + 2) x → F x ∨ w.heap.size ≤ x) := Lib.hid (fun x hx => by
    rcases hx with h | h
    · exact .inl h
    · exact .inr (by omega))
  have HFo : Hid (∀ x, OrB F (w.heap.size + 2) x → x < w1.heap.size) := Lib.hid (fun x hx => by
    rcases hx with h | h
    · exact Nat.lt_of_lt_of_le (HF.out x h) HBa.out.size
    · rw [h]; exact HY.out.lt)
  have HM0 : Hid (Mits (OrB F (w.heap.size + 2)) w1 w1 (.slice none 0 0) []) := Lib.hid (Mits.nil _ w1)
  have HT0 : Hid (toldI [] = cutL (toldI (Q.take 0)) ⟨tw, tt, tm⟩ ∧ ([] : List Itm).length ≤ 0) := Lib.hid ⟨rfl, Nat.le_refl _⟩
  go_loopw [5, 6] (fun ov i wr => ∃ (k : Nat) (R : List Itm), k ≤ Q.length ∧ i = .int .i64 k ∧ Hid (Mits (OrB F (w.heap.size + 2)) w1 wr ov R) ∧ Hid (toldI R = cutL (toldI (Q.take k)) ⟨tw, tt, tm⟩ ∧ R.length ≤ k)) (fun _ i _ => Q.length - (intOf i).toNat)
  case atStart => exact ⟨0, [], by omega, rfl, HM0, HT0⟩
  case round =>
    clear HM0 HT0
    obtain ⟨k, R, hk, rfl, HM, HT⟩ := hrel
    have x0 : wr.cell? ⟨w.heap.size, 0, none⟩ = some (.slice a Q.length cap) := (HX.out.next HM.out.bel).cell 0
    by_cases hlt : k < Q.length
    · obtain ⟨x, hx⟩ : ∃ x, Q[k]? = some x := ⟨Q[k], List.getElem?_eq_getElem hlt⟩
      obtain ⟨hr, b, o, rfl, hbl, c0, c1, c2⟩ := Hcell.out k x hx
      have hqx := HQ.out x (List.mem_of_getElem? hx)
      have HTk := Lib.hid (cutL_snoc hx ⟨tw, tt, tm⟩)
      obtain ⟨⟨xs, xt, xl⟩, sv, lv⟩ := x
      obtain ⟨sa, sc, hsv, -⟩ := hr.set.open
      obtain ⟨la, lc, hlv, -⟩ := hr.ver.open
      simp only at hsv hlv
      subst hsv hlv
      simp only at c0 c1 c2 hqx HTk
      have hB := bel_trans HBa.out HM.out.bel
      have d0 : wr.cell? ⟨b, o + k * 3, none⟩ = some (.slice sa xs.length sc) := (hB.cell (p := ⟨b, _, none⟩) hbl).trans c0
      have d1 : wr.cell? ⟨b, o + k * 3 + 1, none⟩ = some (.int .i64 xt) := (hB.cell (p := ⟨b, _, none⟩) hbl).trans c1
      have d2 : wr.cell? ⟨b, o + k * 3 + 2, none⟩ = some (.slice la xl.length lc) := (hB.cell (p := ⟨b, _, none⟩) hbl).trans c2
      have HI : Hid (ItR (Or2 (OrB F (w.heap.size + 2)) u5) wr ⟨⟨xs, xt, xl⟩, .slice sa xs.length sc, .slice la xl.length lc⟩) := Lib.hid (HM.out.old (hr.keep (Turn.of HBa.out) HNo.out))
      have hk1 : (0 : Int) ≤ (k : Int) := by omega
      have hk2 : (k : Int) < (Q.length : Int) := by omega
      have hRl : R.length ≤ 65536 := by have := HT.out.2; have := HL.out; omega
      have HXn := Lib.hid (Blk.new wr #[.slice sa xs.length sc, .int .i64 xt, .slice la xl.length lc] 123)
      have HBn := Lib.hid (below_alloc wr (.cells #[.slice sa xs.length sc, .int .i64 xt, .slice la xl.length lc] 123))
      have Hqx := Lib.hid hqx
      clear c0 c1 c2 hx hr hB hqx
      go_upto_region 6 with fail
      generalize wr.alloc (.cells #[.slice sa xs.length sc, .int .i64 xt, .slice la xl.length lc] 123) = w5 at HXn HBn ⊢
      have hz5 := (HZ.out.next HM.out.bel).next HBn.out
      have z0 : w5.cell? ⟨w.heap.size + 1, 0, none⟩ = some (.int .i64 tw) := hz5.cell 0
      have z1 : w5.cell? ⟨w.heap.size + 1, 1, none⟩ = some (.int .u32 tt) := hz5.cell 1
      have z2 : w5.cell? ⟨w.heap.size + 1, 2, none⟩ = some (.int .u32 tm) := hz5.cell 2
      have y2 : w5.cell? ⟨wr.heap.size, 2, none⟩ = some (.slice la xl.length lc) := HXn.out.cell 2
      have HC := Lib.hid (rcutc_any (.slice la xl.length lc) xl ⟨tw, tt, tm⟩ w5 (HI.out.ver.below HBn.out) Hqx.out.1 Hqx.out.2)
      unfold Tm.val at HC
      simp only at HC
      generalize cutC xl ⟨tw, tt, tm⟩ = C at HC HTk
      have HCl := Lib.hid (Eq.refl C.length)
      clear d0 d1 d2 hz5
      go_upto_region 7 with (first
        | (go_at_call 54; refine HC.out.mono ?_; rintro e w7 ⟨v7, rfl, hm7⟩; obtain ⟨-, a7, c7, rfl, -, -, -, -⟩ := hm7.rd; have HM7 := Lib.hid hm7; have hx7 := HXn.out.next hm7.2.2; have p0 : w7.cell? ⟨wr.heap.size, 0, none⟩ = some (.slice sa xs.length sc) := hx7.cell 0; have p1 : w7.cell? ⟨wr.heap.size, 1, none⟩ = some (.int .i64 xt) := hx7.cell 1; have p2 : w7.cell? ⟨wr.heap.size, 2, none⟩ = some (.slice la xl.length lc) := hx7.cell 2; have p3 : w7.frozen? ⟨wr.heap.size, 2, none⟩ = false := hx7.free 2; have HX7 := Lib.hid hx7; clear hm7 hx7)
        | fail)
      have hx8 : Blk (w7.setCell ⟨wr.heap.size, 2, none⟩ (.slice a7 C.length c7)) wr.heap.size #[.slice sa xs.length sc, .int .i64 xt, .slice a7 C.length c7] 123 := by simpa using HX7.out.set 2 (.slice a7 C.length c7)
      have hb8 : Below wr.heap.size wr (w7.setCell ⟨wr.heap.size, 2, none⟩ (.slice a7 C.length c7)) := bel_set (bel_trans HBn.out HM7.out.2.2) (Nat.le_refl _)
      have ho8 : Kt.Own 127 6 (w7.setCell ⟨wr.heap.size, 2, none⟩ (.slice a7 C.length c7)) (.slice a7 C.length c7) C.length (flatV C) := own_set HM7.out.1 (p := ⟨wr.heap.size, 2, none⟩) (fun b hb e => by have h1 := HM7.out.2.1 b hb; have h2 := HXn.out.lt; rw [e] at h1; simp only at h1; omega) _
      have HX8 := Lib.hid hx8
      have HB8 := Lib.hid hb8
      have HO8 := Lib.hid ho8
      have HN8 : Hid (∀ b, (Value.slice a7 C.length c7).ownBlock = some b → w5.heap.size ≤ b) := Lib.hid HM7.out.2.1
      clear p0 p1 p2 p3 HX7 HM7 hx8 hb8 ho8 z0 z1 z2 y2 HC
      generalize w7.setCell ⟨wr.heap.size, 2, none⟩ (.slice a7 C.length c7) = w8 at HX8 HB8 HO8 ⊢
      have HI8 : Hid (ItR (Or2 (OrB F (w.heap.size + 2)) u5) w8 ⟨⟨xs, xt, C⟩, .slice sa xs.length sc, .slice a7 C.length c7⟩) := Lib.hid (by
        have h1 := HI.out.keep (Turn.of HB8.out) (fun _ h => .inl h)
        refine ⟨h1.set, HO8.out.rd, h1.fs, fun hn b hb => ⟨HO8.out.lt b hb, fun hf => ?_⟩⟩
        have h2 := HN8.out b hb
        have h3 := HXn.out.lt
        have h4 := HM.out.bel.size
        rcases hf with hf | hf
        · have := HFo.out b hf; omega
        · have := HM.out.row.1.lt b hf; omega)
      have q0 : w8.cell? ⟨wr.heap.size, 0, none⟩ = some (.slice sa xs.length sc) := HX8.out.cell 0
      have q1 : w8.cell? ⟨wr.heap.size, 1, none⟩ = some (.int .i64 xt) := HX8.out.cell 1
      have q2 : w8.cell? ⟨wr.heap.size, 2, none⟩ = some (.slice a7 C.length c7) := HX8.out.cell 2
      by_cases hC : C = []
      · have HTe : Hid (toldI R = cutL (toldI (Q.take (k + 1))) ⟨tw, tt, tm⟩ ∧ R.length ≤ k + 1) := Lib.hid ⟨by rw [HTk.out, if_neg (by simp [hC]), List.append_nil]; exact HT.out.1, Nat.le_succ_of_le HT.out.2⟩
        have hn : C.length = 0 := by rw [hC]; rfl
        rw [hn] at q2
        have hb1 : decide ((0 : Int) < ((0 : Nat) : Int)) = false := rfl
        have HM8 := Lib.hid (HM.out.below HB8.out)
        clear hC hn
        go_wp2_with fail
        go_roundw
        case rel => exact ⟨k + 1, R, by omega, by go_num, HM8, HTe⟩
        case measure => simp [intOf]; omega
      · have HTe : Hid (toldI (R ++ [⟨⟨xs, xt, C⟩, .slice sa xs.length sc, .slice a7 C.length c7⟩]) = cutL (toldI (Q.take (k + 1))) ⟨tw, tt, tm⟩ ∧ (R ++ [(⟨⟨xs, xt, C⟩, .slice sa xs.length sc, .slice a7 C.length c7⟩ : Itm)]).length ≤ k + 1) := Lib.hid ⟨by
          rw [HTk.out, if_pos hC, ← HT.out.1]
          simp [toldI], by rw [List.length_append]; have := HT.out.2; simp; omega⟩
        have hn : 0 < C.length := List.length_pos_iff.2 hC
        have hb1 : decide ((0 : Int) < (C.length : Int)) = true := by simpa using hn
        have hb2 : (0 : Int) < (C.length : Int) := by omega
        clear hC
        go_wp2_with (at_builtin; apply Hold.mk)
        unfold Hold
        refine wpList_app rfl _ _ 65 rfl ok65 (by rfl) (by rfl) ((HM.out.row.1.below' HB8.out).below' (below_alloc _ _)) (by exact rd_lit 3 #[.slice sa xs.length sc, .int .i64 xt, .slice a7 C.length c7] 1 (by simp) one_le rfl) (by intro u hu; simp only [List.mem_cons, List.not_mem_nil, or_false] at hu; rcases hu with rfl | rfl | rfl <;> rfl) (by simp only [maxLen]; omega) (by omega) ?_
        intro v9 w9 ho9 hg9 hn9
        have HM9 : Hid (Mits (OrB F (w.heap.size + 2)) w1 w9 v9 (R ++ [⟨⟨xs, xt, C⟩, .slice sa xs.length sc, .slice a7 C.length c7⟩])) := Lib.hid (((HM.out.below HB8.out).below (below_alloc _ _)).push (HI8.out.keep (Turn.of (below_alloc _ _)) (fun _ h => .inl h)) ho9 hg9 hn9)
        clear ho9 hg9 hn9
        go_wp2_with fail
        go_roundw
        case rel => exact ⟨k + 1, _, by omega, by go_num, HM9, HTe⟩
        case measure => simp [intOf]; omega
    · obtain rfl : k = Q.length := by omega
      rw [List.take_length] at HT
      have hy := HY.out.next HM.out.bel
      have y0 : wr.cell? ⟨w.heap.size + 2, 0, none⟩ = some (.slice none 0 0) := hy.cell 0
      have y1 : wr.frozen? ⟨w.heap.size + 2, 0, none⟩ = false := hy.free 0
      obtain ⟨-, ra, rc, e, -, -, -, -⟩ := HM.out.row.rd
      subst e
      have HS := Lib.hid (HM.out.st HFo.out)
      have HB := Lib.hid (bel_trans HBa.out HM.out.bel)
      have hz : (wr.setCell ⟨w.heap.size + 2, 0, none⟩ (.slice ra R.length rc)).cell? ⟨w.heap.size + 2, 0, none⟩ = some (.slice ra R.length rc) := (hy.set 0 (.slice ra R.length rc)).cell 0
      clear hy HM
      go_wp2_with fail
      refine bodyPost_ret (v := .agg #[.slice ra R.length rc]) (by simp [results, Tryz.results27, go_sem, hz]) rfl ⟨_, R, rfl, ?_, HT.out.1, HT.out.2, ?_⟩
      · exact HS.out.keep ((Turn.refl (OrB F (w.heap.size + 2)) wr).set (a := ⟨w.heap.size + 2, 0, none⟩) (.inr rfl) _) (fun b hb => .inl (.inl hb))
      · exact bel_set HB.out (by show w.heap.size ≤ w.heap.size + 2; omega)
end Go.Proofs.YtplieoalfbpniaaGreat
