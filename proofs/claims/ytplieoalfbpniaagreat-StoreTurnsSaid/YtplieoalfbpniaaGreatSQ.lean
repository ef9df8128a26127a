/- StoreSplits (3). -/
import Derived.Test.YtplieoalfbpniaaGreatSP
import Derived.BigQuiet
import Derived.Deep.QuietTactic
set_option linter.unusedVariables false
set_option linter.unusedSimpArgs false
namespace Go.Proofs.YtplieoalfbpniaaGreat
open Go.RowKit Go.Kt Go.Ix Go.Sx
set_option maxRecDepth 100000

theorem RdN.get {w : World} {a : Option Addr} {c : Nat} {Q : List Pn} (h : RdN w (.slice a Q.length c) Q) {i : Nat} {x : Pn} (hi : Q[i]? = some x) : ∃ b o, a = some ⟨b, o, none⟩ ∧ b < w.heap.size ∧ w.cell? ⟨b, o + i * 8, none⟩ = some x.sv ∧ w.cell? ⟨b, o + i * 8 + 1, none⟩ = some (.int .i64 x.t) ∧
      w.cell? ⟨b, o + i * 8 + 2, none⟩ = some (.int .i64 x.v.kind) ∧ w.cell? ⟨b, o + i * 8 + 3, none⟩ = some (.int .i64 x.v.num) ∧ w.cell? ⟨b, o + i * 8 + 4, none⟩ = some (.string x.v.text) ∧
      w.cell? ⟨b, o + i * 8 + 5, none⟩ = some (.int .i64 x.v.at_.wall) ∧ w.cell? ⟨b, o + i * 8 + 6, none⟩ = some (.int .u32 x.v.at_.tick) ∧ w.cell? ⟨b, o + i * 8 + 7, none⟩ = some (.int .u32 x.v.at_.mark) := by
  obtain ⟨a', c', e, _, _, hc⟩ := h.open
  injection e with e _ _
  subst e
  exact hc i x hi
theorem madeS_ok (l : List Op) : ∀ L, StoreOk ltS L → StoreOk ltS (madeS l L) := by
  induction l with
  | nil => intro L h; exact h
  | cons o l ih =>
    intro L h
    refine ih _ ?_
    split
    · unfold putS
      split
      · exact h
      · split
        · exact h
        · exact putL_ok line_sets h _ _ _
    · exact h
set_option maxHeartbeats 8000000 in
theorem splits_any (v : Value) (l : List Op) (t : Tm) (a m b : Int) (w : World) (hv : RdO w v l) (hg : Glob w) :
    Calls Tryz.prog 3 #[v, t.val, .int .i64 a, .int .i64 m, .int .i64 b] w fun e w' => e = .returned (.bool true) ∧ Below w.heap.size w w' := by
  obtain ⟨va, vc, hve, -⟩ := hv.open
  subst hve
  have HV := Lib.hid hv
  have HG := Lib.hid hg
  have HT := Lib.hid (Blk.new w #[.int .i64 t.wall, .int .u32 t.tick, .int .u32 t.mark] 25)
  have HB1 := Lib.hid (below_alloc w (.cells #[.int .i64 t.wall, .int .u32 t.tick, .int .u32 t.mark] 25))
  clear hv hg
  unfold Tm.val
  obtain ⟨tw, tt, tm⟩ := t
  simp only at HT HB1 ⊢
  have HW := Lib.hid (fun (W : World) (hW : Below w.heap.size w W) => awake_any W (HG.out.below hW))
  by_cases hab : m < a ∨ b < m
  · have h1 : (decide (m < a) || decide (b < m)) = true := by simpa using hab
    clear hab
    go_enter Tryz.func3, Tryz.ntmps3
    go_wp2_with (first
      | (go_at_call 8; refine (made_any _ l _ (HV.out.below HB1.out)).mono ?_; rintro e w2 ⟨s, F, rfl, -, -, hb2⟩; have HB2 := Lib.hid (bel_trans HB1.out hb2); clear hb2)
      | (go_at_call 9; refine (HW.out _ HB2.out).mono ?_; rintro e w3 ⟨rfl, hb3⟩; have HB3 := Lib.hid (bel_trans HB2.out hb3); clear hb3)
      | fail)
    all_goals (go_ret; exact ⟨rfl, HB3.out⟩)
  · have hab1 : ¬ m < a := fun h => hab (.inl h)
    have hab2 : ¬ b < m := fun h => hab (.inr h)
    have h1 : decide (m < a) = false := by simpa using hab1
    have h2 : decide (b < m) = false := by simpa using hab2
    have HAB := Lib.hid hab1
    have HAB2 := Lib.hid hab2
    clear hab hab1 hab2
    go_enter Tryz.func3, Tryz.ntmps3
    go_upto_region 5 with (first
      | (go_at_call 8; refine (made_any _ l _ (HV.out.below HB1.out)).mono ?_; rintro e w2 ⟨s, F, rfl, h2, hF, hb2⟩; have H2 := Lib.hid h2; have HB2 := Lib.hid (bel_trans HB1.out hb2); have HT2 := Lib.hid (HT.out.next hb2); have c0 : w2.cell? ⟨w.heap.size, 0, none⟩ = some (.int .i64 tw) := HT2.out.cell 0; have c1 : w2.cell? ⟨w.heap.size, 1, none⟩ = some (.int .u32 tt) := HT2.out.cell 1; have c2 : w2.cell? ⟨w.heap.size, 2, none⟩ = some (.int .u32 tm) := HT2.out.cell 2; clear h2 hF hb2)
      | (go_at_call 11; refine (to_any1 ⟨tw, tt, tm⟩ _).mono ?_; rintro e w3 ⟨rfl, hb3⟩; have HB3 := Lib.hid hb3; clear hb3)
      | (go_at_call 10; refine (scan_st w3 (H2.out.next HB3.out) (by omega) (.slice none 0 0) [] (own_nil w3 119 3).rd ((HG.out.below HB2.out).below HB3.out) a b ⟨tw, tt, tm⟩).mono ?_; rintro e w4 ⟨v4, Q4, rfl, hp4, hq4⟩; obtain ⟨a4, c4, rfl, -⟩ := hp4.rd.open; have HP4 := Lib.hid hp4.rd; have HQ4 := Lib.hid hq4; have HB4 := Lib.hid (bel_trans HB3.out hp4.bel); clear hp4 hq4)
      | fail)
    obtain ⟨L, hL⟩ : ∃ L, madeS (l.take 80) [] = L := ⟨_, rfl⟩
    have HOk : Hid (StoreOk ltS L) := Lib.hid (hL ▸ madeS_ok _ _ empty_ok)
    rw [hL] at H2 HQ4
    clear hL
    have HSp : Hid (Q4.length = (scanL L (fun d => allB [] d) a m ⟨tw, tt, tm⟩).length + (scanL L (fun d => allB [] d) m b ⟨tw, tt, tm⟩).length) := Lib.hid (by
      have h := congrArg List.length HQ4.out
      rw [List.length_map] at h
      rw [h]
      exact scan_split L _ HAB.out HAB2.out _)
    have HIn : Hid (∀ q ∈ Q4, a ≤ q.t ∧ q.t < b ∧ ¬ (⟨tw, tt, tm⟩ : Tm).lt q.v.at_) := Lib.hid (fun q hq => by
      have hm : q.told ∈ scanL L (fun d => allB [] d) a b ⟨tw, tt, tm⟩ := by rw [← HQ4.out]; exact List.mem_map_of_mem hq
      exact scan_span HOk.out.chain hm)
    have hscan : ∀ (x y : Int) (n : Nat), (scanL L (fun d => allB [] d) x y ⟨tw, tt, tm⟩).length = n → ∀ (W : World), Below w4.heap.size w4 W → Calls Tryz.prog 10 #[.pointer (some ⟨s, 0, none⟩), .slice none 0 0, .int .i64 x, .int .i64 y, (⟨tw, tt, tm⟩ : Tm).val] W fun e w' => ∃ a c, e = .returned (.slice a n c) ∧ n ≤ 140737488355328 ∧ Below W.heap.size W w' := fun x y n hn W hW => by
      refine (scan_st W (H2.out.next (bel_trans HB4.out hW)) (by omega) (.slice none 0 0) [] (own_nil W 119 3).rd ((HG.out.below HB2.out).below (bel_trans HB4.out hW)) x y ⟨tw, tt, tm⟩).mono ?_
      rintro e w' ⟨v, Q, rfl, hp, hq⟩
      have hfit := hp.row.1
      obtain ⟨a, c, rfl, _⟩ := hp.rd.open
      have hl := congrArg List.length hq
      rw [List.length_map, hn] at hl
      have hb : n ≤ 65536 := by
        obtain ⟨om, S, hst⟩ := H2.out
        rw [← hn]
        exact scan_bound hst (List.Sublist.refl _) _ _ _ _
      rw [hl]
      exact ⟨a, c, rfl, by omega, hp.bel⟩
    have HS1 := Lib.hid (hscan a m _ rfl)
    have HS2 := Lib.hid (hscan m b _ rfl)
    clear hscan HQ4 HOk
    generalize (scanL L (fun d => allB [] d) a m ⟨tw, tt, tm⟩).length = n1 at HSp HS1
    generalize (scanL L (fun d => allB [] d) m b ⟨tw, tt, tm⟩).length = n2 at HSp HS2
    have HKs : Hid (∀ W, Below w4.heap.size w4 W → W.cell? ⟨w.heap.size, 0, none⟩ = some (.int .i64 tw) ∧ W.cell? ⟨w.heap.size, 1, none⟩ = some (.int .u32 tt) ∧ W.cell? ⟨w.heap.size, 2, none⟩ = some (.int .u32 tm)) :=
      Lib.hid (fun W hW => ⟨(HT2.out.next (bel_trans HB4.out hW)).cell 0, (HT2.out.next (bel_trans HB4.out hW)).cell 1, (HT2.out.next (bel_trans HB4.out hW)).cell 2⟩)
    have hx4 := bel_refl w4
    obtain ⟨q0, q1, q2⟩ := HKs.out _ hx4
    clear c0 c1 c2
    go_region_held3 (fun W => W.cell? ⟨w.heap.size, 0, none⟩ = some (.int .i64 tw) ∧ W.cell? ⟨w.heap.size, 1, none⟩ = some (.int .u32 tt) ∧ W.cell? ⟨w.heap.size, 2, none⟩ = some (.int .u32 tm))
      (first | (with_reducible exact ⟨q0, q1, q2⟩) | (with_reducible refine HKs.out _ ?_; (repeat (first | assumption | apply bel_alloc | apply bel_drew)); done) | go_keep)
      (first
        | (go_simp; go_at_call 11; refine (to_any1 ⟨tw, tt, tm⟩ _).mono ?_; rintro e w7 ⟨rfl, hb7⟩; have hx7 : Below w4.heap.size w4 w7 := bel_trans (by repeat (first | exact bel_refl _ | assumption | apply bel_alloc | apply bel_drew)) hb7; clear hb7)
        | (go_simp; go_at_call 10; first
            | (with_reducible refine (HS1.out w7 hx7).mono ?_; rintro e w8 ⟨a8, c8, rfl, hn8, hb8⟩; have hx8 : Below w4.heap.size w4 w8 := bel_trans hx7 hb8; clear hb8)
            | (with_reducible refine (HS2.out w7 hx7).mono ?_; rintro e w9 ⟨a9, c9, rfl, hn9, hb9⟩; have hx9 : Below w4.heap.size w4 w9 := bel_trans hx7 hb9; clear hb9)))
    have HB9 := Lib.hid hx9
    have hQl : (Q4.length : Int) = (n1 : Int) + (n2 : Int) := by have := HSp.out; omega
    have hq1 : ((Q4.length : Int) == (n1 : Int) + (n2 : Int)) = true := by rw [hQl]; simp
    have HQl := Lib.hid hQl
    have HT9 := Lib.hid (HT2.out.next (bel_trans HB4.out hx9))
    clear hQl q0 q1 q2 hx4 hx8 hx7 HKs HS1 HS2 h1 h2
    go_wp2_with fail
    go_loopw [56] (fun i wr => ∃ k : Nat, k ≤ Q4.length ∧ i = .int .i64 k ∧ Hid (Below w9.heap.size w9 wr)) (fun i _ => Q4.length - (intOf i).toNat)
    case atStart => exact ⟨0, by omega, rfl, Lib.hid (bel_refl w9)⟩
    case round =>
      obtain ⟨k, hk, rfl, HBr⟩ := hrel
      have hQb : Q4.length ≤ 281474976710656 := by have := HQl.out; omega
      by_cases hlt : k < Q4.length
      · obtain ⟨q, hq⟩ : ∃ x, Q4[k]? = some x := ⟨Q4[k], List.getElem?_eq_getElem hlt⟩
        have HIq := Lib.hid (HIn.out q (List.mem_of_getElem? hq))
        have hB := bel_trans HB9.out HBr.out
        obtain ⟨gb, go, rfl, hgb, c0, c1, c2, c3, c4, c5, c6, c7⟩ := HP4.out.get hq
        have hgr := Nat.lt_of_lt_of_le hgb hB.size
        obtain ⟨qst, qt, ⟨⟨qw, qk, qm⟩, qkd, qn, qx⟩, qsv⟩ := q
        obtain ⟨qa, qc, hsv, -⟩ := (HP4.out.2 _ (List.mem_of_getElem? hq)).open
        simp only at hsv
        subst hsv
        simp only at c0 c1 c2 c3 c4 c5 c6 c7 HIq
        have d0 : wr.cell? ⟨gb, go + k * 8, none⟩ = some (.slice qa qst.length qc) := (hB.cell (p := ⟨gb, _, none⟩) hgb).trans c0
        have d1 : wr.cell? ⟨gb, go + k * 8 + 1, none⟩ = some (.int .i64 qt) := (hB.cell (p := ⟨gb, _, none⟩) hgb).trans c1
        have d2 : wr.cell? ⟨gb, go + k * 8 + 2, none⟩ = some (.int .i64 qkd) := (hB.cell (p := ⟨gb, _, none⟩) hgb).trans c2
        have d3 : wr.cell? ⟨gb, go + k * 8 + 3, none⟩ = some (.int .i64 qn) := (hB.cell (p := ⟨gb, _, none⟩) hgb).trans c3
        have d4 : wr.cell? ⟨gb, go + k * 8 + 4, none⟩ = some (.string qx) := (hB.cell (p := ⟨gb, _, none⟩) hgb).trans c4
        have d5 : wr.cell? ⟨gb, go + k * 8 + 5, none⟩ = some (.int .i64 qw) := (hB.cell (p := ⟨gb, _, none⟩) hgb).trans c5
        have d6 : wr.cell? ⟨gb, go + k * 8 + 6, none⟩ = some (.int .u32 qk) := (hB.cell (p := ⟨gb, _, none⟩) hgb).trans c6
        have d7 : wr.cell? ⟨gb, go + k * 8 + 7, none⟩ = some (.int .u32 qm) := (hB.cell (p := ⟨gb, _, none⟩) hgb).trans c7
        have hk1 : (0 : Int) ≤ (k : Int) := by omega
        have hk2 : (k : Int) < (Q4.length : Int) := by omega
        have HX := Lib.hid (Blk.new wr #[.slice qa qst.length qc, .int .i64 qt, .int .i64 qkd, .int .i64 qn, .string qx, .int .i64 qw, .int .u32 qk, .int .u32 qm] 35)
        have HBa := Lib.hid (below_alloc wr (.cells #[.slice qa qst.length qc, .int .i64 qt, .int .i64 qkd, .int .i64 qn, .string qx, .int .i64 qw, .int .u32 qk, .int .u32 qm] 35))
        clear c0 c1 c2 c3 c4 c5 c6 c7 hq
        go_upto_region 11 with fail
        generalize wr.alloc (.cells #[.slice qa qst.length qc, .int .i64 qt, .int .i64 qkd, .int .i64 qn, .string qx, .int .i64 qw, .int .u32 qk, .int .u32 qm] 35) = w5 at HX HBa ⊢
        have x1 : ∀ g : GrownOf w5, g.W.cell? ⟨wr.heap.size, 1, none⟩ = some (.int .i64 qt) := fun g => (HX.out.next g.b).cell 1
        have x5 : ∀ g : GrownOf w5, g.W.cell? ⟨wr.heap.size, 5, none⟩ = some (.int .i64 qw) := fun g => (HX.out.next g.b).cell 5
        have x6 : ∀ g : GrownOf w5, g.W.cell? ⟨wr.heap.size, 6, none⟩ = some (.int .u32 qk) := fun g => (HX.out.next g.b).cell 6
        have x7 : ∀ g : GrownOf w5, g.W.cell? ⟨wr.heap.size, 7, none⟩ = some (.int .u32 qm) := fun g => (HX.out.next g.b).cell 7
        have HT5 := Lib.hid (HT9.out.next (bel_trans HBr.out HBa.out))
        have y0 : ∀ g : GrownOf w5, g.W.cell? ⟨w.heap.size, 0, none⟩ = some (.int .i64 tw) := fun g => (HT5.out.next g.b).cell 0
        have y1 : ∀ g : GrownOf w5, g.W.cell? ⟨w.heap.size, 1, none⟩ = some (.int .u32 tt) := fun g => (HT5.out.next g.b).cell 1
        have y2 : ∀ g : GrownOf w5, g.W.cell? ⟨w.heap.size, 2, none⟩ = some (.int .u32 tm) := fun g => (HT5.out.next g.b).cell 2
        have hg1 : decide (qt < a) = false := by have := HIq.out.1; simp; omega
        have hg2 : decide (b ≤ qt) = false := by have := HIq.out.2.1; simp; omega
        have HBl : Hid (∀ W, Calls Tryz.prog 12 #[(⟨tw, tt, tm⟩ : Tm).val, (⟨qw, qk, qm⟩ : Tm).val] W fun e w' => e = .returned (.bool false) ∧ Below W.heap.size W w') := Lib.hid (fun W => by
          have := below_any ⟨tw, tt, tm⟩ ⟨qw, qk, qm⟩ W
          rw [decide_eq_false HIq.out.2.2] at this
          exact this)
        clear d0 d1 d2 d3 d4 d5 d6 d7 hB
        refine wp_region_grown (by kernel_rfl) (by kernel_rfl) ?_
        repeat (go_big_quiet_step (first
          | (go_at_call 13; refine (from_any1 ⟨qw, qk, qm⟩ _).mono ?_; rintro e w7 ⟨rfl, hb7⟩; exact ⟨rfl, ⟨w7, bel_trans (GrownOf.b _) hb7⟩, rfl⟩)
          | (go_at_call 12; refine (HBl.out _).mono ?_; rintro e w7 ⟨rfl, hb7⟩; exact ⟨rfl, ⟨w7, bel_trans (GrownOf.b _) hb7⟩, rfl⟩)))
        refine wpQuiet_nil ?_
        rintro _ ⟨⟨w7, hb7⟩, rfl⟩
        have HB7 := Lib.hid (bel_trans (bel_trans HBr.out HBa.out) hb7)
        clear hb7 x1 x5 x6 x7 y0 y1 y2
        go_wp2_with fail
        go_roundw
        case rel => exact ⟨k + 1, by omega, by go_num, HB7⟩
        case measure => simp [intOf]; omega
      · obtain rfl : k = Q4.length := by omega
        go_wp2_with (first | (go_at_call 9; refine (HW.out _ (bel_trans HB2.out (bel_trans HB4.out (bel_trans HB9.out HBr.out)))).mono ?_; rintro e w6 ⟨rfl, hb6⟩) | fail)
        go_ret
        exact ⟨rfl, bel_trans (bel_trans HB2.out (bel_trans HB4.out (bel_trans HB9.out HBr.out))) hb6⟩
end Go.Proofs.YtplieoalfbpniaaGreat
