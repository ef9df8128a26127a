/- WalPlays (5). -/
import Derived.Test.YtokmiphgalpahaaVN
namespace Go.Proofs.Ytokmiphgalpahaa
open Go.RowKit Go.Kt
set_option maxRecDepth 100000
variable {w0 w w' w1 w2 W : World} {d mb m wb rb : Nat} {P Q : Pd} {H H' X X' K K2 : Nat → Prop} {s t B : Int} {bv cv wv rv : Value}
theorem wrap_u64_nonneg (x : Int) : 0 ≤ IntKind.u64.wrap x := by
  simp only [IntKind.wrap, IntKind.bits, IntKind.signed]
  have := Int.emod_nonneg x (b := 2 ^ 64) (by decide)
  simpa using this
theorem u64_mod (x d : Int) (h0 : 0 < d) (h1 : d ≤ 1000000) : ∃ y : Int, 0 ≤ y ∧ y < d ∧ wrap64 ((IntKind.u64.wrap x).tmod d) = y := by
  have h0' := wrap_u64_nonneg x
  have h2 := Int.emod_nonneg (IntKind.u64.wrap x) (b := d) (by omega)
  have h3 := Int.emod_lt_of_pos (IntKind.u64.wrap x) (b := d) (by omega)
  refine ⟨(IntKind.u64.wrap x) % d, h2, h3, ?_⟩
  rw [Int.tmod_eq_emod_of_nonneg h0', IntWalk.wrap64_in _ ⟨by omega, by omega⟩]
set_option maxHeartbeats 64000000 in
theorem plays_any (r0 : Int) (v1 v2 : Value) (l1 l2 : List Op) (w : World) (hv1 : RdO w v1 l1) (hv2 : RdO9 w v2 l2) (hb1 : ∀ o ∈ l1, o.keep.length * 8 ≤ 140737488355328) (hb2 : ∀ o ∈ l2, o.keep.length * 8 ≤ 140737488355328) : Calls Try.prog 5 #[.int .i64 r0, v1, v2] w fun e w' => e = .returned (.bool true) ∧ Below w.heap.size w w' := by
  obtain ⟨sa, cap, rfl, hcap, hbig, hcell⟩ := hv1.open
  have Hcell := Lib.hid hcell
  obtain ⟨sa2, cap2, rfl, hcap2, hbig2, hcell2⟩ := hv2.open
  have Hcell2 := Lib.hid hcell2
  have Hb1 := Lib.hid hb1
  have Hb2 := Lib.hid hb2
  clear hcell hcell2 hv1 hv2 hb1 hb2
  obtain ⟨y, hy0, hy1, hy⟩ := u64_mod r0 9000 (by omega) (by omega)
  obtain ⟨N, rfl⟩ : ∃ N : Nat, y = (N : Int) := ⟨y.toNat, by omega⟩
  go_enter Try.func5, Try.ntmps5
  go_wp2_with fail
  refine (awake_any _).mono ?_
  rintro e w1 ⟨rfl, hb1⟩
  have HB1 := Lib.hid hb1
  clear hb1
  go_wp2_with fail
  rw [hy]
  refine (new_ds N w1 (by omega)).mono ?_
  rintro e w2 ⟨d, mb, rfl, hd2⟩
  have HD2 := Lib.hid hd2
  clear hd2
  go_wp2_with fail
  refine (new_ref (N : Int) w2).mono ?_
  rintro e w3 ⟨rfl, hr3, hb3⟩
  have HB3 := Lib.hid (b2_new HD2.out HB1.out hr3 hb3)
  generalize w2.heap.size = m at *
  clear hr3 hb3 HD2 HB1 hy
  go_upto_block 0 with (fail)
  go_cut [] (fun wc => ∃ P : Pd, Hid (B2 w wc d mb m P P (fun _ => False)) ∧ Hid (Nums 1099511627776 P))
  case first =>
    as_aux_lemma =>
    go_wp2_with fail
    go_loopw [10, 11, 35] (fun _ _ iv wr => ∃ (k : Nat) (P : Pd), k ≤ l1.length ∧ iv = .int .i64 k ∧ Hid (B2 w wr d mb m P P (fun _ => False)) ∧ Hid (Nums 1099511627776 P)) (fun _ _ iv _ => l1.length - (intOf iv).toNat)
    case atStart => exact ⟨0, _, by omega, rfl, HB3, Lib.hid (by intro p hp; simp at hp)⟩
    case round =>
      clear HB3
      obtain ⟨k, P, hk, rfl, HB, HN⟩ := hrel
      by_cases hlt : k < l1.length
      · obtain ⟨o, ho⟩ : ∃ x, l1[k]? = some x := ⟨l1[k], List.getElem?_eq_getElem hlt⟩
        obtain ⟨b, q, pv, kv, rfl, hok, c0, c1, c2, c3⟩ := Hcell.out k o ho
        have hbl := World.block_lt_of_cell? w _ c0
        have k0 : wr.cell? ⟨b, q + k * 4, none⟩ = some (.int .i64 o.kind) := (HB.out.bel.cell (p := ⟨b, q + k * 4, none⟩) hbl).trans c0
        have k1 : wr.cell? ⟨b, q + k * 4 + 1, none⟩ = some (.int .i64 o.n) := (HB.out.bel.cell (p := ⟨b, q + k * 4 + 1, none⟩) hbl).trans c1
        have k2 : wr.cell? ⟨b, q + k * 4 + 2, none⟩ = some pv := (HB.out.bel.cell (p := ⟨b, q + k * 4 + 2, none⟩) hbl).trans c2
        have k3 : wr.cell? ⟨b, q + k * 4 + 3, none⟩ = some kv := (HB.out.bel.cell (p := ⟨b, q + k * 4 + 3, none⟩) hbl).trans c3
        have hkl := Hb1.out o (List.mem_of_getElem? ho)
        have Hok := Lib.hid hok
        obtain ⟨pa, pcap, rfl, hb1, hb2, _⟩ := hok.p.open
        obtain ⟨_, ka, kcap, rfl, _⟩ := hok.keep
        have HB1 := Lib.hid (HB.out.next (H' := fun _ => False) (below_alloc wr (.cells #[.int .i64 o.kind, .int .i64 o.n, .slice pa o.p.length pcap, .slice ka o.keep.length kcap] 46)) (fun x hx => hx.elim))
        clear ho c0 c1 c2 c3 hok
        by_cases h60 : (12 : Int) ≤ (k : Int)
        · go_wp2_with fail
          go_meet
          exact ⟨P, HB1, HN⟩
        have d60 : decide ((12 : Int) ≤ (k : Int)) = false := by simp only [decide_eq_false_iff_not]; omega
        by_cases hlong : 1000 < o.p.length
        · have d3 : decide (1000 < (o.p.length : Int)) = true := by simp only [decide_eq_true_eq]; omega
          go_wp2_with fail
          go_meet
          exact ⟨P, HB1, HN⟩
        have d3 : decide (1000 < (o.p.length : Int)) = false := by simp only [decide_eq_false_iff_not]; omega
        by_cases hk3 : o.kind = 3
        · have e3 : (o.kind == 3) = true := by rw [beq_iff_eq]; exact hk3
          clear hk3
          go_wp2_with fail
          go_meet
          exact ⟨P, HB1, HN⟩
        have e3 : (o.kind == 3) = false := by rw [beq_eq_false_iff_ne]; exact hk3
        by_cases hbn : 1099511627776 < o.n
        · have d4 : decide (1099511627776 < o.n) = true := by simp only [decide_eq_true_eq]; omega
          go_wp2_with fail
          go_meet
          exact ⟨P, HB1, HN⟩
        have d4 : decide (1099511627776 < o.n) = false := by simp only [decide_eq_false_iff_not]; omega
        have hpl : o.p.length ≤ 3000 := by omega
        have HN2 := Lib.hid (HN.out.step HB.out.ok o (by omega) (by omega))
        clear hk3
        go_wp2_with fail
        refine (does_any HB1.out o Hok.out hkl hpl).mono ?_
        rintro e w4 ⟨rfl, hB4⟩
        have HB4 := Lib.hid hB4
        clear hB4
        go_wp2_with fail
        go_roundw
        case rel => exact ⟨k + 1, _, by omega, by go_num, HB4, HN2⟩
        case measure => simp [intOf] <;> omega
      · obtain rfl : k = l1.length := by omega
        go_wp2_with fail
        go_meet
        exact ⟨P, HB, HN⟩
  case rest =>
    obtain ⟨P, HBc, HNc⟩ := hcut
    generalize hw4 : wc = w4 at *
    clear hw4 HB3
    have hbw := HBc.out.bel.size
    have HNo := Lib.hid (PdN.openW ⟨HBc.out.ok, HNc.out⟩ (by omega) (by omega))
    go_wp2_with fail
    refine (HBc.out.dopen (fun x hx => hx.elim) (HNc.out.more (by omega))).mono ?_
    rintro e w5 ⟨K, hr5, hB5, hK5, hT5⟩
    obtain ⟨wv, bv, lv, z, rfl, hv5⟩ := openRet_v hr5
    have HB5 := Lib.hid hB5
    have HQ5 := Lib.hid (⟨hK5, hT5.size, hv5⟩ : _ ∧ _ ∧ _)
    have hX5 : ∀ x, (K x ∨ False) → x < w5.heap.size := fun x hx => by rcases hx with hx | hx; exact (hK5 x hx).2; exact hx.elim
    clear hr5 hB5 hK5 hT5 hv5
    go_wp2_with fail
    refine (HB5.out.ropen hX5 ⟨HBc.out.ok, HNc.out.more (by omega)⟩).mono ?_
    rintro e w6 ⟨K2, hr6, hB6, hK6, hT6⟩
    obtain ⟨rv, z2, rfl, hv6⟩ := ropenRet_v hr6
    obtain ⟨rfl, hst, htold⟩ := opened_two (X := fun _ => False) hbw (fun x hx => hx.elim) HQ5.out.1 hK6 HQ5.out.2.1 hT6 hB6 HQ5.out.2.2 hv6 HNo.out.1.2 HNo.out.2
    have HS6 := Lib.hid hst
    have HTo := Lib.hid htold
    clear hr6 hB6 hK6 hT6 hv6 hst htold HQ5 HB5 hX5 HBc
    go_upto_region 15 with fail
    generalize (openW P).2.2 = P2 at *
    clear HNo
    go_cut [114] (fun tv wc => tv = .bool false ∧ Hid (St w wc d mb m 1099511627777 P2 wv rv (fun _ => False)))
    case first =>
      as_aux_lemma =>
      rcases HTo.out with ⟨rfl, rfl⟩ | ⟨wb, rb, s, base, recs, cv, dv, rfl, rfl, h8, hbs, hR, h8', hbs'⟩
      · as_aux_lemma =>
        refine wp_region_grown (by kernel_rfl) (by kernel_rfl) ?_
        repeat (go_big_quiet_step ((go_at_call 16; refine ((HS6.out.next (X' := fun _ => False) (GrownOf.b _) (fun x hx => hx.elim)).b2.is).mono ?_; rintro e w7 ⟨rfl, hb7⟩; exact ⟨rfl, ⟨w7, bel_trans (GrownOf.b _) hb7⟩, rfl⟩)))
        refine wpQuiet_nil ?_
        rintro _ ⟨⟨w7, hb7⟩, rfl⟩
        have HS7 := Lib.hid (HS6.out.next (X' := fun _ => False) hb7 (fun x hx => hx.elim))
        clear hb7
        go_wp2_with fail
        go_meet
        exact ⟨rfl, HS7⟩
      · as_aux_lemma =>
        obtain ⟨ba, bc, rfl, -, -, -, -⟩ := h8.open
        obtain ⟨la, lc, rfl, -, -, -⟩ := hbs.open
        obtain ⟨ca, cc, rfl, -, -, -, -⟩ := h8'.open
        obtain ⟨da, dc, rfl, -, -, -⟩ := hbs'.open
        have x2 : ∀ g : GrownOf w6, g.W.cell? ⟨rb, 2, none⟩ = some (.slice ca base.length cc) := fun g => (hR.next g.b).cell 2
        have x3 : ∀ g : GrownOf w6, g.W.cell? ⟨rb, 3, none⟩ = some (.slice da recs.length dc) := fun g => (hR.next g.b).cell 3
        have s1 := fun g : GrownOf w6 => run_str8 (P := Try.prog) (dst := 9) Try.underlying22 Try.underlying5 Try.underlying9 (h8.below g.b)
        have s2 := fun g : GrownOf w6 => run_str8 (P := Try.prog) (dst := 9) Try.underlying22 Try.underlying5 Try.underlying9 (h8'.below g.b)
        have Hbs := Lib.hid hbs
        have Hbs' := Lib.hid hbs'
        clear h8 hbs h8' hbs' hR
        refine wp_region_grown (by kernel_rfl) (by kernel_rfl) ?_
        repeat (go_big_quiet_step (first
          | (go_at_call 12; refine (same_any _ _ _ _ _ (Hbs.out.next (GrownOf.b _)) (Hbs'.out.next (GrownOf.b _))).mono ?_; simp only [decide_true]; rintro e w7 ⟨rfl, hb7⟩; exact ⟨rfl, ⟨w7, bel_trans (GrownOf.b _) hb7⟩, rfl⟩)
          | (go_at_call 16; refine ((HS6.out.next (X' := fun _ => False) (GrownOf.b _) (fun x hx => hx.elim)).b2.is).mono ?_; rintro e w7 ⟨rfl, hb7⟩; exact ⟨rfl, ⟨w7, bel_trans (GrownOf.b _) hb7⟩, rfl⟩)))
        refine wpQuiet_nil ?_
        rintro _ ⟨⟨w7, hb7⟩, rfl⟩
        have HS7 := Lib.hid (HS6.out.next (X' := fun _ => False) hb7 (fun x hx => hx.elim))
        clear hb7
        go_wp2_with fail
        go_meet
        exact ⟨rfl, HS7⟩
    case rest =>
      obtain ⟨rfl, HS⟩ := hcut
      generalize hw7 : wc = w7 at *
      clear hw7 HS6 HTo
      go_wp2_with fail
      go_loopw [12, 16, 18, 19, 117] (fun wv rv _ _ iv wr => ∃ (k : Nat) (P : Pd), k ≤ l2.length ∧ k ≤ 40 ∧ iv = .int .i64 k ∧ Hid (St w wr d mb m (1099511627777 + k) P wv rv (fun _ => False))) (fun _ _ _ _ iv _ => l2.length - (intOf iv).toNat)
      case atStart => exact ⟨0, P2, by omega, by omega, rfl, Lib.hid (HS.out.more (by omega))⟩
      case round =>
        clear HS
        obtain ⟨k, P, hk, hk40, rfl, HS⟩ := hrel
        by_cases hlt : k < l2.length
        · obtain ⟨o, ho⟩ : ∃ x, l2[k]? = some x := ⟨l2[k], List.getElem?_eq_getElem hlt⟩
          obtain ⟨b, q, pv, kv, rfl, hok, c0, c1, c2, c3⟩ := Hcell2.out k o ho
          have hbl := World.block_lt_of_cell? w _ c0
          have k0 : wr.cell? ⟨b, q + k * 4, none⟩ = some (.int .i64 o.kind) := (HS.out.b2.bel.cell (p := ⟨b, q + k * 4, none⟩) hbl).trans c0
          have k1 : wr.cell? ⟨b, q + k * 4 + 1, none⟩ = some pv := (HS.out.b2.bel.cell (p := ⟨b, q + k * 4 + 1, none⟩) hbl).trans c1
          have k2 : wr.cell? ⟨b, q + k * 4 + 2, none⟩ = some (.int .i64 o.n) := (HS.out.b2.bel.cell (p := ⟨b, q + k * 4 + 2, none⟩) hbl).trans c2
          have k3 : wr.cell? ⟨b, q + k * 4 + 3, none⟩ = some kv := (HS.out.b2.bel.cell (p := ⟨b, q + k * 4 + 3, none⟩) hbl).trans c3
          have hkl := Hb2.out o (List.mem_of_getElem? ho)
          have Hok := Lib.hid hok
          obtain ⟨pa, pcap, rfl, hb1, hb2, _⟩ := hok.p.open
          obtain ⟨_, ka, kcap, rfl, _⟩ := hok.keep
          have HS1 := Lib.hid (HS.out.next (X' := fun x => x = wr.heap.size) (below_alloc wr (.cells #[.int .i64 o.kind, .slice pa o.p.length pcap, .int .i64 o.n, .slice ka o.keep.length kcap] 38)) (fun x hx => ⟨.inr (by omega), by simp; omega⟩))
          have HG1 := Lib.hid (Blk.new wr #[.int .i64 o.kind, .slice pa o.p.length pcap, .int .i64 o.n, .slice ka o.keep.length kcap] 38)
          clear ho c0 c1 c2 c3 hok HS
          by_cases h60 : (40 : Int) ≤ (k : Int)
          · as_aux_lemma =>
            go_wp2_with fail
            go_ret
            exact ⟨rfl, HS1.out.b2.bel⟩
          have d60 : decide ((40 : Int) ≤ (k : Int)) = false := by simp only [decide_eq_false_iff_not]; omega
          by_cases hlong : 1500 < o.p.length
          · have d3 : decide (1500 < (o.p.length : Int)) = true := by simp only [decide_eq_true_eq]; omega
            go_wp2_with fail
            go_ret
            exact ⟨rfl, HS1.out.b2.bel⟩
          have d3 : decide (1500 < (o.p.length : Int)) = false := by simp only [decide_eq_false_iff_not]; omega
          have h40 : k + 1 ≤ 40 := by omega
          have hpl : o.p.length ≤ 1500 := by omega
          clear h60 hlong
          go_upto_region 21 with fail
          go_cut [137] (fun cv wc => cv = .bool (decide (o.kind = 3 ∨ o.kind = 4)) ∧ wc = wr.alloc (.cells #[.int .i64 o.kind, .slice pa o.p.length pcap, .int .i64 o.n, .slice ka o.keep.length kcap] 38))
          case first =>
            as_aux_lemma =>
            by_cases hk3 : o.kind = 3
            · as_aux_lemma =>
              have e3 : (o.kind == 3) = true := by rw [beq_iff_eq]; exact hk3
              have Hd : Hid (true = decide (o.kind = 3 ∨ o.kind = 4)) := Lib.hid (by simp [hk3])
              clear hk3
              go_wp2_with fail
              go_meet
              exact ⟨congrArg Value.bool Hd.out, rfl⟩
            have e3 : (o.kind == 3) = false := by rw [beq_eq_false_iff_ne]; exact hk3
            by_cases hk4 : o.kind = 4
            · as_aux_lemma =>
              have e4 : (o.kind == 4) = true := by rw [beq_iff_eq]; exact hk4
              have Hd : Hid (true = decide (o.kind = 3 ∨ o.kind = 4)) := Lib.hid (by simp [hk4])
              clear hk3 hk4
              go_wp2_with fail
              go_meet
              exact ⟨congrArg Value.bool Hd.out, rfl⟩
            · as_aux_lemma =>
              have e4 : (o.kind == 4) = false := by rw [beq_eq_false_iff_ne]; exact hk4
              have Hd : Hid (false = decide (o.kind = 3 ∨ o.kind = 4)) := Lib.hid (by simp [hk3, hk4])
              clear hk3 hk4
              go_wp2_with fail
              go_meet
              exact ⟨congrArg Value.bool Hd.out, rfl⟩
          case rest =>
          obtain ⟨rfl, hwc⟩ := hcut
          subst hwc
          clear k0 k1 k2 k3
          go_upto_if 137 with fail
          generalize hwa : wr.alloc (.cells #[.int .i64 o.kind, .slice pa o.p.length pcap, .int .i64 o.n, .slice ka o.keep.length kcap] 38) = w1 at *
          generalize wr.heap.size = g at *
          clear hwa
          go_cut [] (fun wc => ∃ P8, Hid (St w wc d mb m (1099511627777 + k) P8 u12 u16 (fun x => x = g)) ∧ Hid (Blk wc g #[.int .i64 o.kind, .slice pa o.p.length pcap, .int .i64 o.n, .slice ka o.keep.length kcap] 38))
          case first =>
            as_aux_lemma =>
            by_cases hk34 : o.kind = 3 ∨ o.kind = 4
            · as_aux_lemma =>
              have hd : decide (o.kind = 3 ∨ o.kind = 4) = true := decide_eq_true hk34
              have HD := Lib.hid (st_does HS1.out ⟨o.kind, o.n, [], o.keep⟩ hk34 (pv := .slice none 0 0) ⟨rd_nil _, Hok.out.keep, Hok.out.kind, Hok.out.n⟩ hkl)
              have z0 : w1.cell? ⟨g, 0, none⟩ = some (.int .i64 o.kind) := HG1.out.cell 0
              have z2 : w1.cell? ⟨g, 2, none⟩ = some (.int .i64 o.n) := HG1.out.cell 2
              have z3 : w1.cell? ⟨g, 3, none⟩ = some (.slice ka o.keep.length kcap) := HG1.out.cell 3
              rw [hd]
              clear hk34 hd
              go_wp2_with fail
              refine HD.out.mono ?_
              rintro e w8 ⟨rfl, hS8, hK8⟩
              have HS8 := Lib.hid hS8
              have HG8 := Lib.hid (hK8 _ _ _ rfl HG1.out)
              clear hS8 hK8
              go_wp2_with fail
              go_meet
              exact ⟨_, HS8, HG8⟩
            · as_aux_lemma =>
              have hd : decide (o.kind = 3 ∨ o.kind = 4) = false := decide_eq_false hk34
              rw [hd]
              clear hk34 hd
              go_wp2_with fail
              go_meet
              exact ⟨P, HS1, HG1⟩
          case rest =>
          obtain ⟨P8, HS8, HG8⟩ := hcut
          generalize hw8 : wc = w8 at *
          clear hw8 HS1 HG1
          have hkl' := hkl
          clear hkl hkl'
          have z0 : w8.cell? ⟨g, 0, none⟩ = some (.int .i64 o.kind) := HG8.out.cell 0
          go_upto_block 4 with (fail)
          go_cut [12, 16] (fun wv rv wc => ∃ P9, Hid (St w wc d mb m (1099511627777 + k + 1) P9 wv rv (fun _ => False)))
          case first =>
            as_aux_lemma =>
            by_cases hk5 : 4 ≤ o.kind
            · as_aux_lemma =>
              have d4 : decide (4 ≤ o.kind) = true := by simp only [decide_eq_true_eq]; omega
              clear hk5
              have hbw8 := HS8.out.b2.bel.size
              have HNo := Lib.hid (PdN.openW ⟨HS8.out.b2.ok, HS8.out.1⟩ (by omega) (by omega))
              go_wp2_with fail
              refine (HS8.out.b2.dopen HS8.out.lt (HS8.out.1.more (by omega))).mono ?_
              rintro e w5 ⟨K, hr5, hB5, hK5, hT5⟩
              obtain ⟨wv', bv', lv', z', rfl, hv5⟩ := openRet_v hr5
              have HB5 := Lib.hid hB5
              have HQ5 := Lib.hid (⟨hK5, hT5.size, hv5⟩ : _ ∧ _ ∧ _)
              have hX5 : ∀ x, (K x ∨ x = g) → x < w5.heap.size := fun x hx => by
                rcases hx with hx | hx
                · exact (hK5 x hx).2
                · have h1 := HS8.out.lt x hx
                  have h2 := hT5.size
                  omega
              clear hr5 hB5 hK5 hT5 hv5
              go_wp2_with fail
              refine (HB5.out.ropen hX5 ⟨HS8.out.b2.ok, HS8.out.1.more (by omega)⟩).mono ?_
              rintro e w6 ⟨K2, hr6, hB6, hK6, hT6⟩
              obtain ⟨rv', z2, rfl, hv6⟩ := ropenRet_v hr6
              obtain ⟨rfl, hst, htold⟩ := opened_two (X := fun x => x = g) hbw8 HS8.out.lt HQ5.out.1 hK6 HQ5.out.2.1 hT6 hB6 HQ5.out.2.2 hv6 HNo.out.1.2 HNo.out.2
              have HS6 := Lib.hid hst
              have HTo := Lib.hid htold
              clear hr6 hB6 hK6 hT6 hv6 hst htold HQ5 HB5 hX5 HNo HS8
              go_upto_region 27 with fail
              rcases HTo.out with ⟨rfl, rfl⟩ | ⟨wb, rb, s, base, recs, cv, dv, rfl, rfl, h8, hbs, hR, h8', hbs'⟩
              · as_aux_lemma =>
                clear HTo
                refine wp_region_grown (by kernel_rfl) (by kernel_rfl) ?_
                repeat (go_big_quiet_step (fail))
                refine wpQuiet_nil ?_
                rintro _ ⟨⟨w7, hb7⟩, rfl⟩
                have HS7 := Lib.hid (HS6.out.next (X' := fun _ => False) hb7 (fun x hx => hx.elim))
                clear hb7
                go_wp2_with fail
                go_meet
                exact ⟨_, Lib.hid (HS7.out.more (by omega))⟩
              · as_aux_lemma =>
                obtain ⟨ba, bc, rfl, -, -, -, -⟩ := h8.open
                obtain ⟨la, lc, rfl, -, -, -⟩ := hbs.open
                obtain ⟨ca, cc, rfl, -, -, -, -⟩ := h8'.open
                obtain ⟨da, dc, rfl, -, -, -⟩ := hbs'.open
                have x2 : ∀ g : GrownOf w6, g.W.cell? ⟨rb, 2, none⟩ = some (.slice ca base.length cc) := fun g => (hR.next g.b).cell 2
                have x3 : ∀ g : GrownOf w6, g.W.cell? ⟨rb, 3, none⟩ = some (.slice da recs.length dc) := fun g => (hR.next g.b).cell 3
                have s1 := fun g : GrownOf w6 => run_str8 (P := Try.prog) (dst := 9) Try.underlying22 Try.underlying5 Try.underlying9 (h8.below g.b)
                have s2 := fun g : GrownOf w6 => run_str8 (P := Try.prog) (dst := 9) Try.underlying22 Try.underlying5 Try.underlying9 (h8'.below g.b)
                have Hbs := Lib.hid hbs
                have Hbs' := Lib.hid hbs'
                clear h8 hbs h8' hbs' hR HTo
                refine wp_region_grown (by kernel_rfl) (by kernel_rfl) ?_
                repeat (go_big_quiet_step ((go_at_call 12; refine (same_any _ _ _ _ _ (Hbs.out.next (GrownOf.b _)) (Hbs'.out.next (GrownOf.b _))).mono ?_; simp only [decide_true]; rintro e w7 ⟨rfl, hb7⟩; exact ⟨rfl, ⟨w7, bel_trans (GrownOf.b _) hb7⟩, rfl⟩)))
                refine wpQuiet_nil ?_
                rintro _ ⟨⟨w7, hb7⟩, rfl⟩
                have HS7 := Lib.hid (HS6.out.next (X' := fun _ => False) hb7 (fun x hx => hx.elim))
                clear hb7 x2 x3 s1 s2
                go_wp2_with fail
                go_meet
                exact ⟨_, Lib.hid (HS7.out.more (by omega))⟩
            have d4 : decide (4 ≤ o.kind) = false := by simp only [decide_eq_false_iff_not]; omega
            clear hk5
            rcases HS8.out.2 with ⟨rfl, rfl, -⟩ | ⟨wb, rb, s, bv', cv', rfl, rfl, hs1, hs2, hL⟩
            · as_aux_lemma =>
              go_wp2_with fail
              go_meet
              exact ⟨_, Lib.hid ((HS8.out.next (X' := fun _ => False) (bel_refl _) (fun x hx => hx.elim)).more (by omega))⟩
            have HL1 := Lib.hid hL
            have Hpk := Lib.hid HS8.out.b2.ok
            have HNm := Lib.hid HS8.out.1
            have hrs : Rng s := ⟨by omega, by omega⟩
            by_cases hk0 : o.kind = 0
            · as_aux_lemma =>
              have e0 : (o.kind == 0) = true := by rw [beq_iff_eq]; exact hk0
              clear hk0 hL HS8
              go_upto_region 31 with fail
              have x1 : w8.cell? ⟨g, 1, none⟩ = some (.slice pa o.p.length pcap) := HG8.out.cell 1
              have r1 : w8.cell? ⟨rb, 1, none⟩ = some (.int .i64 s) := HL1.out.kr.cell 1
              have hx1 := bel_refl w8
              have hgl := HG8.out.lt
              have HXg : Hid (∀ W, Below w8.heap.size w8 W → ∀ x, x = g → (x = g ∨ w8.heap.size ≤ x) ∧ x < W.heap.size) := Lib.hid (fun W hW x hx => ⟨.inl hx, by have := hW.size; omega⟩)
              have HN4 : Hid (Nums (1099511627777 + k) (recW P8 s o.p).2) := Lib.hid (PdN.recW ⟨Hpk.out, HNm.out⟩ hs2 (by omega) _).2
              go_region_law
                (first
                  | (refine step_app8_mine (by rfl) _ _ 22 (by rfl) ok28 [] o.p (by rfl) (by rfl) w8 (by repeat (first | assumption | apply bel_alloc | apply bel_drew | apply bel_drewN)) (by exact mine8_at [] (by simp [maxLen]) rfl rfl (by simp) rfl) (Hok.out.p.below (bel_trans HL1.out.bel (by repeat (first | assumption | apply bel_alloc | apply bel_drew | apply bel_drewN)))) (by simp; omega) ?_; intro v7 w7 hm7 hb7 hg7 hz7; simp only [List.nil_append] at hm7; obtain ⟨va, vcap, rfl, _⟩ := hm7.rd.open; have HM7 := Lib.hid hm7; have HL7 := Lib.hid (HL1.out.next (X' := fun x => x = g) hb7 (HXg.out _ hb7)); have HG7 := Lib.hid (HG8.out.next hb7); have x7 : w7.cell? ⟨g, 1, none⟩ = some (.slice pa o.p.length pcap) := HG7.out.cell 1; have hx7 := bel_refl w7; clear hm7 hb7 hg7 hz7)
                  | (go_simp; go_at_call 9; refine (l2_append (HL7.out.next (X' := fun x => x = g) (by repeat (first | assumption | apply bel_alloc | apply bel_drew | apply bel_drewN)) (fun x hx => ⟨.inl hx, by have := HG7.out.lt; subst hx; simpa using this⟩)) hrs (HM7.out.rd.below (by repeat (first | assumption | apply bel_alloc | apply bel_drew | apply bel_drewN)))).mono ?_; rintro e wA ⟨rfl, hlA, hkA⟩; have HLA := Lib.hid hlA; have HGA := Lib.hid (hkA _ _ _ rfl (HG7.out.next (by repeat (first | assumption | apply bel_alloc | apply bel_drew | apply bel_drewN)))); have x8 : wA.cell? ⟨g, 1, none⟩ = some (.slice pa o.p.length pcap) := HGA.out.cell 1; have hxA := bel_refl wA; clear hlA hkA)
                  | (go_simp; go_at_call 17; refine (l2_rappend (HLA.out.next (X' := fun x => x = g) (by repeat (first | assumption | apply bel_alloc | apply bel_drew | apply bel_drewN)) (fun x hx => ⟨.inl hx, by have := HGA.out.lt; subst hx; simpa using this⟩)) Hpk.out (Hok.out.p.below (bel_trans HLA.out.bel (by repeat (first | assumption | apply bel_alloc | apply bel_drew | apply bel_drewN))))).mono ?_; rintro e w4 ⟨rfl, hl4, hk4⟩; have HS4 : Hid (St w w4 d mb m (1099511627777 + k) (recW P8 s o.p).2 (.pointer (some ⟨wb, 0, none⟩)) (.pointer (some ⟨rb, 0, none⟩)) (fun x => x = g)) := Lib.hid ⟨HN4.out, .inr ⟨wb, rb, s, bv', cv', rfl, rfl, hs1, hs2, hl4⟩⟩; clear hl4 hk4))
              all_goals (go_wp2_with fail)
              all_goals go_meet
              all_goals exact ⟨_, Lib.hid ((HS4.out.next (X' := fun _ => False) (bel_refl _) (fun x hx => hx.elim)).more (by omega))⟩
            have e0 : (o.kind == 0) = false := by rw [beq_eq_false_iff_ne]; exact hk0
            by_cases hk1 : o.kind = 1
            · as_aux_lemma =>
              have e1 : (o.kind == 1) = true := by rw [beq_iff_eq]; exact hk1
              clear hk0 hk1 hL HS8
              go_upto_region 34 with fail
              have x1 : w8.cell? ⟨g, 1, none⟩ = some (.slice pa o.p.length pcap) := HG8.out.cell 1
              have r1 : w8.cell? ⟨rb, 1, none⟩ = some (.int .i64 s) := HL1.out.kr.cell 1
              have hx1 := bel_refl w8
              have hgl := HG8.out.lt
              have HXg : Hid (∀ W, Below w8.heap.size w8 W → ∀ x, x = g → (x = g ∨ w8.heap.size ≤ x) ∧ x < W.heap.size) := Lib.hid (fun W hW x hx => ⟨.inl hx, by have := hW.size; omega⟩)
              have HN4 : Hid (Nums (1099511627777 + k) (P8.sync s).2) := Lib.hid (PdN.sync ⟨Hpk.out, HNm.out⟩ s).2
              go_region_held3 (fun w' => w'.cell? ⟨rb, 1, none⟩ = some (.int .i64 s))
                (first | go_keep | exact r8 | exact r4)
                (first
                  | (go_at_call 10; refine (l2_sync (HL1.out.next (X' := fun x => x = g) (by repeat (first | assumption | apply bel_alloc | apply bel_drew | apply bel_drewN)) (fun x hx => ⟨.inl hx, by subst hx; simpa using hgl⟩)) hrs).mono ?_; rintro e wA ⟨rfl, hlA, hkA⟩; have HLA := Lib.hid hlA; have r8 : wA.cell? ⟨rb, 1, none⟩ = some (.int .i64 s) := hlA.kr.cell 1; have hxA := bel_refl wA; clear hlA hkA)
                  | (go_at_call 18; refine (l2_rsync (HLA.out.next (X' := fun x => x = g) (by repeat (first | assumption | apply bel_alloc | apply bel_drew | apply bel_drewN)) (fun x hx => ⟨.inl hx, by have := (HLA.out.x x hx).2.2; simpa using this⟩)) Hpk.out s).mono ?_; rintro e w4 ⟨rfl, hl4, hk4⟩; have r4 : w4.cell? ⟨rb, 1, none⟩ = some (.int .i64 s) := hl4.kr.cell 1; have HS4 : Hid (St w w4 d mb m (1099511627777 + k) (P8.sync s).2 (.pointer (some ⟨wb, 0, none⟩)) (.pointer (some ⟨rb, 0, none⟩)) (fun x => x = g)) := Lib.hid ⟨HN4.out, .inr ⟨wb, rb, s, bv', cv', rfl, rfl, hs1, hs2, hl4⟩⟩; clear hl4 hk4))
              all_goals (go_wp2_with fail)
              all_goals go_meet
              all_goals exact ⟨_, Lib.hid ((HS4.out.next (X' := fun _ => False) (bel_refl _) (fun x hx => hx.elim)).more (by omega))⟩
            have e1 : (o.kind == 1) = false := by rw [beq_eq_false_iff_ne]; exact hk1
            by_cases hk2 : o.kind = 2
            · as_aux_lemma =>
              have e2 : (o.kind == 2) = true := by rw [beq_iff_eq]; exact hk2
              clear hk0 hk1 hk2 hL HS8
              go_upto_region 37 with fail
              have x1 : w8.cell? ⟨g, 1, none⟩ = some (.slice pa o.p.length pcap) := HG8.out.cell 1
              have r1 : w8.cell? ⟨rb, 1, none⟩ = some (.int .i64 s) := HL1.out.kr.cell 1
              have hx1 := bel_refl w8
              have hgl := HG8.out.lt
              have HXg : Hid (∀ W, Below w8.heap.size w8 W → ∀ x, x = g → (x = g ∨ w8.heap.size ≤ x) ∧ x < W.heap.size) := Lib.hid (fun W hW x hx => ⟨.inl hx, by have := hW.size; omega⟩)
              have HN4 := Lib.hid (PdN.rebaseW (B := 1099511627777 + k + 1) ⟨Hpk.out, HNm.out.more (by omega)⟩ hs1 (by omega) (by omega) o.p)
              go_region_held3 (fun w' => w'.cell? ⟨g, 1, none⟩ = some (.slice pa o.p.length pcap))
                (first | go_keep | exact x8 | exact x4)
                (first
                  | (go_at_call 11; refine (l2_rebase (HL1.out.next (X' := fun x => x = g) (by repeat (first | assumption | apply bel_alloc | apply bel_drew | apply bel_drewN)) (fun x hx => ⟨.inl hx, by subst hx; simpa using hgl⟩)) (by omega) (by omega) (Hok.out.p.below (bel_trans HL1.out.bel (by repeat (first | assumption | apply bel_alloc | apply bel_drew | apply bel_drewN))))).mono ?_; rintro e wA ⟨rfl, hlA, hkA⟩; have HLA := Lib.hid hlA; have HGA := Lib.hid (hkA _ _ _ rfl (HG8.out.next (by repeat (first | assumption | apply bel_alloc | apply bel_drew | apply bel_drewN)))); have x8 : wA.cell? ⟨g, 1, none⟩ = some (.slice pa o.p.length pcap) := HGA.out.cell 1; have hxA := bel_refl wA; clear hlA hkA)
                  | (go_at_call 19; refine (l2_rrebase (HLA.out.next (X' := fun x => x = g) (by repeat (first | assumption | apply bel_alloc | apply bel_drew | apply bel_drewN)) (fun x hx => ⟨.inl hx, by have := HGA.out.lt; subst hx; simpa using this⟩)) ⟨Hpk.out, HNm.out.more (by omega)⟩ (by omega) (by omega) (Hok.out.p.below (bel_trans HLA.out.bel (by repeat (first | assumption | apply bel_alloc | apply bel_drew | apply bel_drewN))))).mono ?_; rintro e w4 ⟨rfl, hl4, hk4⟩; have x4 : w4.cell? ⟨g, 1, none⟩ = some (.slice pa o.p.length pcap) := (hk4 _ _ _ rfl (HGA.out.next (by repeat (first | assumption | apply bel_alloc | apply bel_drew | apply bel_drewN)))).cell 1; have HS4 : Hid (St w w4 d mb m (1099511627777 + k + 1) (rebaseW P8 s o.p).2.2 (.pointer (some ⟨wb, 0, none⟩)) (.pointer (some ⟨rb, 0, none⟩)) (fun x => x = g)) := Lib.hid ⟨HN4.out.1.2, .inr ⟨wb, rb, _, bv', cv', rfl, rfl, HN4.out.2.1, HN4.out.2.2, hl4⟩⟩; clear hl4 hk4))
              all_goals (go_wp2_with fail)
              all_goals go_meet
              all_goals exact ⟨_, Lib.hid ((HS4.out.next (X' := fun _ => False) (bel_refl _) (fun x hx => hx.elim)).more (by omega))⟩
            · as_aux_lemma =>
              have e2 : (o.kind == 2) = false := by rw [beq_eq_false_iff_ne]; exact hk2
              clear hk0 hk1 hk2 hL
              go_wp2_with fail
              go_meet
              exact ⟨_, Lib.hid ((HS8.out.next (X' := fun _ => False) (bel_refl _) (fun x hx => hx.elim)).more (by omega))⟩
          case rest =>
          obtain ⟨P9, HSD⟩ := hcut
          clear HS8 HG8 z0
          go_wp2_with fail
          refine ((HSD.out).b2.is).mono ?_
          rintro e w9 ⟨rfl, hb9⟩
          have HS9 := Lib.hid (HSD.out.next (X' := fun _ => False) hb9 (fun x hx => hx.elim))
          clear hb9
          go_wp2_with fail
          go_roundw
          case rel => exact ⟨k + 1, P9, by omega, h40, by go_num, Lib.hid (HS9.out.more (by omega))⟩
          case measure => simp [intOf] <;> omega
        · obtain rfl : k = l2.length := by omega
          go_wp2_with fail
          go_ret
          exact ⟨rfl, HS.out.b2.bel⟩
end Go.Proofs.Ytokmiphgalpahaa
