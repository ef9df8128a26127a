/- StoreCuts (5). -/
import Derived.Test.YtplieoalfbpniaaGreatSZ
set_option linter.unusedVariables false
set_option linter.unusedSimpArgs false
namespace Go.Proofs.YtplieoalfbpniaaGreat
open Go.RowKit Go.Kt Go.Ix Go.Sx
set_option maxRecDepth 100000
set_option maxHeartbeats 1000000 in
theorem rto_any2 (v : Value) (l : List Rl) (w : World) (hv : RdR w v l) (hlen : l.length ≤ 3518437208883) :
    Calls Tryz.prog 21 #[v] w fun e w' => ∃ v', e = .returned v' ∧ MineR 119 w w' v' l := by
  obtain ⟨a, cap, rfl, hcap, hbig, hcell⟩ := hv.open
  have Hcell := Lib.hid hcell
  clear hcell hv
  go_enter Tryz.func21, Tryz.ntmps21
  go_wp2_with fail
  go_loopw [3, 5, 8] (fun v _ i wr => ∃ k : Nat, k ≤ l.length ∧ i = .int .i64 k ∧ Hid (MineR 119 w wr v (l.take k))) (fun _ _ i _ => l.length - (intOf i).toNat)
  case atStart => exact ⟨0, by omega, rfl, Lib.hid (mine_nil 119 3 w)⟩
  case round =>
    obtain ⟨k, hk, rfl, HM⟩ := hrel
    by_cases hlt : k < l.length
    · obtain ⟨p, hp⟩ : ∃ x, l[k]? = some x := ⟨l[k], List.getElem?_eq_getElem hlt⟩
      obtain ⟨b, o, rfl, lb, c1, c2, c3⟩ := Hcell.out k p hp
      have c1' : wr.cell? ⟨b, o + k * 3, none⟩ = some (.string p.n) := (HM.out.2.2.cell (p := ⟨b, o + k * 3, none⟩) lb).trans c1
      have c2' : wr.cell? ⟨b, o + k * 3 + 1, none⟩ = some (.int .i64 p.op) := (HM.out.2.2.cell (p := ⟨b, o + k * 3 + 1, none⟩) lb).trans c2
      have c3' : wr.cell? ⟨b, o + k * 3 + 2, none⟩ = some (.string p.v) := (HM.out.2.2.cell (p := ⟨b, o + k * 3 + 2, none⟩) lb).trans c3
      have HT := Lib.hid (flatR_take l k p hp)
      have Hkl : Hid ((l.take k).length = k) := Lib.hid (by rw [List.length_take]; omega)
      clear c1 c2 c3 hp lb
      go_wp2_with (at_builtin; apply Hold.mk)
      unfold Hold
      refine mine_app rfl _ _ 60 rfl ok56 (by rfl) (by rfl) HM.out (by repeat (first | exact bel_refl _ | apply bel_alloc | apply bel_drew)) (by exact rd_lit 3 #[.string p.n, .int .i64 p.op, .string p.v] 1 (by simp) one_le rfl) (rule_one p) (by rw [Hkl.out]; simp only [maxLen]; omega) (by rw [Hkl.out]; omega) ?_
      intro v7 w7 hm7 hg7
      rw [Hkl.out, show (#[Value.string p.n, .int .i64 p.op, Value.string p.v] : Array Value).toList = [.string p.n, .int .i64 p.op, .string p.v] from rfl, ← HT.out] at hm7
      have HM7 : Hid (MineR 119 w w7 v7 (l.take (k + 1))) := Lib.hid (by unfold MineR; rw [List.length_take, Nat.min_eq_left (by omega)]; exact hm7)
      clear hm7 hg7
      go_wp2_with fail
      go_roundw
      case rel => exact ⟨k + 1, by omega, by go_num, HM7⟩
      case measure => simp [intOf]; omega
    · obtain rfl : k = l.length := by omega
      rw [List.take_length] at HM
      go_wp2_with fail
      go_ret
      exact ⟨_, rfl, HM.out⟩


/-- the sets of what is told are right ones -/
theorem told_right {F : Nat → Prop} {w : World} {s N : Nat} {L : List It} (h : St F w s L N) {Q : List Pn} {p : List Pr → Bool} {a b : Int} {u : Tm} (hq : Q.map Pn.told = scanL L p a b u) : Q.length ≤ 65536 ∧ ∀ q ∈ Q, q.st.length ≤ 16 := by
  obtain ⟨om, S, h⟩ := h
  constructor
  · have := congrArg List.length hq
    rw [List.length_map] at this
    rw [this]
    exact scan_bound h (List.Sublist.refl _) _ _ _ _
  · intro q hm
    have h1 : q.told ∈ scanL L p a b u := by rw [← hq]; exact List.mem_map_of_mem hm
    unfold scanL at h1
    obtain ⟨x, hx, h2⟩ := List.mem_filterMap.1 h1
    have hr := (right_sets h x hx).1
    split at h2
    · unfold tell at h2
      split at h2
      · rw [Option.map_eq_some_iff] at h2
        obtain ⟨v, _, e⟩ := h2
        have e1 := congrArg Prod.fst e
        have : x.set = q.st := e1
        rw [← this]; exact hr
      · cases h2
    · cases h2
/-- what is told of a store that stands -/
abbrev Tells (w0 : World) (s : Nat) (L : List It) (rules : List Rl) (x : Tm) : Prop := ∀ (W : World) (rv : Value) (a b : Int), Below w0.heap.size w0 W → RdR W rv rules → Calls Tryz.prog 10 #[.pointer (some ⟨s, 0, none⟩), rv, .int .i64 a, .int .i64 b, x.val] W fun e w' => ∃ (ad : Option Addr) (c : Nat) (Q : List Pn), e = .returned (.slice ad Q.length c) ∧ RdN w' (.slice ad Q.length c) Q ∧ Q.map Pn.told = scanL L (fun d => allB rules d) a b x ∧ Q.length ≤ 65536 ∧ (∀ q ∈ Q, q.st.length ≤ 16) ∧ Below W.heap.size W w'
theorem tells_of {F : Nat → Prop} {w0 : World} {s N : Nat} {L : List It} (h : St F w0 s L N) (hN : N ≤ 1000000) (hg : Glob w0) (rules : List Rl) (x : Tm) : Tells w0 s L rules x := fun W rv a b hW hr => by
  refine (scan_st W (h.next hW) hN rv rules hr (hg.below hW) a b x).mono ?_
  rintro e w' ⟨v, Q, rfl, hp, hq⟩
  obtain ⟨ad, c, rfl, -⟩ := hp.rd.open
  obtain ⟨h1, h2⟩ := told_right h hq
  exact ⟨ad, c, Q, rfl, hp.rd, hq, h1, h2, hp.bel⟩
set_option maxHeartbeats 16000000 in
theorem cuts_any (v : Value) (l : List Op) (cut at_ : Tm) (rv : Value) (rules : List Rl) (fr to_ ti : Int) (w : World) (hv : RdO w v l) (hr : RdR w rv rules) (hrl : rules.length ≤ 3518437208883) (hg : Glob w) :
    Calls Tryz.prog 5 #[v, cut.val, at_.val, rv, .int .i64 fr, .int .i64 to_, .int .i64 ti] w fun e w' => e = .returned (.bool true) ∧ Below w.heap.size w w' := by
  obtain ⟨va, vc, hve, -⟩ := hv.open
  subst hve
  obtain ⟨ra, rc, hre, -⟩ := hr.open
  subst hre
  obtain ⟨cw, ct, cm⟩ := cut
  obtain ⟨aw, at1, am⟩ := at_
  have HV := Lib.hid hv
  have HR := Lib.hid hr
  have HRl := Lib.hid hrl
  have HG := Lib.hid hg
  have HB0 := Lib.hid (bel_alloc (o := .cells #[.int .i64 aw, .int .u32 at1, .int .u32 am] 25) (below_alloc w (.cells #[.int .i64 cw, .int .u32 ct, .int .u32 cm] 25)))
  have HC := Lib.hid ((Blk.new w #[.int .i64 cw, .int .u32 ct, .int .u32 cm] 25).next (below_alloc _ (.cells #[.int .i64 aw, .int .u32 at1, .int .u32 am] 25)))
  have HA := Lib.hid (Blk.new (w.alloc (.cells #[.int .i64 cw, .int .u32 ct, .int .u32 cm] 25)) #[.int .i64 aw, .int .u32 at1, .int .u32 am] 25)
  rw [World.size_alloc] at HA
  clear hv hr hrl hg
  unfold Tm.val
  simp only
  go_enter Tryz.func5, Tryz.ntmps5
  go_upto_region 1 with fail
  have hs0 : ((w.alloc (.cells #[.int .i64 cw, .int .u32 ct, .int .u32 cm] 25)).alloc (.cells #[.int .i64 aw, .int .u32 at1, .int .u32 am] 25)).heap.size = w.heap.size + 2 := by simp
  have Hs0 := Lib.hid hs0
  clear hs0
  generalize (w.alloc (.cells #[.int .i64 cw, .int .u32 ct, .int .u32 cm] 25)).alloc (.cells #[.int .i64 aw, .int .u32 at1, .int .u32 am] 25) = w0 at HB0 HC HA Hs0 ⊢
  obtain ⟨M, hM⟩ : ∃ M, madeS (l.take 80) [] = M := ⟨_, rfl⟩
  have hmk : ∀ W, Below w0.heap.size w0 W → Calls Tryz.prog 8 #[.slice va l.length vc] W fun e w' => ∃ s F, e = .returned (.pointer (some ⟨s, 0, none⟩)) ∧ St F w' s M 80 ∧ (∀ x, F x → W.heap.size ≤ x) ∧ Below W.heap.size W w' := fun W hW => by
    have := made_any _ l W (HV.out.below (bel_trans HB0.out hW))
    rw [hM] at this
    exact this
  have HMk := Lib.hid hmk
  have HOk : Hid (StoreOk ltS M) := Lib.hid (hM ▸ madeS_ok _ _ empty_ok)
  clear hmk hM
  go_upto_region 3 with (first
    | (go_at_call 8; first
        | ((with_reducible refine (HMk.out w0 (bel_refl w0)).mono ?_); rintro e w1 ⟨s, F1, rfl, h1, hF1, hb1⟩; have H1 := Lib.hid h1; have HF1 := Lib.hid hF1; have HB1 := Lib.hid hb1; clear h1 hF1 hb1)
        | ((with_reducible refine (HMk.out w1 HB1.out).mono ?_); rintro e w2 ⟨t, F2, rfl, h2, hF2, hb2⟩; have H2 := Lib.hid h2; have HF2 := Lib.hid hF2; have HB2 := Lib.hid hb2; have c0 : w2.cell? ⟨w.heap.size, 0, none⟩ = some (.int .i64 cw) := (HC.out.next (bel_trans HB1.out hb2)).cell 0; have c1 : w2.cell? ⟨w.heap.size, 1, none⟩ = some (.int .u32 ct) := (HC.out.next (bel_trans HB1.out hb2)).cell 1; have c2 : w2.cell? ⟨w.heap.size, 2, none⟩ = some (.int .u32 cm) := (HC.out.next (bel_trans HB1.out hb2)).cell 2; clear h2 hF2 hb2))
    | (go_at_call 11; refine (to_any1 ⟨cw, ct, cm⟩ _).mono ?_; rintro e w3 ⟨rfl, hb3⟩; have HB3 := Lib.hid hb3; clear hb3)
    | (go_at_call 20; refine (cut_any ⟨cw, ct, cm⟩ w3 (H2.out.next HB3.out) (by omega)).mono ?_; rintro e w4 ⟨rfl, F4, h4, hF4, ht4⟩; have H4 := Lib.hid h4; have HF4 := Lib.hid hF4; have HT4 := Lib.hid ht4; clear h4 hF4 ht4)
    | fail)
  have hB02 : Below w0.heap.size w0 w3 := bel_trans (bel_trans HB1.out HB2.out) HB3.out
  have hB04 : Below w0.heap.size w0 w4 := ((Turn.of (F := F2) hB02).trans HT4.out (fun x hx => .inl hx)).bel (Nat.le_refl _) (fun x hx => Nat.le_trans HB1.out.size (HF2.out x hx))
  have HS4 : Hid (St F1 w4 s M 80) := Lib.hid (((H1.out.next HB2.out).next HB3.out).keep HT4.out (fun x hx hx2 => by have h1 := H1.out.lt x hx; have h2 := HF2.out x hx2; omega))
  have HF4a : Hid (∀ x, F4 x → w1.heap.size ≤ x) := Lib.hid (fun x hx => by
    rcases HF4.out x hx with h | h
    · exact HF2.out x h
    · exact Nat.le_trans HB2.out.size (Nat.le_trans HB3.out.size h))
  have HB04 := Lib.hid hB04
  have HC4 := Lib.hid (HC.out.next hB04)
  have HA4 := Lib.hid (HA.out.next hB04)
  have HF1a : Hid (∀ x, F1 x → x < w1.heap.size) := Lib.hid H1.out.lt
  have a0 : w4.cell? ⟨w.heap.size + 1, 0, none⟩ = some (.int .i64 aw) := HA4.out.cell 0
  have a1 : w4.cell? ⟨w.heap.size + 1, 1, none⟩ = some (.int .u32 at1) := HA4.out.cell 1
  have a2 : w4.cell? ⟨w.heap.size + 1, 2, none⟩ = some (.int .u32 am) := HA4.out.cell 2
  have HX := Lib.hid (Blk.new w4 #[.int .i64 aw, .int .u32 at1, .int .u32 am] 25)
  have HBx := Lib.hid (below_alloc w4 (.cells #[.int .i64 aw, .int .u32 at1, .int .u32 am] 25))
  clear hB02 hB04 c0 c1 c2 HT4 HF4 H2 H1 HB3 HMk HA HC
  go_upto_region 4 with fail
  generalize w4.alloc (.cells #[.int .i64 aw, .int .u32 at1, .int .u32 am] 25) = w5 at HX HBx ⊢
  have b0 : w5.cell? ⟨w.heap.size + 1, 0, none⟩ = some (.int .i64 aw) := (HA4.out.next HBx.out).cell 0
  have b1 : w5.cell? ⟨w.heap.size + 1, 1, none⟩ = some (.int .u32 at1) := (HA4.out.next HBx.out).cell 1
  have b2 : w5.cell? ⟨w.heap.size + 1, 2, none⟩ = some (.int .u32 am) := (HA4.out.next HBx.out).cell 2
  have c0 : w5.cell? ⟨w.heap.size, 0, none⟩ = some (.int .i64 cw) := (HC4.out.next HBx.out).cell 0
  have c1 : w5.cell? ⟨w.heap.size, 1, none⟩ = some (.int .u32 ct) := (HC4.out.next HBx.out).cell 1
  have c2 : w5.cell? ⟨w.heap.size, 2, none⟩ = some (.int .u32 cm) := (HC4.out.next HBx.out).cell 2
  have HBl := Lib.hid (fun W => below_any ⟨aw, at1, am⟩ ⟨cw, ct, cm⟩ W)
  unfold Tm.val at HBl
  simp only at HBl
  clear a0 a1 a2
  go_upto_if 31 with (first
    | (go_at_call 12; refine (HBl.out _).mono ?_; rintro e w6 ⟨rfl, hb6⟩; have HB6 := Lib.hid hb6; clear hb6)
    | fail)
  go_cut [32] (fun _ wc => Hid (∃ x : Tm, ¬ x.lt ⟨cw, ct, cm⟩ ∧ Blk wc w4.heap.size #[.int .i64 x.wall, .int .u32 x.tick, .int .u32 x.mark] 25 ∧ Below w4.heap.size w4 wc))
  case first =>
    have HX6 := Lib.hid (HX.out.next HB6.out)
    have g0 : w6.cell? ⟨w4.heap.size, 0, none⟩ = some (.int .i64 aw) := HX6.out.cell 0
    have g1 : w6.cell? ⟨w4.heap.size, 1, none⟩ = some (.int .u32 at1) := HX6.out.cell 1
    have g2 : w6.cell? ⟨w4.heap.size, 2, none⟩ = some (.int .u32 am) := HX6.out.cell 2
    have f0 : w6.frozen? ⟨w4.heap.size, 0, none⟩ = false := HX6.out.free 0
    have f1 : w6.frozen? ⟨w4.heap.size, 1, none⟩ = false := HX6.out.free 1
    have f2 : w6.frozen? ⟨w4.heap.size, 2, none⟩ = false := HX6.out.free 2
    have k0 : w6.cell? ⟨w.heap.size, 0, none⟩ = some (.int .i64 cw) := (HC4.out.next (bel_trans HBx.out HB6.out)).cell 0
    have k1 : w6.cell? ⟨w.heap.size, 1, none⟩ = some (.int .u32 ct) := (HC4.out.next (bel_trans HBx.out HB6.out)).cell 1
    have k2 : w6.cell? ⟨w.heap.size, 2, none⟩ = some (.int .u32 cm) := (HC4.out.next (bel_trans HBx.out HB6.out)).cell 2
    have HB46 := Lib.hid (bel_trans HBx.out HB6.out)
    obtain ⟨lt, hlt⟩ : ∃ lt, decide ((⟨aw, at1, am⟩ : Tm).lt ⟨cw, ct, cm⟩) = lt := ⟨_, rfl⟩
    have HLt := Lib.hid hlt
    rw [hlt]
    clear b0 b1 b2 c0 c1 c2 hlt HBl
    cases lt with
    | true =>
      go_wp2_with fail
      go_meet
      case rel => exact Lib.hid ⟨⟨cw, ct, cm⟩, Tm.irr _, by simpa using ((HX6.out.set 0 (.int .i64 cw)).set 1 (.int .u32 ct)).set 2 (.int .u32 cm), bel_set (bel_set (bel_set HB46.out (Nat.le_refl _)) (Nat.le_refl _)) (Nat.le_refl _)⟩
    | false =>
      go_wp2_with fail
      go_meet
      case rel => exact Lib.hid ⟨⟨aw, at1, am⟩, by simpa using HLt.out, HX6.out, HB46.out⟩
  case rest =>
    obtain ⟨⟨xw, xt, xm⟩, hxl, hxb, hxw⟩ := hcut.out
    simp only at hxb
    have HXb := Lib.hid hxb
    have HBw := Lib.hid hxw
    have HG0 : Hid (Glob wc) := Lib.hid ((HG.out.below HB0.out).below (bel_trans HB04.out hxw))
    have HTs := Lib.hid (tells_of (HS4.out.next hxw) (by omega) HG0.out rules ⟨xw, xt, xm⟩)
    have HTt := Lib.hid (tells_of (H4.out.next hxw) (by omega) HG0.out rules ⟨xw, xt, xm⟩)
    have HRc := Lib.hid (HR.out.below (bel_trans HB0.out (bel_trans HB04.out hxw)))
    have HEq : Hid (∀ a b, scanL (cutL M ⟨cw, ct, cm⟩) (fun d => allB rules d) a b ⟨xw, xt, xm⟩ = scanL M (fun d => allB rules d) a b ⟨xw, xt, xm⟩) := Lib.hid (fun a b => scan_cut HOk.out.chain hxl _ a b)
    have hxc := bel_refl wc
    have q0 : wc.cell? ⟨w4.heap.size, 0, none⟩ = some (.int .i64 xw) := hxb.cell 0
    have q1 : wc.cell? ⟨w4.heap.size, 1, none⟩ = some (.int .u32 xt) := hxb.cell 1
    have q2 : wc.cell? ⟨w4.heap.size, 2, none⟩ = some (.int .u32 xm) := hxb.cell 2
    have HKs : Hid (∀ W, Below wc.heap.size wc W → W.cell? ⟨w4.heap.size, 0, none⟩ = some (.int .i64 xw) ∧ W.cell? ⟨w4.heap.size, 1, none⟩ = some (.int .u32 xt) ∧ W.cell? ⟨w4.heap.size, 2, none⟩ = some (.int .u32 xm)) := Lib.hid (fun W hW => ⟨(HXb.out.next hW).cell 0, (HXb.out.next hW).cell 1, (HXb.out.next hW).cell 2⟩)
    have hxbl := HXb.out.lt
    clear hcut hxl hxb hxw b0 b1 b2 c0 c1 c2 HX HBx HB6 HBl HA4
    go_upto_region 6 with fail
    go_region_held3 (fun W => W.cell? ⟨w4.heap.size, 0, none⟩ = some (.int .i64 xw) ∧ W.cell? ⟨w4.heap.size, 1, none⟩ = some (.int .u32 xt) ∧ W.cell? ⟨w4.heap.size, 2, none⟩ = some (.int .u32 xm))
      (first | (with_reducible exact ⟨q0, q1, q2⟩) | (with_reducible refine HKs.out _ ?_; (repeat (first | assumption | apply bel_alloc | apply bel_drew)); done) | go_keep)
      (first
        | (go_simp; go_at_call 21; refine (rto_any2 (.slice ra rules.length rc) rules _ (HRc.out.below (by repeat (first | exact bel_refl _ | assumption | apply bel_alloc | apply bel_drew))) HRl.out).mono ?_; rintro e w7 ⟨v7, rfl, hm7⟩; have hx7 : Below wc.heap.size wc w7 := bel_trans (by repeat (first | exact bel_refl _ | assumption | apply bel_alloc | apply bel_drew)) hm7.2.2; have HR7 := Lib.hid hm7.rd; (first | (have hA7 : Below wA.heap.size wA w7 := bel_trans (by repeat (first | exact bel_refl _ | apply bel_alloc | apply bel_drew)) hm7.2.2) | skip); clear hm7)
        | (go_simp; go_at_call 11; refine (to_any1 ⟨xw, xt, xm⟩ _).mono ?_; rintro e w8 ⟨rfl, hb8⟩; have hx8 : Below wc.heap.size wc w8 := bel_trans (by repeat (first | exact bel_refl _ | assumption | apply bel_alloc | apply bel_drew)) hb8; have h78 : Below w7.heap.size w7 w8 := bel_trans (by repeat (first | exact bel_refl _ | apply bel_alloc | apply bel_drew)) hb8; (first | (have hA8 : Below wA.heap.size wA w8 := bel_trans hA7 h78) | skip); clear hb8)
        | (go_simp; go_at_call 10; first
            | ((with_reducible refine (HTs.out w8 v7 fr to_ hx8 (HR7.out.below h78)).mono ?_); rintro e wA ⟨aQA, cQA, QA, rfl, hrQA, hqQA, hlQA, hsQA, hbQA⟩; have hxwA : Below wc.heap.size wc wA := bel_trans hx8 hbQA; have HRQA := Lib.hid hrQA; have HQQA := Lib.hid hqQA; have HLQA := Lib.hid hlQA; have HSQA := Lib.hid hsQA; clear hrQA hqQA hlQA hsQA hbQA)
            | ((with_reducible refine (HTt.out w8 v7 fr to_ hx8 (HR7.out.below h78)).mono ?_); rintro e wB ⟨aQB, cQB, QB, rfl, hrQB, hqQB, hlQB, hsQB, hbQB⟩; have hxwB : Below wc.heap.size wc wB := bel_trans hx8 hbQB; have HABQB := Lib.hid (bel_trans hA8 hbQB); have HRQB := Lib.hid hrQB; have HQQB := Lib.hid hqQB; have HLQB := Lib.hid hlQB; have HSQB := Lib.hid hsQB; clear hrQB hqQB hlQB hsQB hbQB)))
    have HXB := Lib.hid hxwB
    have HPa := Lib.hid (fun (W : World) (hW : Below wB.heap.size wB W) => points_any _ QA W ((HRQA.out.below HABQB.out).below hW) HLQA.out HSQA.out)
    have HPb := Lib.hid (fun (W : World) (hW : Below wB.heap.size wB W) => points_any _ QB W (HRQB.out.below hW) HLQB.out HSQB.out)
    have HEqAB : Hid (QB.map Pn.told = QA.map Pn.told) := Lib.hid (by rw [HQQA.out, HQQB.out, HEq.out])
    have HLs : Hid (∀ W, Below wB.heap.size wB W → Calls Tryz.prog 19 #[.pointer (some ⟨s, 0, none⟩)] W fun e w' => e = .returned (.int .i64 (lenL M : Int)) ∧ W = w') := Lib.hid (fun W hW => len_any W (HS4.out.next (bel_trans HBw.out (bel_trans HXB.out hW))))
    have HLt : Hid (∀ W, Below wB.heap.size wB W → Calls Tryz.prog 19 #[.pointer (some ⟨t, 0, none⟩)] W fun e w' => e = .returned (.int .i64 (lenL (cutL M ⟨cw, ct, cm⟩) : Int)) ∧ W = w') := Lib.hid (fun W hW => len_any W (H4.out.next (bel_trans HBw.out (bel_trans HXB.out hW))))
    have hlc : decide ((lenL (cutL M ⟨cw, ct, cm⟩) : Int) > (lenL M : Int)) = false := by have := lenL_cut M ⟨cw, ct, cm⟩; simp only [decide_eq_false_iff_not]; omega
    have hlc2 : decide (lenL M < lenL (cutL M ⟨cw, ct, cm⟩)) = false := by have := lenL_cut M ⟨cw, ct, cm⟩; simp only [decide_eq_false_iff_not]; omega
    clear q0 q1 q2 hxwA hxwB hx7 hx8
    go_upto_region 9 with (first
      | (go_at_call 22; first
          | ((with_reducible refine (HPa.out wB (bel_refl wB)).mono ?_); rintro e wC ⟨vC, QC, rfl, hpC, hqC⟩; have HPC := Lib.hid hpC; have HQC := Lib.hid hqC; clear hpC hqC)
          | ((with_reducible refine (HPb.out wC HPC.out.bel).mono ?_); rintro e wD ⟨vD, QD, rfl, hpD, hqD⟩; have HPD := Lib.hid hpD; have HQD := Lib.hid hqD; clear hpD hqD))
      | (go_at_call 18; refine (samep_yes vC vD QC QD wD (HPC.out.rd.below HPD.out.bel) HPD.out.rd (by rw [HQD.out, HQC.out]; exact HEqAB.out)).mono ?_; rintro e wE ⟨rfl, hbE⟩; have HBE : Hid (Below wB.heap.size wB wE) := Lib.hid (bel_trans (bel_trans HPC.out.bel HPD.out.bel) hbE); clear hbE)
      | (go_at_call 19; first
          | ((with_reducible refine (HLt.out wE HBE.out).mono ?_); rintro e w9 ⟨rfl, rfl⟩)
          | ((with_reducible refine (HLs.out wE HBE.out).mono ?_); rintro e w9 ⟨rfl, rfl⟩))
      | fail)
    have hB9 : Below wB.heap.size wB wE := HBE.out
    have hH4 := H4.out.next (bel_trans HBw.out (bel_trans HXB.out hB9))
    have HS9 := Lib.hid (HS4.out.next (bel_trans HBw.out (bel_trans HXB.out hB9)))
    have HRet := Lib.hid (ret_any ti wE hH4 (by omega))
    have HB0E := Lib.hid (bel_trans HB04.out (bel_trans HBw.out (bel_trans HXB.out hB9)))
    clear hB9 hH4
    go_upto_region 10 with (first
      | (go_at_call 23; refine HRet.out.mono ?_; rintro e wc2 ⟨rfl, FG, hG, hFG, htG⟩; have HGt := Lib.hid hG; have HTG := Lib.hid htG; clear hG hFG htG)
      | fail)
    have hnF : ¬ F4 w4.heap.size := fun h => Nat.lt_irrefl _ (H4.out.lt _ h)
    have hB0G : Below w0.heap.size w0 wc2 := ((Turn.of (F := F4) HB0E.out).trans HTG.out (fun x hx => .inl hx)).bel (Nat.le_refl _) (fun x hx => Nat.le_trans HB1.out.size (HF4a.out x hx))
    have HB0G := Lib.hid hB0G
    have hxb2 := blk_keep HTG.out (HXb.out.next (bel_trans HXB.out HBE.out)) hnF
    have hS2 := HS9.out.keep HTG.out (fun x hx hx2 => by have h1 := HF1a.out x hx; have h2 := HF4a.out x hx2; omega)
    have HG2 : Hid (Glob wc2) := Lib.hid ((HG.out.below HB0.out).below hB0G)
    have HTs2 := Lib.hid (tells_of hS2 (by omega) HG2.out rules ⟨xw, xt, xm⟩)
    have HTt2 := Lib.hid (tells_of HGt.out (by omega) HG2.out rules ⟨xw, xt, xm⟩)
    have HRc2 := Lib.hid (HR.out.below (bel_trans HB0.out hB0G))
    have HXb2 := Lib.hid hxb2
    have HKs2 : Hid (∀ W, Below wc2.heap.size wc2 W → W.cell? ⟨w4.heap.size, 0, none⟩ = some (.int .i64 xw) ∧ W.cell? ⟨w4.heap.size, 1, none⟩ = some (.int .u32 xt) ∧ W.cell? ⟨w4.heap.size, 2, none⟩ = some (.int .u32 xm)) := Lib.hid (fun W hW => ⟨(HXb2.out.next hW).cell 0, (HXb2.out.next hW).cell 1, (HXb2.out.next hW).cell 2⟩)
    have hxc2 := bel_refl wc2
    obtain ⟨q0, q1, q2⟩ := HKs2.out _ hxc2
    have hxbl2 := HXb2.out.lt
    have HEq2 : Hid (scanL (retL (cutL M ⟨cw, ct, cm⟩) ti) (fun d => allB rules d) fr to_ ⟨xw, xt, xm⟩ = scanL M (fun d => allB rules d) (max fr ti) to_ ⟨xw, xt, xm⟩) := Lib.hid (by rw [scan_ret, HEq.out])
    clear hnF hB0G hxb2 hS2 hxbl HKs HTs HTt HRc HXb HPa HPb HLs HLt HRQA HRQB HLQA HLQB HSQA HSQB HEqAB HPC HPD HBE hlc hlc2 hxc HTG HS9 HRet HGt
    go_region_held3 (fun W => W.cell? ⟨w4.heap.size, 0, none⟩ = some (.int .i64 xw) ∧ W.cell? ⟨w4.heap.size, 1, none⟩ = some (.int .u32 xt) ∧ W.cell? ⟨w4.heap.size, 2, none⟩ = some (.int .u32 xm))
      (first | (with_reducible exact ⟨q0, q1, q2⟩) | (with_reducible refine HKs2.out _ ?_; (repeat (first | assumption | apply bel_alloc | apply bel_drew)); done) | go_keep)
      (first
        | (go_simp; go_at_call 21; refine (rto_any2 (.slice ra rules.length rc) rules _ (HRc2.out.below (by repeat (first | exact bel_refl _ | assumption | apply bel_alloc | apply bel_drew))) HRl.out).mono ?_; rintro e w7 ⟨v7, rfl, hm7⟩; have hx7 : Below wc2.heap.size wc2 w7 := bel_trans (by repeat (first | exact bel_refl _ | assumption | apply bel_alloc | apply bel_drew)) hm7.2.2; have HR7 := Lib.hid hm7.rd; (first | (have hA7 : Below wK.heap.size wK w7 := bel_trans (by repeat (first | exact bel_refl _ | apply bel_alloc | apply bel_drew)) hm7.2.2) | skip); clear hm7)
        | (go_simp; go_at_call 11; refine (to_any1 ⟨xw, xt, xm⟩ _).mono ?_; rintro e w8 ⟨rfl, hb8⟩; have hx8 : Below wc2.heap.size wc2 w8 := bel_trans (by repeat (first | exact bel_refl _ | assumption | apply bel_alloc | apply bel_drew)) hb8; have h78 : Below w7.heap.size w7 w8 := bel_trans (by repeat (first | exact bel_refl _ | apply bel_alloc | apply bel_drew)) hb8; (first | (have hA8 : Below wK.heap.size wK w8 := bel_trans hA7 h78) | skip); clear hb8)
        | (go_simp; go_at_call 10; first
            | ((with_reducible refine (HTs2.out w8 v7 (max fr ti) to_ hx8 (HR7.out.below h78)).mono ?_); rintro e wK ⟨aQK, cQK, QK, rfl, hrQK, hqQK, hlQK, hsQK, hbQK⟩; have hxwK : Below wc2.heap.size wc2 wK := bel_trans hx8 hbQK; have HRQK := Lib.hid hrQK; have HQQK := Lib.hid hqQK; have HLQK := Lib.hid hlQK; have HSQK := Lib.hid hsQK; clear hrQK hqQK hlQK hsQK hbQK)
            | ((with_reducible refine (HTt2.out w8 v7 fr to_ hx8 (HR7.out.below h78)).mono ?_); rintro e wL ⟨aQL, cQL, QL, rfl, hrQL, hqQL, hlQL, hsQL, hbQL⟩; have hxwL : Below wc2.heap.size wc2 wL := bel_trans hx8 hbQL; have HABQL := Lib.hid (bel_trans hA8 hbQL); have HRQL := Lib.hid hrQL; have HQQL := Lib.hid hqQL; have HLQL := Lib.hid hlQL; have HSQL := Lib.hid hsQL; clear hrQL hqQL hlQL hsQL hbQL)))
    all_goals (
      have HXL := Lib.hid hxwL
      have HW := Lib.hid (awake_any wL (HG2.out.below hxwL))
      have HPa := Lib.hid (fun (W : World) (hW : Below wL.heap.size wL W) => points_any _ QK W ((HRQK.out.below HABQL.out).below hW) HLQK.out HSQK.out)
      have HPb := Lib.hid (fun (W : World) (hW : Below wL.heap.size wL W) => points_any _ QL W (HRQL.out.below hW) HLQL.out HSQL.out)
      have HEqKL : Hid (QL.map Pn.told = QK.map Pn.told) := Lib.hid (by rw [HQQK.out, HQQL.out, HEq2.out])
      have HBL := Lib.hid (bel_trans HB0.out (bel_trans HB0G.out hxwL))
      clear q0 q1 q2 hxwK hxwL hx7 hx8 HKs2 hxc2
      go_wp2_with (first
        | (go_at_call 9; refine HW.out.mono ?_; rintro e wM ⟨rfl, hbM⟩; have HBM := Lib.hid hbM; clear hbM)
        | (go_at_call 22; first
            | ((with_reducible refine (HPa.out wM HBM.out).mono ?_); rintro e wN ⟨vN, QN, rfl, hpN, hqN⟩; have HPN := Lib.hid hpN; have HQN := Lib.hid hqN; clear hpN hqN)
            | ((with_reducible refine (HPb.out wN (bel_trans HBM.out HPN.out.bel)).mono ?_); rintro e wP ⟨vP, QP, rfl, hpP, hqP⟩; have HPP := Lib.hid hpP; have HQP := Lib.hid hqP; clear hpP hqP))
        | (go_at_call 18; refine (samep_yes vN vP QN QP wP (HPN.out.rd.below HPP.out.bel) HPP.out.rd (by rw [HQP.out, HQN.out]; exact HEqKL.out)).mono ?_; rintro e wR ⟨rfl, hbR⟩; have HBR : Hid (Below wL.heap.size wL wR) := Lib.hid (bel_trans (bel_trans HBM.out (bel_trans HPN.out.bel HPP.out.bel)) hbR); clear hbR)
        | fail)
      go_ret
      exact ⟨rfl, bel_trans HBL.out HBR.out⟩)
end Go.Proofs.YtplieoalfbpniaaGreat
