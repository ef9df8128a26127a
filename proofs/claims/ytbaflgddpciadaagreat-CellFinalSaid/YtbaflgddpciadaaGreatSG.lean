/- store.Put (15). store.Put (15): a series that is new; the whole. -/
import Derived.Test.YtbaflgddpciadaaGreatSE
set_option linter.unusedVariables false
set_option linter.unusedSimpArgs false
namespace Go.Proofs.YtbaflgddpciadaaGreat
open Go.RowKit Go.Kt Go.Ix Go.Sx
set_option maxRecDepth 100000
variable {F F' : Nat → Prop} {w w' : World} {s om : Nat} {S : Sp} {L : List It} {N : Nat}

def cost : List Pr → Nat
  | [] => 0
  | p :: t => p.n.size + p.v.size + 3 + cost t
theorem escL_le : ∀ l : List UInt8, (escL l).length ≤ 2 * l.length
  | [] => by simp [escL]
  | c :: l => by
    have h := escL_le l
    have h1 : (esc c).length ≤ 2 := by unfold esc; split <;> simp
    simp only [escL, List.flatMap_cons, List.length_append, List.length_cons] at h ⊢
    omega
theorem pairL_cost (p : Pr) : (pairL p).length + 1 ≤ 4 * (p.n.size + p.v.size + 3) := by
  have h := escL_le (bl p.v)
  rw [bl_len] at h
  simp only [pairL, quoteL, List.length_append, List.length_cons, List.length_nil, bl_len]
  omega
theorem restL_cost : ∀ l : List Pr, (restL l).length ≤ 4 * cost l + 1
  | [] => by simp [restL]
  | p :: t => by
    have h := restL_cost t
    have h1 := pairL_cost p
    simp only [restL, cost, List.length_cons, List.length_append]
    omega
theorem textL_cost (l : List Pr) : (textL l).length ≤ 4 * cost l + 2 := by
  cases l with
  | nil => simp [textL]
  | cons p t =>
    have h := restL_cost t
    have h1 := pairL_cost p
    simp only [textL, cost, List.length_cons, List.length_append]
    omega
theorem right_cost {d : List Pr} (h : RightP d) : cost d ≤ 99 * d.length := by
  have key : ∀ l : List Pr, (∀ p ∈ l, p.n.size ≤ 32 ∧ p.v.size ≤ 64) → cost l ≤ 99 * l.length := by
    intro l
    induction l with
    | nil => intro _; exact Nat.le_refl _
    | cons p t ih =>
      intro hl
      have h1 := hl p (by simp)
      have h2 := ih (fun q hq => hl q (by simp [hq]))
      simp only [cost, List.length_cons]
      omega
  refine key d (fun p hp => ?_)
  obtain ⟨i, hi, rfl⟩ := List.mem_iff_getElem.1 hp
  have h1 := (h.2 i hi).1
  have h2 := h1.1.2.1
  have h3 := h1.2.2.1
  rw [bl_len] at h2 h3
  exact ⟨h2, h3⟩
theorem right_text_len {d : List Pr} (h : RightP d) : (textL d).length ≤ 6400 := by
  have h1 := right_cost h
  have h2 := textL_cost d
  have h3 := h.1
  omega
theorem right_fit {d : List Pr} (h : RightP d) : Fit d := by
  intro p hp
  obtain ⟨i, hi, rfl⟩ := List.mem_iff_getElem.1 hp
  have h1 := (h.2 i hi).1
  have h2 := h1.1.2.1
  have h3 := h1.2.2.1
  rw [bl_len] at h2 h3
  simp only [maxLen]
  omega
theorem kl_text (d : List Pr) : kl (mkS (textL d)) = .string (textL d) := by unfold kl mkS; rw [bl_mk]
/-- the version that a write lays -/
def verOf (m : Wr) (t : Tm) : Ver := ⟨t, m.k, m.n, m.x⟩
/-- a write put into a store -/
noncomputable def putS (L : List It) (m : Wr) (t : Tm) : Int × List It :=
  if pb (RightW m) = false then (1, L) else if 65536 ≤ lenL L then (4, L) else putL ltS L m.st m.t (verOf m t)

set_option maxHeartbeats 1000000 in
theorem put_bad (m : Wr) (t : Tm) (w : World) (h : StAt F w s om S L N) (hv : RdP w m.sv m.st) (hf : Fit m.st) (hx : m.x.size ≤ maxLen) (hr : pb (RightW m) = false ∨ pb (RightW m) = true ∧ 65536 ≤ lenL L) :
    Calls Tryz.prog 131 #[.pointer (some ⟨s, 0, none⟩), wagg m, t.val] w fun e w' => e = .returned (.int .i64 (if pb (RightW m) = false then 1 else 4)) ∧ Below w.heap.size w w' := by
  have HR := Lib.hid (fun (W : World) (hW : Below w.heap.size w W) => rightw_any m W (hv.below hW) hf hx)
  have hb0 := Lib.hid h.blk
  clear h hv hf hx
  have HA : Hid (wagg m = .agg #[m.sv, .int .i64 m.t, .int .i64 m.k, .int .i64 m.n, .string m.x]) := Lib.hid rfl
  generalize hp : pb (RightW m) = p at HR hr ⊢
  clear hp
  rw [HA.out] at HR ⊢
  clear HA
  unfold Tm.val
  rcases hr with rfl | ⟨rfl, hfull⟩
  · rw [if_pos rfl]
    go_enter Tryz.func131, Tryz.ntmps131
    go_wp2_with (first | (go_at_call 85; refine (HR.out _ (by repeat (first | exact bel_refl _ | apply bel_alloc))).mono ?_; rintro e w2 ⟨rfl, hb2⟩; have HB2 := Lib.hid (bel_trans (bel_alloc (below_alloc w _)) hb2); clear hb2) | fail)
    go_ret
    exact ⟨rfl, HB2.out⟩
  · rw [if_neg (by simp)]
    have hg1 : decide (65536 ≤ (lenL L : Int)) = true := by simp only [decide_eq_true_eq]; omega
    have hg2 : (65536 : Int) ≤ (lenL L : Int) := by omega
    go_enter Tryz.func131, Tryz.ntmps131
    go_wp2_with (first | (go_at_call 85; refine (HR.out _ (by repeat (first | exact bel_refl _ | apply bel_alloc))).mono ?_; rintro e w2 ⟨rfl, hb2⟩; have HB2 := Lib.hid (bel_trans (bel_alloc (below_alloc w _)) hb2); have c1 : w2.cell? ⟨s, 1, none⟩ = some (.int .i64 (lenL L : Int)) := (hb0.out.next HB2.out).cell 1; clear hb2) | fail)
    go_ret
    exact ⟨rfl, HB2.out⟩
set_option maxHeartbeats 4000000 in
theorem put_some (m : Wr) (t : Tm) (w : World) (h : StAt F w s om S L N) (hN : N ≤ 1000000) (hv : RdP w m.sv m.st) (hf : Fit m.st) (hx : m.x.size ≤ maxLen) (hr : RightW m) (hful : lenL L < 65536) {u : Value} (hu : S.f (.string (textL m.st)) = some u) :
    Calls Tryz.prog 131 #[.pointer (some ⟨s, 0, none⟩), wagg m, t.val] w fun e w' => e = .returned (.int .i64 (putL ltS L m.st m.t (verOf m t)).1) ∧ ∃ F', St F' w' s (putL ltS L m.st m.t (verOf m t)).2 (N + 1) ∧ (∀ x, F' x → F x ∨ w.heap.size ≤ x) ∧ Turn F w w' := by
  have HR := Lib.hid (fun (W : World) (hW : Below w.heap.size w W) => (pb_yes hr) ▸ rightw_any m W (hv.below hW) hf hx)
  have H := Lib.hid h
  have HT := Lib.hid (fun (W : World) (hW : Below w.heap.size w W) => text_any m.sv m.st W (hv.below hW) (by have := hr.1.1; omega) (by have := right_text_len hr.1; omega))
  have hk := h.ser _ u hu
  have hkd : S.d (.string (textL m.st)) = m.st := right_text hk.right hr.1 (by have := hk.key; injection this with e; exact e.symm)
  have hlook := h.outer.look key9 Tryz.underlying231 (zero86 w) (keyOf9 (mkS (textL m.st)) (by rw [mkS_size]; have := right_text_len hr.1; simp only [maxLen]; omega))
  have hKs : (mkS (textL m.st)).size ≤ maxLen := by rw [mkS_size]; have := right_text_len hr.1; simp only [maxLen]; omega
  have HKs := Lib.hid hKs
  have hz : 0 ≤ m.t ∧ m.t ≤ 4611686018427387904 := ⟨hr.2.1, hr.2.2.1⟩
  have HZ := Lib.hid hz
  -- the chain that stands there
  obtain ⟨cv, cl, hcv, hcr, hcc, hcn, hca⟩ : ∃ cv cl, (S.g (.string (textL m.st)) (litT m.t)).getD (.slice none 0 0) = cv ∧ RdV w cv cl ∧ Chain cl ∧ cl.length ≤ 1048576 ∧ atL L m.st m.t = cl := by
    cases hg : S.g (.string (textL m.st)) (litT m.t) with
    | none => exact ⟨_, [], rfl, (own_nil w 270 6).rd, List.Pairwise.nil, by simp, h.none hr.1 (fun u' v hu' hv' => by rw [hg] at hv'; cases hv')⟩
    | some v =>
      obtain ⟨q1, q2, q3, q4⟩ := h.chain hu hg
      rw [hkd] at q4
      exact ⟨v, _, rfl, (hk.rows _ _ hg).1.rd, q2, by omega, q4⟩
  have HP : Hid (putL ltS L m.st m.t (verOf m t) = if (putC cl (verOf m t)).1 ≠ 0 then ((putC cl (verOf m t)).1, L) else (0, setL ltS L m.st m.t (putC cl (verOf m t)).2)) := Lib.hid (by unfold putL; rw [hca])
  have HC := Lib.hid (fun (W : World) (hW : Below w.heap.size w W) => putc_any cv cl (verOf m t) W (hcr.below hW) hcc hcn hx)
  have HCC := Lib.hid (fun h0 => putC_chain (v := verOf m t) hcc h0)
  have HCL := Lib.hid (fun h0 => putC_len (l := cl) (v := verOf m t) h0)
  have HCM := Lib.hid (fun h0 y => putC_mem (v := verOf m t) hcc h0 (y := y))
  have hvr : (putC cl (verOf m t)).1 = 0 → verR (verOf m t) := fun h0 => by
    by_cases e : verR (verOf m t)
    · exact e
    · unfold putC at h0; rw [if_pos e] at h0; cases h0
  have HVR := Lib.hid hvr
  have HCV : Hid (∀ x ∈ cl, verR x) := Lib.hid (fun x hx => by
    rcases atL_mem (L := L) (s := m.st) (t := m.t) with e | ⟨it, hit, e1, e2, e3⟩
    · rw [hca] at e; rw [e] at hx; cases hx
    · rw [← hca, ← e3] at hx
      exact h.ver it hit x hx)
  have hlook2 := fun (W : World) (hW : Below w.heap.size w W) => ((h.next hW).ser _ u hu).map.look1 key2 Tryz.underlying261 (zero96 W) (keyOf2 (n := m.t) (by omega))
  rw [hcv] at hlook2
  have HLk := Lib.hid hlook2
  rw [kl_text, hu] at hlook
  have hptr := hk.ptr
  subst hptr
  have HBK := Lib.hid hk.blk
  have HU := Lib.hid hu
  have HKD := Lib.hid hkd
  have HCA := Lib.hid hca
  have hg1 : decide (65536 ≤ (lenL L : Int)) = false := by simp only [decide_eq_false_iff_not]; omega
  have hg2 : ¬ (65536 : Int) ≤ (lenL L : Int) := by omega
  have HLook : Hid (∀ W, Below w.heap.size w W → (Instr.lookup 231 (.map (some om)) (.string (mkS (textL m.st))) true).run Tryz.prog W = .ok (.tuple #[.pointer (some ⟨S.x (.string (textL m.st)), 0, none⟩), .bool true]) W) := Lib.hid (fun W hW => by
    have := (h.next hW).outer.look key9 Tryz.underlying231 (zero86 W) (keyOf9 (mkS (textL m.st)) hKs)
    rw [kl_text, hu] at this
    exact this)
  clear hlook hlook2 hcr hcc hcv hcn hk hkd hv hf hx hr hz h hKs hvr hu hca
  generalize putC cl (verOf m t) = pc at HP HC HCC HCL HCM HVR
  obtain ⟨pe, pl⟩ := pc
  simp only at HP HC HCC HCL HCM HVR
  obtain ⟨xb, hxb⟩ : ∃ xb, S.x (.string (textL m.st)) = xb := ⟨_, rfl⟩
  obtain ⟨mb, hmb⟩ : ∃ mb, S.b (.string (textL m.st)) = mb := ⟨_, rfl⟩
  rw [hxb] at HLook HBK
  rw [hmb] at HBK HLk
  have HXB := Lib.hid hxb
  have HMB := Lib.hid hmb
  clear hxb hmb
  unfold verOf at HC
  unfold Ver.val at HC
  obtain ⟨tw, tt, tm⟩ := t
  unfold wagg at HR ⊢
  unfold Tm.val
  simp only at HC HR HT ⊢
  have HBX := Lib.hid ((Blk.new w #[m.sv, .int .i64 m.t, .int .i64 m.k, .int .i64 m.n, .string m.x] 87).next (below_alloc _ (.cells #[.int .i64 tw, .int .u32 tt, .int .u32 tm] 44)))
  have HBT := Lib.hid (Blk.new (w.alloc (.cells #[m.sv, .int .i64 m.t, .int .i64 m.k, .int .i64 m.n, .string m.x] 87)) #[.int .i64 tw, .int .u32 tt, .int .u32 tm] 44)
  rw [World.size_alloc] at HBT
  have HB0 := Lib.hid (bel_alloc (o := .cells #[.int .i64 tw, .int .u32 tt, .int .u32 tm] 44) (below_alloc w (.cells #[m.sv, .int .i64 m.t, .int .i64 m.k, .int .i64 m.n, .string m.x] 87)))
  go_enter Tryz.func131, Tryz.ntmps131
  go_upto_region 11 with (first
    | (go_at_call 85; refine (HR.out _ HB0.out).mono ?_; rintro e w2 ⟨rfl, hb2⟩; have HB2 := Lib.hid (bel_trans HB0.out hb2); have HX2 := Lib.hid (HBX.out.next hb2); have HT2 := Lib.hid (HBT.out.next hb2); have c0 : w2.cell? ⟨s, 0, none⟩ = some (.map (some om)) := (H.out.blk.next HB2.out).cell 0; have c1 : w2.cell? ⟨s, 1, none⟩ = some (.int .i64 (lenL L : Int)) := (H.out.blk.next HB2.out).cell 1; have x0 : w2.cell? ⟨w.heap.size, 0, none⟩ = some m.sv := HX2.out.cell 0; clear hb2)
    | (go_at_call 184; refine (HT.out _ HB2.out).mono ?_; rintro e w3 ⟨rfl, hb3⟩; have HB3 := Lib.hid (bel_trans HB2.out hb3); have HX3 := Lib.hid (HX2.out.next hb3); have HT3 := Lib.hid (HT2.out.next hb3); have d0 : w3.cell? ⟨s, 0, none⟩ = some (.map (some om)) := (H.out.blk.next HB3.out).cell 0; have d1 : w3.cell? ⟨s, 1, none⟩ = some (.int .i64 (lenL L : Int)) := (H.out.blk.next HB3.out).cell 1; have hlk := HLook.out _ HB3.out; clear hb3)
    | fail)
  have HS3 := Lib.hid (HBK.out.next HB3.out)
  have HK : Hid (∀ W, Below w3.heap.size w3 W → W.cell? ⟨xb, 1, none⟩ = some (.map (some mb)) ∧ W.cell? ⟨w.heap.size, 1, none⟩ = some (.int .i64 m.t) ∧ W.cell? ⟨w.heap.size, 2, none⟩ = some (.int .i64 m.k) ∧ W.cell? ⟨w.heap.size, 3, none⟩ = some (.int .i64 m.n) ∧ W.cell? ⟨w.heap.size, 4, none⟩ = some (.string m.x) ∧ W.cell? ⟨w.heap.size + 1, 0, none⟩ = some (.int .i64 tw) ∧ W.cell? ⟨w.heap.size + 1, 1, none⟩ = some (.int .u32 tt) ∧ W.cell? ⟨w.heap.size + 1, 2, none⟩ = some (.int .u32 tm) ∧ (Instr.lookup 261 (.map (some mb)) (.int .i64 m.t) false).run Tryz.prog W = .ok cv W) := Lib.hid (fun W hW => ⟨(HS3.out.next hW).cell 1, (HX3.out.next hW).cell 1, (HX3.out.next hW).cell 2, (HX3.out.next hW).cell 3, (HX3.out.next hW).cell 4, (HT3.out.next hW).cell 0, (HT3.out.next hW).cell 1, (HT3.out.next hW).cell 2, HLk.out _ (bel_trans HB3.out hW)⟩)
  have hx3 := bel_refl w3
  obtain ⟨k0, k1, k2, k3, k4, k5, k6, k7, k8⟩ := HK.out _ hx3
  clear c0 c1 x0 d0 d1 hlk
  go_region_held3 (fun W => W.cell? ⟨xb, 1, none⟩ = some (.map (some mb)) ∧ W.cell? ⟨w.heap.size, 1, none⟩ = some (.int .i64 m.t) ∧ W.cell? ⟨w.heap.size, 2, none⟩ = some (.int .i64 m.k) ∧ W.cell? ⟨w.heap.size, 3, none⟩ = some (.int .i64 m.n) ∧ W.cell? ⟨w.heap.size, 4, none⟩ = some (.string m.x) ∧ W.cell? ⟨w.heap.size + 1, 0, none⟩ = some (.int .i64 tw) ∧ W.cell? ⟨w.heap.size + 1, 1, none⟩ = some (.int .u32 tt) ∧ W.cell? ⟨w.heap.size + 1, 2, none⟩ = some (.int .u32 tm) ∧ (Instr.lookup 261 (.map (some mb)) (.int .i64 m.t) false).run Tryz.prog W = .ok cv W)
    (first | (with_reducible exact ⟨k0, k1, k2, k3, k4, k5, k6, k7, k8⟩) | (with_reducible refine HK.out _ ?_; (repeat (first | assumption | apply bel_alloc | apply bel_drew)); done) | go_keep)
    (first
      | (go_simp; go_at_call 185; refine (HC.out _ (bel_trans HB3.out (by repeat (first | exact bel_refl _ | apply bel_alloc | apply bel_drew)))).mono ?_; rintro e w5 ⟨v5, rfl, hm5, hb5⟩; have hx5 : Below w3.heap.size w3 w5 := bel_trans (by repeat (first | exact bel_refl _ | assumption | apply bel_alloc | apply bel_drew)) hb5; obtain ⟨q0, q1, q2, q3, q4, q5, q6, q7, q8⟩ := HK.out _ hx5; have HM5 := Lib.hid hm5; clear hm5 hb5))
  have HB5 := Lib.hid (bel_trans HB3.out hx5)
  have H5 := Lib.hid (H.out.next HB5.out)
  clear q5 q6 q7 q8 k0 k1 k2 k3 k4 k5 k6 k7 k8 hx5 hx3 HK HLk HC HT HR HLook HX2 HT2 HX3 HT3 HS3 HBX HBT HB0
  by_cases hpe : pe = 0
  · subst hpe
    have HP2 : Hid (putL ltS L m.st m.t (verOf m ⟨tw, tt, tm⟩) = (0, setL ltS L m.st m.t pl)) := Lib.hid (by rw [HP.out, if_neg (by simp)])
    go_upto_region 14 with fail
    have HB5d := Lib.hid (bel_drew HB5.out)
    have H5d := Lib.hid (H.out.next HB5d.out)
    have HM5d : Hid (MineV w3.drew w5.drew v5 pl) := Lib.hid (Mine.below (HM5.out (by trivial)) (bel_drew (bel_refl w5)))
    obtain ⟨w6, hr6, hm6, hg6⟩ := (H5d.out.ser _ _ HU.out).map.put key2 Tryz.underlying261 (by have := H.out.nb.2 _ _ HU.out; simp only [maxLen]; omega) v5 (keyOf2 (n := m.t) (by have := HZ.out; omega)) trivial
    have hne := (H5d.out.ser _ _ HU.out).ne
    obtain ⟨w7, hr7, hm7, hg7⟩ := (H5d.out.outer.grown hg6 (fun e => hne (by injection e with e; exact e.symm))).put key9 Tryz.underlying231 (by have := H.out.nb.1; simp only [maxLen]; omega) (.pointer (some ⟨xb, 0, none⟩)) (keyOf9 (mkS (textL m.st)) HKs.out) trivial
    rw [HMB.out] at hr6 hm6 hg6 hne
    rw [kl_text, HU.out] at hm7
    have hsb5 : s ≠ mb := by rw [← HMB.out]; exact blk_no_map H5d.out.blk (H5d.out.ser _ _ HU.out).map
    have hso5 : s ≠ om := blk_no_map H5d.out.blk H5d.out.outer
    have hs6 := H5d.out.blk.grown hg6 (fun e => hsb5 (by injection e with e; exact e.symm))
    have hs7 := hs6.grown hg7 (fun e => hso5 (by injection e with e; exact e.symm))
    have z0 : w6.cell? ⟨s, 0, none⟩ = some (.map (some om)) := hs6.cell 0
    have z1 : w7.cell? ⟨s, 1, none⟩ = some (.int .i64 (lenL L : Int)) := hs7.cell 1
    have z2 : w7.frozen? ⟨s, 1, none⟩ = false := hs7.free 1
    have hlw : IntKind.i64.wrap ((lenL L : Int) + 1) = (lenL L : Int) + 1 := by rw [IntKind.wrap_i64]; omega
    obtain ⟨F1, hF1⟩ := put_old (c := pl) (z := m.t) (v' := v5) H.out HU.out HZ.out HB5d.out HM5d.out.1 (fun b hb => Nat.le_trans HB3.out.size (HM5d.out.2.1 b hb)) (HCC.out (by trivial)) (by rw [HKD.out, HCA.out, HCL.out (by trivial)]) (fun x hx => by
      rcases (HCM.out (by trivial) x).1 hx with h | h
      · exact HCV.out x h
      · rw [h]; exact HVR.out (by trivial)) (by rw [HMB.out]; exact hm6) (by split <;> omega) (by rw [HMB.out]; exact hg6) (by rw [HXB.out]; exact hm7) (by simp) hg7 (by omega)
    rw [HKD.out] at hF1
    have HF1 := Lib.hid hF1
    clear hF1 hm6 hm7 hg6 hg7 hs6 hs7 hne hsb5 hso5
    go_region
    go_wp2_with fail
    go_ret
    obtain ⟨f1, f2, f3, f4⟩ := HF1.out
    rw [HP2.out]
    exact ⟨rfl, F1, ⟨_, _, f1⟩, f2, f4⟩
  · have HE5 : Hid (St F w5 s L (N + 1)) := Lib.hid ⟨_, _, H5.out.more (Nat.le_succ _)⟩
    have HP2 : Hid (putL ltS L m.st m.t (verOf m ⟨tw, tt, tm⟩) = (pe, L)) := Lib.hid (by rw [HP.out, if_pos hpe])
    clear HP HCC HCL HCM HVR HM5 H5 H HBK HCV HU HKD HCA HXB HMB HB3 HB2
    have he : (pe == 0) = false := bne_of hpe
    clear hpe hN hful hg1 hg2 q0 q1 q2 q3 q4 HKs HZ
    go_upto_region 13 with fail
    clear he
    go_wp2_with fail
    go_ret
    rw [HP2.out]
    exact ⟨rfl, F, HE5.out, fun x hx => .inl hx, Turn.of HB5.out⟩
end Go.Proofs.YtbaflgddpciadaaGreat
namespace Go.Proofs.YtbaflgddpciadaaGreat
open Go.RowKit Go.Kt Go.Ix Go.Sx
set_option maxRecDepth 100000
variable {F F' : Nat → Prop} {w w' : World} {s om : Nat} {S : Sp} {L : List It} {N : Nat}

set_option maxHeartbeats 4000000 in
theorem put_none (m : Wr) (t : Tm) (w : World) (h : StAt F w s om S L N) (hN : N ≤ 1000000) (hv : RdP w m.sv m.st) (hf : Fit m.st) (hx : m.x.size ≤ maxLen) (hr : RightW m) (hful : lenL L < 65536) (hu : S.f (.string (textL m.st)) = none) :
    Calls Tryz.prog 131 #[.pointer (some ⟨s, 0, none⟩), wagg m, t.val] w fun e w' => e = .returned (.int .i64 (putL ltS L m.st m.t (verOf m t)).1) ∧ ∃ F', St F' w' s (putL ltS L m.st m.t (verOf m t)).2 (N + 1) ∧ (∀ x, F' x → F x ∨ w.heap.size ≤ x) ∧ Turn F w w' := by
  have HR := Lib.hid (fun (W : World) (hW : Below w.heap.size w W) => (pb_yes hr) ▸ rightw_any m W (hv.below hW) hf hx)
  have H := Lib.hid h
  have HT := Lib.hid (fun (W : World) (hW : Below w.heap.size w W) => text_any m.sv m.st W (hv.below hW) (by have := hr.1.1; omega) (by have := right_text_len hr.1; omega))
  have HCl := Lib.hid (fun (W : World) (hW : Below w.heap.size w W) => clone_any m.sv m.st W (hv.below hW) (right_len hr.1))
  have hKs : (mkS (textL m.st)).size ≤ maxLen := by rw [mkS_size]; have := right_text_len hr.1; simp only [maxLen]; omega
  have HKs := Lib.hid hKs
  have hz : 0 ≤ m.t ∧ m.t ≤ 4611686018427387904 := ⟨hr.2.1, hr.2.2.1⟩
  have HZ := Lib.hid hz
  have HRP := Lib.hid hr.1
  have hca : atL L m.st m.t = [] := h.none hr.1 (fun u' v hu' _ => by rw [hu] at hu'; cases hu')
  have hcc : Chain ([] : List Ver) := List.Pairwise.nil
  have HP : Hid (putL ltS L m.st m.t (verOf m t) = if (putC [] (verOf m t)).1 ≠ 0 then ((putC [] (verOf m t)).1, L) else (0, setL ltS L m.st m.t (putC [] (verOf m t)).2)) := Lib.hid (by unfold putL; rw [hca])
  have HC := Lib.hid (fun (W : World) => putc_any (.slice none 0 0) [] (verOf m t) W (own_nil W 270 6).rd hcc (by simp) hx)
  have HCC := Lib.hid (fun h0 => putC_chain (v := verOf m t) hcc h0)
  have HCL := Lib.hid (fun h0 => putC_len (l := []) (v := verOf m t) h0)
  have HCM := Lib.hid (fun h0 y => putC_mem (v := verOf m t) hcc h0 (y := y))
  have hvr : (putC [] (verOf m t)).1 = 0 → verR (verOf m t) := fun h0 => by
    by_cases e : verR (verOf m t)
    · exact e
    · unfold putC at h0; rw [if_pos e] at h0; cases h0
  have HVR := Lib.hid hvr
  have HU := Lib.hid hu
  have hg1 : decide (65536 ≤ (lenL L : Int)) = false := by simp only [decide_eq_false_iff_not]; omega
  have hg2 : ¬ (65536 : Int) ≤ (lenL L : Int) := by omega
  have HLook : Hid (∀ W, Below w.heap.size w W → (Instr.lookup 231 (.map (some om)) (.string (mkS (textL m.st))) true).run Tryz.prog W = .ok (.tuple #[.pointer none, .bool false]) W) := Lib.hid (fun W hW => by
    have := (h.next hW).outer.look key9 Tryz.underlying231 (zero86 W) (keyOf9 (mkS (textL m.st)) hKs)
    rw [kl_text, hu] at this
    exact this)
  have HVo : Hid (∃ a c, m.sv = .slice a m.st.length c) := Lib.hid (by obtain ⟨a, c, e, _⟩ := hv.open; exact ⟨a, c, e⟩)
  clear hcc hv hf hx hr hz h hKs hvr hu hca
  generalize putC [] (verOf m t) = pc at HP HC HCC HCL HCM HVR
  obtain ⟨pe, pl⟩ := pc
  simp only at HP HC HCC HCL HCM HVR
  unfold verOf at HC
  unfold Ver.val at HC
  obtain ⟨tw, tt, tm⟩ := t
  unfold wagg at HR ⊢
  unfold Tm.val
  simp only at HC HR HT ⊢
  have HBX := Lib.hid ((Blk.new w #[m.sv, .int .i64 m.t, .int .i64 m.k, .int .i64 m.n, .string m.x] 87).next (below_alloc _ (.cells #[.int .i64 tw, .int .u32 tt, .int .u32 tm] 44)))
  have HBT := Lib.hid (Blk.new (w.alloc (.cells #[m.sv, .int .i64 m.t, .int .i64 m.k, .int .i64 m.n, .string m.x] 87)) #[.int .i64 tw, .int .u32 tt, .int .u32 tm] 44)
  rw [World.size_alloc] at HBT
  have HB0 := Lib.hid (bel_alloc (o := .cells #[.int .i64 tw, .int .u32 tt, .int .u32 tm] 44) (below_alloc w (.cells #[m.sv, .int .i64 m.t, .int .i64 m.k, .int .i64 m.n, .string m.x] 87)))
  have hmm := @run_makeMap Tryz.prog
  go_enter Tryz.func131, Tryz.ntmps131
  go_upto_region 11 with (first
    | (go_at_call 85; refine (HR.out _ HB0.out).mono ?_; rintro e w2 ⟨rfl, hb2⟩; have HB2 := Lib.hid (bel_trans HB0.out hb2); have HX2 := Lib.hid (HBX.out.next hb2); have HT2 := Lib.hid (HBT.out.next hb2); have c0 : w2.cell? ⟨s, 0, none⟩ = some (.map (some om)) := (H.out.blk.next HB2.out).cell 0; have c1 : w2.cell? ⟨s, 1, none⟩ = some (.int .i64 (lenL L : Int)) := (H.out.blk.next HB2.out).cell 1; have x0 : w2.cell? ⟨w.heap.size, 0, none⟩ = some m.sv := HX2.out.cell 0; clear hb2)
    | (go_at_call 184; refine (HT.out _ HB2.out).mono ?_; rintro e w3 ⟨rfl, hb3⟩; have HB3 := Lib.hid (bel_trans HB2.out hb3); have HX3 := Lib.hid (HX2.out.next hb3); have HT3 := Lib.hid (HT2.out.next hb3); have d0 : w3.cell? ⟨s, 0, none⟩ = some (.map (some om)) := (H.out.blk.next HB3.out).cell 0; have d1 : w3.cell? ⟨s, 1, none⟩ = some (.int .i64 (lenL L : Int)) := (H.out.blk.next HB3.out).cell 1; have e0 : w3.cell? ⟨w.heap.size, 0, none⟩ = some m.sv := HX3.out.cell 0; have hlk := HLook.out _ HB3.out; clear hb3)
    | (go_at_call 153; refine (HCl.out _ HB3.out).mono ?_; rintro e w6 ⟨v6, rfl, hm6⟩; obtain ⟨a6, c6, rfl, _⟩ := hm6.rd.open; have HM6 := Lib.hid hm6; have HX6 := Lib.hid (HX3.out.next hm6.bel); have HT6 := Lib.hid (HT3.out.next hm6.bel); have HB6 := Lib.hid (bel_trans HB3.out hm6.bel); clear hm6)
    | fail)
  have HBx := Lib.hid (Blk.new (w6.alloc (.map #[] 0)) #[.slice a6 m.st.length c6, .map (some w6.heap.size)] 263)
  rw [World.size_alloc] at HBx
  have HMp := Lib.hid ((MapIs.made w6 Tryz.prog 2).alloc (.cells #[.slice a6 m.st.length c6, .map (some w6.heap.size)] 263))
  have HB67 := Lib.hid (bel_alloc (o := .cells #[.slice a6 m.st.length c6, .map (some w6.heap.size)] 263) (below_alloc w6 (.map #[] 0)))
  have Hs6 : Hid (w.heap.size ≤ w6.heap.size) := Lib.hid HB6.out.size
  generalize (w6.alloc (.map #[] 0)).alloc (.cells #[.slice a6 m.st.length c6, .map (some w6.heap.size)] 263) = w7 at HBx HMp HB67 ⊢
  have HB7 := Lib.hid (bel_trans HB6.out HB67.out)
  have HX7 := Lib.hid (HX6.out.next HB67.out)
  have HT7 := Lib.hid (HT6.out.next HB67.out)
  have HS7 : Hid (OwnP 104 w7 (.slice a6 m.st.length c6) m.st ∧ ∀ b, (Value.slice a6 m.st.length c6).ownBlock = some b → w.heap.size ≤ b) := Lib.hid ⟨OwnP.below HM6.out.1 HB67.out, fun b hb => Nat.le_trans HB3.out.size (HM6.out.2.1 b hb)⟩
  obtain ⟨mb, hmb⟩ : ∃ mb, w6.heap.size = mb := ⟨_, rfl⟩
  rw [hmb] at HBx HMp Hs6 ⊢
  obtain ⟨xb, hxb⟩ : ∃ xb, mb + 1 = xb := ⟨_, rfl⟩
  rw [hxb] at HBx ⊢
  have Hs7 : Hid (w.heap.size ≤ xb) := Lib.hid (by have := Hs6.out; omega)
  clear hmb hxb HM6 HX6 HT6 HB6 HB67 HX3 HT3 HX2 HT2 c0 c1 x0 d0 d1 e0 hlk hmm
  have HK : Hid (∀ W, Below w7.heap.size w7 W → W.cell? ⟨xb, 1, none⟩ = some (.map (some mb)) ∧ W.cell? ⟨w.heap.size, 1, none⟩ = some (.int .i64 m.t) ∧ W.cell? ⟨w.heap.size, 2, none⟩ = some (.int .i64 m.k) ∧ W.cell? ⟨w.heap.size, 3, none⟩ = some (.int .i64 m.n) ∧ W.cell? ⟨w.heap.size, 4, none⟩ = some (.string m.x) ∧ W.cell? ⟨w.heap.size + 1, 0, none⟩ = some (.int .i64 tw) ∧ W.cell? ⟨w.heap.size + 1, 1, none⟩ = some (.int .u32 tt) ∧ W.cell? ⟨w.heap.size + 1, 2, none⟩ = some (.int .u32 tm) ∧ (Instr.lookup 261 (.map (some mb)) (.int .i64 m.t) false).run Tryz.prog W = .ok (.slice none 0 0) W) := Lib.hid (fun W hW => ⟨(HBx.out.next hW).cell 1, (HX7.out.next hW).cell 1, (HX7.out.next hW).cell 2, (HX7.out.next hW).cell 3, (HX7.out.next hW).cell 4, (HT7.out.next hW).cell 0, (HT7.out.next hW).cell 1, (HT7.out.next hW).cell 2, (HMp.out.below hW).look1 key2 Tryz.underlying261 (zero96 W) (keyOf2 (n := m.t) (by have := HZ.out; omega))⟩)
  have hx7 := bel_refl w7
  obtain ⟨k0, k1, k2, k3, k4, k5, k6, k7, k8⟩ := HK.out _ hx7
  go_region_held3 (fun W => W.cell? ⟨xb, 1, none⟩ = some (.map (some mb)) ∧ W.cell? ⟨w.heap.size, 1, none⟩ = some (.int .i64 m.t) ∧ W.cell? ⟨w.heap.size, 2, none⟩ = some (.int .i64 m.k) ∧ W.cell? ⟨w.heap.size, 3, none⟩ = some (.int .i64 m.n) ∧ W.cell? ⟨w.heap.size, 4, none⟩ = some (.string m.x) ∧ W.cell? ⟨w.heap.size + 1, 0, none⟩ = some (.int .i64 tw) ∧ W.cell? ⟨w.heap.size + 1, 1, none⟩ = some (.int .u32 tt) ∧ W.cell? ⟨w.heap.size + 1, 2, none⟩ = some (.int .u32 tm) ∧ (Instr.lookup 261 (.map (some mb)) (.int .i64 m.t) false).run Tryz.prog W = .ok (.slice none 0 0) W)
    (first | (with_reducible exact ⟨k0, k1, k2, k3, k4, k5, k6, k7, k8⟩) | (with_reducible refine HK.out _ ?_; (repeat (first | assumption | apply bel_alloc | apply bel_drew)); done) | go_keep)
    (first
      | (go_simp; go_at_call 185; refine (HC.out _).mono ?_; rintro e w5 ⟨v5, rfl, hm5, hb5⟩; have hx5 : Below w7.heap.size w7 w5 := bel_trans (by repeat (first | exact bel_refl _ | assumption | apply bel_alloc | apply bel_drew)) hb5; obtain ⟨q0, q1, q2, q3, q4, q5, q6, q7, q8⟩ := HK.out _ hx5; have HM5 := Lib.hid hm5; clear hm5 hb5))
  have HB5 := Lib.hid (bel_trans HB7.out hx5)
  have H5 := Lib.hid (H.out.next HB5.out)
  have HBx5 := Lib.hid (HBx.out.next hx5)
  have HMp5 := Lib.hid (HMp.out.below hx5)
  have HS5 : Hid (OwnP 104 w5 (.slice a6 m.st.length c6) m.st) := Lib.hid (OwnP.below HS7.out.1 hx5)
  clear q5 q6 q7 q8 k0 k1 k2 k3 k4 k5 k6 k7 k8 hx5 hx7 HK HC HT HR HLook HBX HBT HB0 HBx HMp HX7 HT7
  by_cases hpe : pe = 0
  · subst hpe
    have HP2 : Hid (putL ltS L m.st m.t (verOf m ⟨tw, tt, tm⟩) = (0, setL ltS L m.st m.t pl)) := Lib.hid (by rw [HP.out, if_neg (by simp)])
    go_upto_region 14 with fail
    have HB5d := Lib.hid (bel_drew HB5.out)
    have H5d := Lib.hid (H.out.next HB5d.out)
    have HM5d : Hid (MineV w7.drew w5.drew v5 pl) := Lib.hid (Mine.below (HM5.out (by trivial)) (bel_drew (bel_refl w5)))
    obtain ⟨w8, hr8, hm8, hg8⟩ := (MapIs.drew HMp5.out).put key2 Tryz.underlying261 (by simp only [maxLen]; omega) v5 (keyOf2 (n := m.t) (by have := HZ.out; omega)) trivial
    have hne : mb ≠ om := by have := H.out.lt _ H.out.Fo; have := Hs6.out; omega
    obtain ⟨w9, hr9, hm9, hg9⟩ := (H5d.out.outer.grown hg8 (fun e => hne (by injection e with e; exact e.symm))).put key9 Tryz.underlying231 (by have := H.out.nb.1; simp only [maxLen]; omega) (.pointer (some ⟨xb, 0, none⟩)) (keyOf9 (mkS (textL m.st)) HKs.out) trivial
    rw [kl_text, HU.out] at hm9
    have hsb5 : s ≠ mb := by have := H.out.lt _ H.out.Fs; have := Hs6.out; omega
    have hso5 : s ≠ om := blk_no_map H5d.out.blk H5d.out.outer
    have hs6 := H5d.out.blk.grown hg8 (fun e => hsb5 (by injection e with e; exact e.symm))
    have hs7 := hs6.grown hg9 (fun e => hso5 (by injection e with e; exact e.symm))
    have z0 : w8.cell? ⟨s, 0, none⟩ = some (.map (some om)) := hs6.cell 0
    have z1 : w9.cell? ⟨s, 1, none⟩ = some (.int .i64 (lenL L : Int)) := hs7.cell 1
    have z2 : w9.frozen? ⟨s, 1, none⟩ = false := hs7.free 1
    have hlw : IntKind.i64.wrap ((lenL L : Int) + 1) = (lenL L : Int) + 1 := by rw [IntKind.wrap_i64]; omega
    obtain ⟨F1, S1, hF1⟩ := put_new (c := pl) (z := m.t) (v' := v5) (d := m.st) (xb := xb) (mb := mb) (sv := .slice a6 m.st.length c6) (w1 := w5.drew) H.out HU.out HRP.out HZ.out HB5d.out HBx5.out Hs7.out HS5.out HS7.out.2 (MapIs.drew HMp5.out) Hs6.out HM5d.out.1 (fun b hb => Nat.le_trans HB7.out.size (HM5d.out.2.1 b hb)) (HCC.out (by trivial)) (by rw [HCL.out (by trivial)]; rfl) (fun x hx => by
      rcases (HCM.out (by trivial) x).1 hx with h | h
      · cases h
      · rw [h]; exact HVR.out (by trivial)) hm8 (by simp) hg8 hm9 (by simp) hg9 (by omega)
    have HF1 := Lib.hid hF1
    clear hF1 hm8 hm9 hg8 hg9 hs6 hs7 hne hsb5 hso5
    go_region
    go_wp2_with fail
    go_ret
    obtain ⟨f1, f2, f3, f4⟩ := HF1.out
    rw [HP2.out]
    exact ⟨rfl, F1, ⟨_, _, f1⟩, f2, f4⟩
  · have HE5 : Hid (St F w5 s L (N + 1)) := Lib.hid ⟨_, _, H5.out.more (Nat.le_succ _)⟩
    have HP2 : Hid (putL ltS L m.st m.t (verOf m ⟨tw, tt, tm⟩) = (pe, L)) := Lib.hid (by rw [HP.out, if_pos hpe])
    clear HP HCC HCL HCM HVR HM5 H5 H HU HB3 HB2
    have he : (pe == 0) = false := bne_of hpe
    clear hpe hN hful hg1 hg2 q0 q1 q2 q3 q4 HKs HZ
    go_upto_region 13 with fail
    clear he
    go_wp2_with fail
    go_ret
    rw [HP2.out]
    exact ⟨rfl, F, HE5.out, fun x hx => .inl hx, Turn.of HB5.out⟩
end Go.Proofs.YtbaflgddpciadaaGreat
