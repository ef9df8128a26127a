/- The document's Right of a write (87), Same of sets (81). -/
import Derived.Test.YtbaflgddpciadaaGreatEQ
set_option linter.unusedVariables false
set_option linter.unusedSimpArgs false
namespace Go.Proofs.YtbaflgddpciadaaGreat
open Go.RowKit Go.Kt Go.Ix Go.Sx Go.Cx
set_option maxRecDepth 100000
set_option maxHeartbeats 2000000 in
theorem rverR_any (v : Ver) (w : World) (hs : v.text.size ≤ maxLen) : Calls Tryz.prog 165 #[v.val] w fun e w' => e = .returned (.bool (decide (verR v))) ∧ Below w.heap.size w w' := by
  have hc := verR_cases v
  have hS := Lib.hid (fun (W : World) => refstr_any v.at_ W)
  generalize decide (verR v) = p at hc ⊢
  unfold maxLen at hs
  obtain ⟨⟨aw, at_, am⟩, kd, nm, tx⟩ := v
  unfold Ver.val
  unfold Tm.val at hS
  simp only at hc ⊢ hS hs
  rcases hc with ⟨h1, rfl⟩ | ⟨h1, h2, rfl⟩ | ⟨h1, h2, rfl, hp⟩ | ⟨h1, h2, rfl, hp⟩ | ⟨h1, h2, rfl, h3, rfl⟩ | ⟨h1, h2, rfl, h3, hp⟩ | ⟨h1, h2, h3, rfl⟩ | ⟨h1, h2, h3, rfl⟩
  all_goals rw [h1] at hS
  all_goals clear h1
  · go_enter Tryz.func165, Tryz.ntmps165
    go_wp2_with (go_at_call 66; refine (hS.out _).mono ?_; rintro e w1 ⟨rfl, hb1⟩)
    all_goals (first | (exfalso; omega) | (go_ret; exact ⟨rfl, bel_trans (below_alloc _ _) hb1⟩))
  · go_enter Tryz.func165, Tryz.ntmps165
    go_wp2_with (go_at_call 66; refine (hS.out _).mono ?_; rintro e w1 ⟨rfl, hb1⟩; have hb2 := Lib.hid hb1; have hx := (Blk.new w #[.int .i64 aw, .int .u32 at_, .int .u32 am, .int .i64 kd, .int .i64 nm, .string tx] 275).next hb1; have x3 : w1.cell? ⟨w.heap.size, 3, none⟩ = some (.int .i64 kd) := hx.cell 3; have x4 : w1.cell? ⟨w.heap.size, 4, none⟩ = some (.int .i64 nm) := hx.cell 4; have x5 : w1.cell? ⟨w.heap.size, 5, none⟩ = some (.string tx) := hx.cell 5; clear hb1 hx)
    all_goals (first | (exfalso; omega) | (go_ret; exact ⟨rfl, bel_trans (below_alloc _ _) hb2.out⟩))
  · have Hp := Lib.hid hp
    clear hp
    go_enter Tryz.func165, Tryz.ntmps165
    go_wp2_with (go_at_call 66; refine (hS.out _).mono ?_; rintro e w1 ⟨rfl, hb1⟩; have hb2 := Lib.hid hb1; have hx := (Blk.new w #[.int .i64 aw, .int .u32 at_, .int .u32 am, .int .i64 1, .int .i64 nm, .string tx] 275).next hb1; have x3 : w1.cell? ⟨w.heap.size, 3, none⟩ = some (.int .i64 1) := hx.cell 3; have x4 : w1.cell? ⟨w.heap.size, 4, none⟩ = some (.int .i64 nm) := hx.cell 4; have x5 : w1.cell? ⟨w.heap.size, 5, none⟩ = some (.string tx) := hx.cell 5; clear hb1 hx)
    all_goals (first | (exfalso; omega) | (go_ret; first | exact ⟨ret_bool Hp.out.symm, bel_trans (below_alloc _ _) hb2.out⟩ | exact ⟨ret_bool (by rw [Hp.out]; first | assumption | (symm; assumption) | simp [*]), bel_trans (below_alloc _ _) hb2.out⟩))
  · have Hp := Lib.hid hp
    clear hp
    go_enter Tryz.func165, Tryz.ntmps165
    go_wp2_with (go_at_call 66; refine (hS.out _).mono ?_; rintro e w1 ⟨rfl, hb1⟩; have hb2 := Lib.hid hb1; have hx := (Blk.new w #[.int .i64 aw, .int .u32 at_, .int .u32 am, .int .i64 2, .int .i64 nm, .string tx] 275).next hb1; have x3 : w1.cell? ⟨w.heap.size, 3, none⟩ = some (.int .i64 2) := hx.cell 3; have x4 : w1.cell? ⟨w.heap.size, 4, none⟩ = some (.int .i64 nm) := hx.cell 4; have x5 : w1.cell? ⟨w.heap.size, 5, none⟩ = some (.string tx) := hx.cell 5; clear hb1 hx)
    all_goals (first | (exfalso; omega) | (go_ret; first | exact ⟨ret_bool Hp.out.symm, bel_trans (below_alloc _ _) hb2.out⟩ | exact ⟨ret_bool (by rw [Hp.out]; first | assumption | (symm; assumption) | simp [*]), bel_trans (below_alloc _ _) hb2.out⟩))
  · go_enter Tryz.func165, Tryz.ntmps165
    go_wp2_with (go_at_call 66; refine (hS.out _).mono ?_; rintro e w1 ⟨rfl, hb1⟩; have hb2 := Lib.hid hb1; have hx := (Blk.new w #[.int .i64 aw, .int .u32 at_, .int .u32 am, .int .i64 3, .int .i64 nm, .string tx] 275).next hb1; have x3 : w1.cell? ⟨w.heap.size, 3, none⟩ = some (.int .i64 3) := hx.cell 3; have x4 : w1.cell? ⟨w.heap.size, 4, none⟩ = some (.int .i64 nm) := hx.cell 4; have x5 : w1.cell? ⟨w.heap.size, 5, none⟩ = some (.string tx) := hx.cell 5; clear hb1 hx)
    all_goals (first | (exfalso; omega) | (go_ret; exact ⟨rfl, bel_trans (below_alloc _ _) hb2.out⟩))
  · have Hp := Lib.hid hp
    clear hp
    go_enter Tryz.func165, Tryz.ntmps165
    go_wp2_with (go_at_call 66; refine (hS.out _).mono ?_; rintro e w1 ⟨rfl, hb1⟩; have hb2 := Lib.hid hb1; have hx := (Blk.new w #[.int .i64 aw, .int .u32 at_, .int .u32 am, .int .i64 3, .int .i64 nm, .string tx] 275).next hb1; have x3 : w1.cell? ⟨w.heap.size, 3, none⟩ = some (.int .i64 3) := hx.cell 3; have x4 : w1.cell? ⟨w.heap.size, 4, none⟩ = some (.int .i64 nm) := hx.cell 4; have x5 : w1.cell? ⟨w.heap.size, 5, none⟩ = some (.string tx) := hx.cell 5; clear hb1 hx)
    all_goals (first | (exfalso; omega) | (go_ret; first | exact ⟨ret_bool Hp.out.symm, bel_trans (below_alloc _ _) hb2.out⟩ | exact ⟨ret_bool (by rw [Hp.out]; first | assumption | (symm; assumption) | simp [*]), bel_trans (below_alloc _ _) hb2.out⟩))
  all_goals
    have k1 : (kd == 1) = false := bne_of (by omega)
    have k2 : (kd == 2) = false := bne_of (by omega)
    have k3 : (kd == 3) = false := bne_of (by omega)
    go_enter Tryz.func165, Tryz.ntmps165
    go_wp2_with (go_at_call 66; refine (hS.out _).mono ?_; rintro e w1 ⟨rfl, hb1⟩; have hb2 := Lib.hid hb1; have hx := (Blk.new w #[.int .i64 aw, .int .u32 at_, .int .u32 am, .int .i64 kd, .int .i64 nm, .string tx] 275).next hb1; have x3 : w1.cell? ⟨w.heap.size, 3, none⟩ = some (.int .i64 kd) := hx.cell 3; have x4 : w1.cell? ⟨w.heap.size, 4, none⟩ = some (.int .i64 nm) := hx.cell 4; have x5 : w1.cell? ⟨w.heap.size, 5, none⟩ = some (.string tx) := hx.cell 5; clear hb1 hx)
    all_goals (first | (exfalso; omega) | (go_ret; exact ⟨rfl, bel_trans (below_alloc _ _) hb2.out⟩))
set_option maxHeartbeats 1000000 in
theorem rrightw_any (m : Wr) (w : World) (hv : RdP w m.sv m.st) (hf : Fit m.st) (hx : m.x.size ≤ maxLen) :
    Calls Tryz.prog 87 #[wagg m] w fun e w' => e = .returned (.bool (pb (RightW m))) ∧ Below w.heap.size w w' := by
  obtain ⟨st, t, k, n, x, sv⟩ := m
  simp only at hv hf hx
  obtain ⟨a, cap, rfl, _⟩ := hv.open
  have HR := Lib.hid (fun (W : World) (h : Below w.heap.size w W) => (refright_any (.slice a st.length cap) st W (hv.below h) hf).mono (fun _ _ (h : _ ∧ _) => And.intro (says_pb h.1) (by obtain ⟨t, rfl⟩ := h.2; exact bel_drewN (bel_refl W) t)))
  have HV := Lib.hid (fun W => rverR_any ⟨⟨0, 0, 0⟩, k, n, x⟩ W hx)
  have HP : Hid (RightW ⟨st, t, k, n, x, .slice a st.length cap⟩ ↔ RightP st ∧ 0 ≤ t ∧ t ≤ 4611686018427387904 ∧ verR ⟨⟨0, 0, 0⟩, k, n, x⟩) := Lib.hid Iff.rfl
  generalize hP : RightW ⟨st, t, k, n, x, .slice a st.length cap⟩ = P at HP ⊢
  clear hP hv hf
  generalize hr : pb (RightP st) = r at HR
  have Hr := Lib.hid hr
  clear hr
  unfold wagg Ver.val at *
  simp only at *
  generalize hd : decide (verR ⟨⟨0, 0, 0⟩, k, n, x⟩) = d at HV
  have Hd := Lib.hid hd
  clear hd
  have blk := Lib.hid (Blk.new w #[.slice a st.length cap, .int .i64 t, .int .i64 k, .int .i64 n, .string x] 145)
  cases r with
  | false =>
    have HE : Hid (pb P = false) := Lib.hid (pb_no (fun h => of_not_pb Hr.out (HP.out.1 h).1))
    go_enter Tryz.func87, Tryz.ntmps87
    go_wp2_with (first | (go_at_call 164; refine (HR.out _ (below_alloc w _)).mono ?_; rintro e w2 ⟨rfl, hb2⟩; have HB2 := Lib.hid (bel_trans (below_alloc w _) hb2); clear hb2) | fail)
    go_ret
    exact ⟨ret_bool HE.out.symm, HB2.out⟩
  | true =>
    by_cases h1 : 0 ≤ t
    · by_cases h2 : t ≤ 4611686018427387904
      · have HE : Hid (pb P = d) := Lib.hid (by
          cases d with
          | true => exact pb_yes (HP.out.2 ⟨of_pb Hr.out, h1, h2, of_decide_eq_true Hd.out⟩)
          | false => exact pb_no (fun h => of_decide_eq_false Hd.out (HP.out.1 h).2.2.2))
        go_enter Tryz.func87, Tryz.ntmps87
        go_wp2_with (first
          | (go_at_call 164; refine (HR.out _ (below_alloc w _)).mono ?_; rintro e w2 ⟨rfl, hb2⟩; have HB2 := Lib.hid (bel_trans (below_alloc w _) hb2); have hx := blk.out.next hb2; have x1 : w2.cell? ⟨w.heap.size, 1, none⟩ = some (.int .i64 t) := hx.cell 1; have x2 : w2.cell? ⟨w.heap.size, 2, none⟩ = some (.int .i64 k) := hx.cell 2; have x3 : w2.cell? ⟨w.heap.size, 3, none⟩ = some (.int .i64 n) := hx.cell 3; have x4 : w2.cell? ⟨w.heap.size, 4, none⟩ = some (.string x) := hx.cell 4; clear hb2 hx)
          | (go_at_call 165; refine (HV.out _).mono ?_; rintro e w3 ⟨rfl, hb3⟩; have HB3 := Lib.hid (bel_trans HB2.out hb3); clear hb3)
          | fail)
        go_ret
        exact ⟨ret_bool HE.out.symm, HB3.out⟩
      · have HE : Hid (pb P = false) := Lib.hid (pb_no (fun h => h2 (HP.out.1 h).2.2.1))
        have h3' : decide (t ≤ 4611686018427387904) = false := by simpa using h2
        go_enter Tryz.func87, Tryz.ntmps87
        go_wp2_with (first
          | (go_at_call 164; refine (HR.out _ (below_alloc w _)).mono ?_; rintro e w2 ⟨rfl, hb2⟩; have HB2 := Lib.hid (bel_trans (below_alloc w _) hb2); have hx := blk.out.next hb2; have x1 : w2.cell? ⟨w.heap.size, 1, none⟩ = some (.int .i64 t) := hx.cell 1; clear hb2 hx)
          | fail)
        go_ret
        exact ⟨ret_bool HE.out.symm, HB2.out⟩
    · have HE : Hid (pb P = false) := Lib.hid (pb_no (fun h => h1 (HP.out.1 h).2.1))
      have h3' : decide (0 ≤ t) = false := by simpa using h1
      go_enter Tryz.func87, Tryz.ntmps87
      go_wp2_with (first
        | (go_at_call 164; refine (HR.out _ (below_alloc w _)).mono ?_; rintro e w2 ⟨rfl, hb2⟩; have HB2 := Lib.hid (bel_trans (below_alloc w _) hb2); have hx := blk.out.next hb2; have x1 : w2.cell? ⟨w.heap.size, 1, none⟩ = some (.int .i64 t) := hx.cell 1; clear hb2 hx)
        | fail)
      go_ret
      exact ⟨ret_bool HE.out.symm, HB2.out⟩
theorem drew_some {w W : World} (h : ∃ t, W = w.drewN t) (n : Nat) : ∃ t, W.drewN n = w.drewN t := by
  obtain ⟨t, rfl⟩ := h
  exact ⟨_, World.drewN_drewN _ _ _⟩
set_option maxHeartbeats 2000000 in
theorem compare_all (v u : Value) (l m : List Pr) (w : World) (hv : RdP w v l) (hu : RdP w u m) :
    Calls Tryz.prog 158 #[v, u] w fun e w' => e = .returned (.int .i64 (cmpS l m)) ∧ ∃ t, w' = w.drewN t := by
  obtain ⟨a, cap, rfl, hcap, hbig, hcell⟩ := hv.open
  obtain ⟨a2, cap2, rfl, hcap2, hbig2, hcell2⟩ := hu.open
  have Hcell := Lib.hid hcell
  have Hcell2 := Lib.hid hcell2
  generalize hz : cmpS l m = Z
  have HZ := Lib.hid hz
  clear hcell hv hcell2 hu hz
  go_enter Tryz.func158, Tryz.ntmps158
  go_wp2_with fail
  go_loopw [5] (fun i wr => ∃ k : Nat, k ≤ l.length ∧ k ≤ m.length ∧ i = .int .i64 k ∧ Hid (Z = cmpS (l.drop k) (m.drop k)) ∧ Hid (∃ t, wr = w.drewN t)) (fun i _ => l.length - (intOf i).toNat)
  case atStart => exact ⟨0, by omega, by omega, rfl, Lib.hid HZ.out.symm, Lib.hid ⟨0, rfl⟩⟩
  case round =>
    obtain ⟨k, hk, hkm, rfl, HE, HT⟩ := hrel
    have Hb : Hid (Below w.heap.size w wr) := Lib.hid (by
      obtain ⟨t, ht⟩ := HT.out
      rw [ht]
      exact bel_drewN (bel_refl w) t)
    by_cases hlt : k < l.length
    · by_cases hlm : k < m.length
      · obtain ⟨p, hp⟩ : ∃ x, l[k]? = some x := ⟨l[k], List.getElem?_eq_getElem hlt⟩
        obtain ⟨q, hq⟩ : ∃ x, m[k]? = some x := ⟨m[k], List.getElem?_eq_getElem hlm⟩
        obtain ⟨b, o, rfl, c1, c2⟩ := Hcell.out k p hp
        obtain ⟨b2, o2, rfl, d1, d2⟩ := Hcell2.out k q hq
        have lb := World.block_lt_of_cell? w _ c1
        have ld := World.block_lt_of_cell? w _ d1
        have c1' : wr.cell? ⟨b, o + k * 2, none⟩ = some (.string p.n) := (Hb.out.cell (p := ⟨b, o + k * 2, none⟩) lb).trans c1
        have c2' : wr.cell? ⟨b, o + k * 2 + 1, none⟩ = some (.string p.v) := (Hb.out.cell (p := ⟨b, o + k * 2 + 1, none⟩) lb).trans c2
        have d1' : wr.cell? ⟨b2, o2 + k * 2, none⟩ = some (.string q.n) := (Hb.out.cell (p := ⟨b2, o2 + k * 2, none⟩) ld).trans d1
        have d2' : wr.cell? ⟨b2, o2 + k * 2 + 1, none⟩ = some (.string q.v) := (Hb.out.cell (p := ⟨b2, o2 + k * 2 + 1, none⟩) ld).trans d2
        have hk1 : (0 : Int) ≤ (k : Int) := by omega
        have hk2 : (k : Int) < (l.length : Int) := by omega
        have hk3 : (k : Int) < (m.length : Int) := by omega
        have HX : Hid (Z = if p.n ≠ q.n then (if Op.bytesLess p.n.toList q.n.toList = true then -1 else 1) else if p.v ≠ q.v then (if Op.bytesLess p.v.toList q.v.toList = true then -1 else 1) else cmpS (l.drop (k + 1)) (m.drop (k + 1))) := Lib.hid (by
          obtain ⟨h1, e1⟩ := List.getElem?_eq_some_iff.1 hp
          obtain ⟨h2, e2⟩ := List.getElem?_eq_some_iff.1 hq
          rw [HE.out, List.drop_eq_getElem_cons h1, List.drop_eq_getElem_cons h2, e1, e2, cmpS_cons])
        clear c1 c2 d1 d2 lb ld hp hq
        by_cases hn : p.n = q.n
        · by_cases hvv : p.v = q.v
          · have HX2 : Hid (Z = cmpS (l.drop (k + 1)) (m.drop (k + 1))) := Lib.hid (by rw [HX.out, if_neg (by simpa using hn), if_neg (by simpa using hvv)])
            rw [← hn] at d1'
            rw [← hvv] at d2'
            clear hn hvv HX
            go_wp2_with fail
            go_quiet (fail)
            go_wp2_with fail
            go_quiet (fail)
            go_wp2_with fail
            go_roundw
            case rel => exact ⟨k + 1, by omega, by omega, by go_num, HX2, Lib.hid (by repeat (first | exact HT.out | apply drew_some))⟩
            case measure => simp [intOf]; omega
          · have hvb : (p.v.toList == q.v.toList) = false := by
              rw [beq_eq_false_iff_ne]
              exact fun e => hvv (toList_inj e)
            have HX2 : Hid (Z = if Op.bytesLess p.v.toList q.v.toList = true then -1 else 1) := Lib.hid (by rw [HX.out, if_neg (by simpa using hn), if_pos hvv])
            rw [← hn] at d1'
            clear hn hvv HX
            cases hl : Op.bytesLess p.v.toList q.v.toList with
            | true =>
              have HX3 : Hid (Z = -1) := Lib.hid (by rw [HX2.out, if_pos hl])
              go_wp2_with fail
              go_quiet (fail)
              go_wp2_with fail
              go_quiet (fail)
              go_wp2_with fail
              go_quiet (fail)
              go_wp2_with fail
              go_ret
              exact ⟨(by rw [HX3.out]; rfl), by repeat (first | exact HT.out | apply drew_some)⟩
            | false =>
              have HX3 : Hid (Z = 1) := Lib.hid (by rw [HX2.out, hl]; rfl)
              go_wp2_with fail
              go_quiet (fail)
              go_wp2_with fail
              go_quiet (fail)
              go_wp2_with fail
              go_quiet (fail)
              go_wp2_with fail
              go_ret
              exact ⟨(by rw [HX3.out]; rfl), by repeat (first | exact HT.out | apply drew_some)⟩
        · have hnb : (p.n.toList == q.n.toList) = false := by
            rw [beq_eq_false_iff_ne]
            exact fun e => hn (toList_inj e)
          have HX2 : Hid (Z = if Op.bytesLess p.n.toList q.n.toList = true then -1 else 1) := Lib.hid (by rw [HX.out, if_pos hn])
          clear hn HX
          cases hl : Op.bytesLess p.n.toList q.n.toList with
          | true =>
            have HX3 : Hid (Z = -1) := Lib.hid (by rw [HX2.out, if_pos hl])
            go_wp2_with fail
            go_quiet (fail)
            go_wp2_with fail
            go_quiet (fail)
            go_wp2_with fail
            go_ret
            exact ⟨(by rw [HX3.out]; rfl), by repeat (first | exact HT.out | apply drew_some)⟩
          | false =>
            have HX3 : Hid (Z = 1) := Lib.hid (by rw [HX2.out, hl]; rfl)
            go_wp2_with fail
            go_quiet (fail)
            go_wp2_with fail
            go_quiet (fail)
            go_wp2_with fail
            go_ret
            exact ⟨(by rw [HX3.out]; rfl), by repeat (first | exact HT.out | apply drew_some)⟩
      · have d1 : decide ((k : Int) < (m.length : Int)) = false := by simp only [decide_eq_false_iff_not]; omega
        have d2 : decide (m.length < l.length) = true := by simp only [decide_eq_true_eq]; omega
        have HX3 : Hid (Z = 1) := Lib.hid (by rw [HE.out, List.drop_of_length_le (l := m) (by omega), List.drop_eq_getElem_cons hlt]; rfl)
        go_wp2_with fail
        go_ret
        exact ⟨(by rw [HX3.out]; rfl), HT.out⟩
    · obtain rfl : k = l.length := by omega
      by_cases hlm : l.length < m.length
      · have HX3 : Hid (Z = -1) := Lib.hid (by rw [HE.out, List.drop_of_length_le (l := l) (by omega), List.drop_eq_getElem_cons hlm]; rfl)
        go_wp2_with fail
        go_ret
        exact ⟨(by rw [HX3.out]; rfl), HT.out⟩
      · have hme : m.length = l.length := by omega
        have HX3 : Hid (Z = 0) := Lib.hid (by rw [HE.out, List.drop_of_length_le (l := l) (by omega), List.drop_of_length_le (l := m) (by omega)]; rfl)
        have Hme := Lib.hid hme
        rw [hme]
        clear hme hlm
        go_wp2_with fail
        go_ret
        exact ⟨(by rw [HX3.out]; rfl), HT.out⟩
def NotZero (e : Ending) : Prop := ∃ z : Int, (z = 1 ∨ z = -1) ∧ e = .returned (.int .i64 z)
theorem compare_no (v u : Value) (l m : List Pr) (w : World) (hv : RdP w v l) (hu : RdP w u m) (hne : l ≠ m) :
    Calls Tryz.prog 158 #[v, u] w fun e w' => NotZero e ∧ ∃ t, w' = w.drewN t := by
  refine (compare_all v u l m w hv hu).mono ?_
  rintro e w' ⟨rfl, ht⟩
  refine ⟨⟨cmpS l m, ?_, rfl⟩, ht⟩
  rcases cmpS_rng l m with h | h | h
  · exact .inr h
  · exact absurd (cmpS_zero h) hne
  · exact .inl h
theorem same_no (v u : Value) (l m : List Pr) (w : World) (hv : RdP w v l) (hu : RdP w u m) (hne : l ≠ m) :
    Calls Tryz.prog 81 #[v, u] w fun e w' => e = .returned (.bool false) ∧ ∃ t, w' = w.drewN t := by
  have HV := Lib.hid hv
  have HU := Lib.hid hu
  have HNE := Lib.hid hne
  clear hv hu hne
  go_enter Tryz.func81, Tryz.ntmps81
  go_wp2_with (first | (go_at_call 158; refine (compare_no v u l m w HV.out HU.out HNE.out).mono ?_; rintro e w2 ⟨⟨z, hz, rfl⟩, ht⟩; have HT := Lib.hid ht; have hz0 : (z == 0) = false := (by rw [beq_eq_false_iff_ne]; omega); clear hz ht) | fail)
  go_ret
  exact ⟨rfl, HT.out⟩
end Go.Proofs.YtbaflgddpciadaaGreat
