/- The contract of FrameTurns (8). -/
import Derived.Test.YtkanagmjnndodaaWE
import Derived.Deep.RegionHeld3
namespace Go.Proofs.Ytkanagmjnndodaa
open Go.RowKit Go.Kt

theorem below_undrew {w w' : World} (h : Below w.heap.size w.drew w') : Below w.heap.size w w' := ⟨h.os, h.tape, h.output, h.size, h.block⟩

theorem pcs_hi_run {t e : TypeId} {z : Value} {bytes : Nat} (ok : ElemOk Try.prog t e z 2 bytes) {w : World} {vx : Value} {ps : List (UInt8 × List UInt8)} (hi : Nat) (hrd : RdPcs w vx ps) (h2 : hi ≤ ps.length) :
    ∃ v', (∀ W : World, (Instr.sliceAt t vx none (some (.int .i64 (hi : Int))) none).run Try.prog W = .ok v' W) ∧ (∀ (w0 : World) (ps : List (UInt8 × List UInt8)), RdPcs w0 vx ps → RdPcs w0 v' (ps.take hi)) := by
  obtain ⟨T, hT, hr, hb⟩ := hrd
  have hl : T.length = ps.length := by rw [← hT, plain_len]
  obtain ⟨_, ax, cap, rfl, g1, _⟩ := hr
  refine ⟨_, fun W => by rw [run_sliceAt ok.under, run_cut_hi ok W ax T.length cap hi .i64 (by omega) g1], fun w0 ps' hrd' => ?_⟩
  obtain ⟨T', hT', hr', hb'⟩ := hrd'
  have hn : T'.length = T.length := by
    obtain ⟨_, _, _, e', _⟩ := hr'
    injection e' with _ e' _
    exact e'.symm
  rw [hn] at hr'
  have h'' := hr'.cut 0 hi (Nat.zero_le _) (by omega)
  simp only [Nat.zero_mul, List.drop_zero, Nat.sub_zero] at h''
  rw [(cellsOf_cut T' hi).1] at h''
  refine ⟨T'.take hi, by rw [plain_take, hT'], ?_, fun y hy => hb' y (List.mem_of_mem_take hy)⟩
  rw [List.length_take, Nat.min_eq_left (by omega)]
  simpa using h''

set_option maxRecDepth 100000 in
set_option maxHeartbeats 4000000 in
theorem turns_any (v1 : Value) (ps : List (UInt8 × List UInt8)) (at_ : Int) (turn : Int) (w : World) (hv1 : RdPcs w v1 ps) (ht0 : 0 ≤ turn) (ht1 : turn ≤ 255)
    (hl0 : -9223372036854775808 ≤ at_) (hl1 : at_ ≤ 9223372036854775807) :
    Calls Try.prog 8 #[v1, .int .i64 at_, .int .u8 turn] w fun e w' => e = .returned (.bool true) ∧ Below w.heap.size w w' := by
  have H1 := Lib.hid hv1
  obtain ⟨T, hT, hrow, hbod⟩ := hv1
  obtain ⟨a, cap, rfl, hcap, hbig, hcell⟩ := rdPcs_open hrow
  have Hbod := Lib.hid hbod
  have Hcell := Lib.hid hcell
  have HT := Lib.hid hT
  unfold maxLen at hbig
  clear hcell hbod hrow hT
  by_cases htz : turn = 0
  · have e0 : (turn == 0) = true := by simpa using htz
    go_enter Try.func8, Try.ntmps8
    go_wp2_with fail
    refine (awake_any _).mono ?_
    rintro e w1 ⟨rfl, hb1⟩
    have Hb1 := Lib.hid hb1
    clear hb1
    go_wp2_with fail
    refine (awake_any _).mono ?_
    rintro e w2 ⟨rfl, hb2⟩
    have Hb2 := Lib.hid (Hb1.out.trans (hb2.mono Hb1.out.size))
    clear hb2
    go_wp2_with fail
    go_ret
    exact ⟨rfl, Hb2.out⟩
  have e0 : (turn == 0) = false := by simpa using htz
  by_cases h12 : 12 < T.length
  · go_enter Try.func8, Try.ntmps8
    go_wp2_with fail
    refine (awake_any _).mono ?_
    rintro e w1 ⟨rfl, hb1⟩
    have Hb1 := Lib.hid hb1
    clear hb1
    go_wp2_with fail
    refine (awake_any _).mono ?_
    rintro e w2 ⟨rfl, hb2⟩
    have Hb2 := Lib.hid (Hb1.out.trans (hb2.mono Hb1.out.size))
    clear hb2
    go_wp2_with fail
    go_ret
    exact ⟨rfl, Hb2.out⟩
  have hTl : T.length ≤ 1048576 := by omega
  go_enter Try.func8, Try.ntmps8
  go_wp2_with fail
  refine (awake_any _).mono ?_
  rintro e w1 ⟨rfl, hb1⟩
  have Hb1 := Lib.hid hb1
  clear hb1
  go_wp2_with fail
  go_loopw [7, 8, 10, 11, 12, 35] (fun bv ev _ _ _ i wr => ∃ k : Nat, k ≤ T.length ∧ i = .int .i64 k ∧ Hid (Two w wr bv ev (ps.take k)) ∧ Hid (∀ x ∈ ps.take k, x.2.length ≤ 2000) ∧ Hid (Below w.heap.size w wr)) (fun _ _ _ _ _ i _ => T.length - (intOf i).toNat)
  case atStart => exact ⟨0, by omega, rfl, Lib.hid (by simpa using Two.nil w _), Lib.hid (by simp), Hb1⟩
  case round =>
    obtain ⟨k, hk, rfl, Hm, Hs, Hb⟩ := hrel
    by_cases hlt : k < T.length
    · obtain ⟨x, hx⟩ : ∃ x, T[k]? = some x := ⟨T[k], List.getElem?_eq_getElem hlt⟩
      obtain ⟨bb, o, rfl, c1, c2⟩ := Hcell.out k x hx
      have lb := World.block_lt_of_cell? w _ c1
      have px := plain_get T k x hx
      rw [HT.out] at px
      have Hnext : Hid (ps.take (k + 1) = ps.take k ++ [(x.1, x.2.2)]) := Lib.hid (by
        obtain ⟨h1, h2⟩ := List.getElem?_eq_some_iff.1 px
        rw [List.take_succ_eq_append_getElem h1, h2])
      have c1' : wr.cell? ⟨bb, o + k * 2, none⟩ = some (.int .u8 (x.1.toNat : Int)) := (Hb.out.cell (p := ⟨bb, o + k * 2, none⟩) lb).trans c1
      have c2' : wr.cell? ⟨bb, o + k * 2 + 1, none⟩ = some x.2.1 := (Hb.out.cell (p := ⟨bb, o + k * 2 + 1, none⟩) lb).trans c2
      have Hx := Lib.hid (Hbod.out x (List.mem_of_getElem? hx))
      generalize x.2.2 = bo at *
      generalize x.2.1 = xv at *
      generalize x.1 = kk at *
      obtain ⟨xa, xc, rfl, hxc, hxb, -, -⟩ := Hx.out.open
      unfold maxLen at hxb
      clear c1 c2 hx px
      by_cases hbo : bo.length ≤ 2000
      · have Hs2 : Hid (∀ x ∈ ps.take (k + 1), x.2.length ≤ 2000) := Lib.hid (by
          rw [Hnext.out]
          intro y hy
          rcases List.mem_append.1 hy with hy | hy
          · exact Hs.out y hy
          · simp at hy; subst hy; exact hbo)
        have hjl := Fr.joined_len (ps.take k) Hs.out
        have htl : (ps.take k).length ≤ k := List.length_take_le _ _
        have Hkl : Hid ((ps.take (k + 1)).length = (ps.take k).length + 1) := Lib.hid (by rw [Hnext.out]; simp)
        go_wp2_with fail
        have hr : Rd8 (wr.alloc (.cells #[.int .u8 (kk.toNat : Int), .slice xa bo.length xc] 48)) (.slice xa bo.length xc) bo := Hx.out.below ((Hb.out.alloc Hb.out.size _))
        refine (seal_ok kk _ bo _ hr (by omega)).mono ?_
        clear hr
        rintro e w2 ⟨fv, rfl, hm1, hb1⟩
        have hsl := Fr.sealed_len kk bo
        have Hf := Lib.hid hm1.rd
        have Hm1 := Lib.hid ((Hm.out.alloc (.cells #[.int .u8 (kk.toNat : Int), .slice xa bo.length xc] 48)).below hb1)
        have Hb2 := Lib.hid ((Hb.out.alloc Hb.out.size (.cells #[.int .u8 (kk.toNat : Int), .slice xa bo.length xc] 48)).trans (hb1.mono (by have := Hb.out.size; simp; omega)))
        clear hm1 hb1 Hm Hb c1' c2' Hs
        go_wp2_with (at_builtin; apply Hold.mk)
        unfold Hold
        refine wpList_app8 rfl _ _ 23 rfl ok23 (by rfl) (by rfl) Hm1.out.1.own Hf.out (by omega) ?_
        intro v3 w3 ho3 hg3 hn3
        have hm3 : Mine8 5 w w3 v3 (Fr.joined (ps.take k) ++ Fr.sealed kk bo) := ⟨ho3, fun b hb => (hn3 b hb).elim (Hm1.out.1.2 b) fun h => Nat.le_trans Hb2.out.size h⟩
        have hjn : Fr.joined (ps.take (k + 1)) = Fr.joined (ps.take k) ++ Fr.sealed kk bo := by rw [Hnext.out, Fr.joined_append]; simp [Fr.joined]
        have Hm3 : Hid (Mine8 5 w w3 v3 (Fr.joined (ps.take (k + 1)))) := Lib.hid (by rw [hjn]; exact hm3)
        have hjl3 : (Fr.joined (ps.take (k + 1))).length ≤ 1048576 := by rw [hjn, List.length_append]; omega
        have Hb3 := Lib.hid (Hb2.out.grown hg3 Hb2.out.size fun k hk => Hm1.out.1.2 k hk)
        have He3 := Lib.hid (Hm1.out.bytes hg3 hn3)
        clear ho3 hg3 hn3 hm3 hjn Hm1 Hb2 Hf
        obtain ⟨ba, bc, rfl, hbc, hbb, -, -⟩ := Hm3.out.rd.open
        unfold maxLen at hbb
        go_wp2_with (at_builtin; apply Hold.mk)
        unfold Hold
        have Hrow : Hid (RdRow 1 (w3.alloc (.cells #[.int .i64 ((Fr.joined (ps.take (k + 1))).length : Int)] 3)) (.slice (some ⟨w3.heap.size, 0, none⟩) 1 1) 1 [.int .i64 ((Fr.joined (ps.take (k + 1))).length : Int)]) :=
          Lib.hid (own_lit w3 3 1 #[.int .i64 ((Fr.joined (ps.take (k + 1))).length : Int)] 1 (by simp [maxLen]) rfl).rd
        refine wpList_app rfl _ _ 46 rfl ok46 (by rfl) (by rfl) (He3.out.1.below' (below_alloc w3 _)) Hrow.out (by simp [Value.oneCell']) (by simp only [maxLen]; omega) (by omega) ?_
        intro v5 w5 ho5 hg5 hn5
        have hend : Fr.ends (ps.take (k + 1)) = Fr.ends (ps.take k) ++ [.int .i64 ((Fr.joined (ps.take (k + 1))).length : Int)] := by rw [Hnext.out, Fr.ends_snoc]
        rw [← hend, ← Hkl.out] at ho5
        have Hb4 := Lib.hid (Hb3.out.alloc Hb3.out.size (.cells #[.int .i64 ((Fr.joined (ps.take (k + 1))).length : Int)] 3))
        have H5 := Lib.hid (Two.ends Hm3.out He3.out.1 He3.out.2 (below_alloc w3 _) Hb4.out.size ho5 hg5 hn5)
        have Hb5 := Lib.hid (Hb4.out.grown hg5 Hb4.out.size fun k hk => (He3.out.2 k hk).1)
        clear ho5 hg5 hn5 hend Hm3 He3 Hb3 Hb4 Hrow
        go_wp2_with fail
        go_roundw
        case rel => exact ⟨k + 1, by omega, by go_num, H5, Hs2, Hb5⟩
        case measure => simp [intOf]; omega
      · go_wp2_with fail
        go_ret
        exact ⟨rfl, Hb.out.alloc Hb.out.size _⟩
    · obtain rfl : k = T.length := by omega
      have hpl : ps.length = T.length := by rw [← HT.out, plain_len]
      rw [List.take_of_length_le (Nat.le_of_eq hpl)] at Hm Hs
      have hjl := Fr.joined_len ps Hs.out
      obtain ⟨ba, bc, rfl, hbc, hbb, -, -⟩ := Hm.out.1.rd.open
      unfold maxLen at hbb
      by_cases hz : Fr.joined ps = []
      · rw [hz]
        go_wp2_with fail
        go_ret
        exact ⟨rfl, Hb.out⟩
      have hpos : 0 < (Fr.joined ps).length := List.length_pos_iff.2 hz
      have Hjl := Lib.hid hjl
      clear hjl
      have e1 : (((Fr.joined ps).length : Int) == 0) = false := by simpa using hz
      obtain ⟨i, hi, hie⟩ : ∃ i : Nat, i < (Fr.joined ps).length ∧ wrap64 ((IntKind.u64.wrap at_).tmod ((Fr.joined ps).length : Int)) = (i : Int) := by
        have h0 := wrap_u64_nonneg at_
        have h1 := Int.emod_nonneg (IntKind.u64.wrap at_) (b := ((Fr.joined ps).length : Int)) (by omega)
        have h2 := Int.emod_lt_of_pos (IntKind.u64.wrap at_) (b := ((Fr.joined ps).length : Int)) (by omega)
        have h3 := Hjl.out
        rw [Int.tmod_eq_emod_of_nonneg h0]
        refine ⟨((IntKind.u64.wrap at_) % ((Fr.joined ps).length : Int)).toNat, by omega, ?_⟩
        rw [IntWalk.wrap64_in _ ⟨by omega, by omega⟩]
        omega
      obtain ⟨t, rfl⟩ : ∃ t : UInt8, turn = (t.toNat : Int) := ⟨UInt8.ofNat turn.toNat, by rw [UInt8.toNat_ofNat', Nat.mod_eq_of_lt (by omega)]; omega⟩
      obtain ⟨g, rfl, hg0, c1, f1, hset⟩ := Hm.out.1.place i hi
      have hz1 : (Fr.joined ps)[i]? = some (Fr.joined ps)[i] := List.getElem?_eq_getElem hi
      generalize (Fr.joined ps)[i] = z at *
      have hzt : z ^^^ t ≠ z := by
        intro h
        have h2 := congrArg (fun x => z ^^^ x) h
        simp only [← UInt8.xor_assoc, UInt8.xor_self, UInt8.zero_xor] at h2
        subst h2
        exact htz (by decide)
      have hx : bits .xor .u8 (z.toNat : Int) (t.toNat : Int) = ((z ^^^ t).toNat : Int) := by rw [u8_xor_nat _ _ z.toNat_lt t.toNat_lt, UInt8.toNat_xor]
      generalize z ^^^ t = y at *
      obtain ⟨A, x, B, hAB, hA1, hA2⟩ := Fr.joined_split ps i hi
      have Hset := Lib.hid (hset y)
      have Hz1 := Lib.hid hz1
      have HAB := Lib.hid hAB
      have hpl2 := HAB.out ▸ hpl
      clear hset hz1 hAB
      generalize hn : (Fr.joined ps).length = n at *
      have Hn := Lib.hid hn
      clear hn
      have hi0 : (0 : Int) ≤ (i : Int) := by omega
      have hi1 : (i : Int) < (n : Int) := by omega
      have hae : A.length < ps.length := by rw [HAB.out]; simp
      have Hown : Hid (Own 3 1 (wr.setCell ⟨g, i, none⟩ (.int .u8 (y.toNat : Int))) u8 ps.length (Fr.ends ps) ∧ ∀ b, u8.ownBlock = some b → w.heap.size ≤ b) :=
        Lib.hid ⟨Hm.out.2.1.keep fun b hb => heap_setCell_other wr ⟨g, i, none⟩ b _ (fun h => (Hm.out.2.2 b hb).2 (by rw [h]; rfl)), fun b hb => (Hm.out.2.2 b hb).1⟩
      have Hb2 := Lib.hid (Hb.out.setCell (p := ⟨g, i, none⟩) hg0 (.int .u8 (y.toNat : Int)))
      obtain ⟨-, ea, ec, rfl, hec, hecm, -, hends⟩ := Hown.out.1.rd
      have Hends : Hid (∀ h, h < ps.length → ∃ b o, ea = some ⟨b, o, none⟩ ∧ (wr.setCell ⟨g, i, none⟩ (.int .u8 (y.toNat : Int))).cell? ⟨b, o + h, none⟩ = some (.int .i64 ((Fr.joined (ps.take (h + 1))).length : Int))) :=
        Lib.hid (fun h hh => hends h _ (Fr.ends_get ps h hh))
      unfold maxLen at hecm
      have Hjn := Lib.hid (Fr.joined_len ps Hs.out)
      clear hends hpl2
      go_wp2_with fail
      rw [hie]
      clear hie c1 f1 hx
      generalize (wr.setCell ⟨g, i, none⟩ (.int .u8 (y.toNat : Int))) = w2 at *
      go_loop [13, 14] (fun u13 u14 => ∃ h : Nat, h ≤ A.length ∧ u13 = .int .i64 h ∧ u14 = .int .i64 ((Fr.joined (A.take h)).length : Int)) (fun u13 _ => A.length - (intOf u13).toNat)
      case atStart => exact ⟨0, by omega, rfl, rfl⟩
      case round =>
        obtain ⟨h, hh, rfl, rfl⟩ := hrel
        obtain ⟨eb, eo, rfl, c3⟩ := Hends.out h (by omega)
        by_cases hlt2 : h < A.length
        · have h3 := Fr.ends_le A B x h hlt2
          have h4 : Hid ((Fr.joined (ps.take (h + 1))).length = (Fr.joined (A.take (h + 1))).length) := Lib.hid (by rw [HAB.out, List.take_append_of_le_length (by omega)])
          rw [← HAB.out] at h3
          rw [h4.out] at c3 h3
          have hd : decide (((Fr.joined (A.take (h + 1))).length : Int) ≤ (i : Int)) = true := by simp only [decide_eq_true_eq]; omega
          go_wp2_with fail
          go_round
          case rel => exact ⟨h + 1, by omega, by go_num, rfl⟩
          case measure => simp [intOf]; omega
        · obtain rfl : h = A.length := by omega
          have h3 := Fr.ends_hit A B x
          rw [← HAB.out] at h3
          rw [h3, Int.natCast_add] at c3
          rw [List.take_length]
          have hx9 : x.2.length ≤ 2000 := Hs.out x (by rw [HAB.out]; simp)
          have hsl := Fr.sealed_len x.1 x.2
          have hja := Fr.joined_len A (fun y hy => Hs.out y (by rw [HAB.out]; simp [hy]))
          have hd : decide (((Fr.joined A).length : Int) + ((Fr.sealed x.1 x.2).length : Int) ≤ (i : Int)) = false := by simp only [decide_eq_false_iff_not]; omega
          have hlen2 : ((Fr.joined ps).set i y).length = n := by rw [List.length_set]; exact Hn.out
          have hsc := Fr.scan_turned A B x i y hA1 hA2 (fun y hy => Hs.out y (by rw [HAB.out]; simp [hy]))
          have hop := Fr.open_turned A B x i y z hA1 hA2 hx9 (by rw [← HAB.out]; exact Hz1.out) hzt
          rw [← HAB.out] at hsc hop
          have hjn := Hjl.out
          have Hop := Lib.hid hop
          have Hl2 := Lib.hid hlen2
          clear hop
          generalize (Fr.joined ps).set i y = bb at *
          clear Hm Hz1 hlen2
          go_wp2_with fail
          refine (scan_any _ _ _ Hset.out.rd (by rw [Hl2.out]; omega)).mono ?_
          rintro e w3 ⟨v3, rfl, hp3, hb3⟩
          obtain ⟨hsl1, hsl2⟩ := hsc
          generalize Fr.scan bb = sc at *
          have Hp3 := Lib.hid hp3.rd
          have Hb3 := Lib.hid (Hb2.out.trans (hb3.mono Hb2.out.size))
          have Ho3 := Lib.hid (Hown.out.1.below' hb3)
          have Hs3 := Lib.hid (Hset.out.below hb3)
          clear hp3 hb3 Hset Hown Hends
          obtain ⟨ra, rc, rfl, hr1, hr2⟩ := Hp3.out.form
          have d1 : decide ((sc.1.length : Int) < (A.length : Int)) = false := by simp only [decide_eq_false_iff_not]; omega
          have d2 : decide (sc.1.length < A.length) = false := by simp only [decide_eq_false_iff_not]; omega
          obtain ⟨v4, e4, h4⟩ := pcs_hi_run ok38 A.length Hp3.out hsl1
          obtain ⟨v5, e5, h5⟩ := pcs_hi_run ok41 A.length H1.out (by omega)
          have H4 : Hid (RdPcs w3 v4 A) := Lib.hid (by have := h4 _ _ Hp3.out; rwa [hsl2] at this)
          have H5 : Hid (RdPcs w v5 A) := Lib.hid (by have := h5 _ _ H1.out; rwa [HAB.out, List.take_left] at this)
          clear h4 h5 hsl2
          go_wp2_with fail
          go_region_held3 (fun _ => True) (trivial)
            (first
            | (go_at_call 20; refine (from_any v4 A _ ?_ (by omega)).mono ?_; (first | exact H4.out | exact H4.out.below (below_drewN _ _)); rintro e w4 ⟨v6, rfl, hp4, hb4⟩)
            | (go_at_call 19; refine (same_any v6 v5 A A _ ?_ ?_).mono ?_; exact hp4; exact H5.out.below (Hb3.out.drew.trans (hb4.mono Hb3.out.size)); rw [decide_eq_true rfl]; rintro e w5 ⟨rfl, hb5⟩))
          have hb5' : Below w3.heap.size w3.drew w5 := hb4.trans (hb5.mono hb4.size)
          have Hb5 := Lib.hid (Hb3.out.drew.trans (hb5'.mono Hb3.out.size))
          have H8 : Hid (Rd8 w5 (.slice (some ⟨g, 0, none⟩) n bc) bb) := Lib.hid (Hs3.out.rd.below (w := w3) (w' := w5) (below_undrew hb5'))
          have ho5 := Ho3.out.below' (below_undrew hb5')
          have c5 : w5.cell? ⟨eb, eo + A.length, none⟩ = some (.int .i64 (((Fr.joined A).length : Int) + ((Fr.sealed x.1 x.2).length : Int))) := by
            obtain ⟨-, a9, c9, he9, -, -, -, h9⟩ := ho5.rd
            obtain ⟨b2, o2, he2, hc2⟩ := h9 A.length _ (Fr.ends_get ps A.length (by omega))
            injection he9 with he9
            rw [he2] at he9
            injection he9 with he9
            injection he9 with e1 e2
            rw [e1, e2, hc2, h3, Int.natCast_add]
          have l5 := World.block_lt_of_cell? w5 _ c5
          clear hp4 hb4 hb5 hb5' Hs3 Ho3 Hb3 c3 Hp3 H4 H5 e4 e5 ho5
          go_wp2_with (with_reducible refine hold_slice ?_)
          unfold Hold
          refine wpList_cut8_lo ok23 bb (Fr.joined A).length rfl rfl rfl H8.out (by rw [Hl2.out]; omega) ?_
          intro v8 h8
          have H9 := Lib.hid h8
          clear h8
          go_wp2_with fail
          refine (open_any _ _ _ H9.out).mono ?_
          rintro e w6 ⟨pv, rfl, -, hb6⟩
          generalize Fr.opened (bb.drop (Fr.joined A).length) = r at *
          have c6 : w6.cell? ⟨eb, eo + A.length, none⟩ = some (.int .i64 (((Fr.joined A).length : Int) + ((Fr.sealed x.1 x.2).length : Int))) := (hb6.cell (p := ⟨eb, eo + A.length, none⟩) l5).trans c5
          have Hb6 := Lib.hid (Hb5.out.trans (hb6.mono Hb5.out.size))
          clear hb6 c5
          by_cases her : r.err = 0
          · have hu : r.used ≠ (Fr.sealed x.1 x.2).length := Hop.out.resolve_left (fun h => h her)
            rw [her]
            have hd5 : ((r.used : Int) != ((Fr.joined A).length : Int) + (9 + (x.2.length : Int)) - ((Fr.joined A).length : Int)) = true := by rw [bne_iff_ne]; omega
            clear her
            go_wp2_with fail
            go_ret
            exact ⟨rfl, Hb6.out⟩
          · have hd5 : ((r.err : Int) != 0) = true := by rw [bne_iff_ne]; omega
            clear her
            go_wp2_with fail
            go_ret
            exact ⟨rfl, Hb6.out⟩
end Go.Proofs.Ytkanagmjnndodaa
