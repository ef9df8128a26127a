/- read (22). -/
import Derived.Test.YtokmiphgalpahaaV2
import Derived.Deep.CutBlock
import Derived.Deep.DeepCutAuto
namespace Go.Proofs.Ytokmiphgalpahaa
open Go.RowKit Go.Kt
set_option maxRecDepth 100000
variable {w w' w0 W : World}

/-- what read hands out -/
def ReadIs (w w' : World) (o : Option Std) (e : Ending) : Prop := match o with
  | none => e = .returned (.tuple #[.slice none 0 0, .slice none 0 0, .int .i64 0, .bool false])
  | some s => ∃ pv rv, e = .returned (.tuple #[pv, rv, .int .i64 (s.used : Int), .bool true]) ∧ Mine8 5 w w' pv s.base ∧ OwnBs (fun x => w.heap.size ≤ x) w' rv s.recs
theorem bne_u8 (k : UInt8) (n : Nat) (hn : n < 256) (z : Int) (hz : z = n) : ((k.toNat : Int) != z) = (k != UInt8.ofNat n) := by
  subst hz
  have h1 : (UInt8.ofNat n).toNat = n := by simp; omega
  by_cases h : k = UInt8.ofNat n
  · subst h
    rw [h1]
    simp
  · have h2 : k.toNat ≠ n := fun e => h (by rw [← e]; simp)
    have h3 : (k != UInt8.ofNat n) = true := by simpa using h
    rw [h3]
    simp only [bne_iff_ne]
    omega
theorem beq_u8 (k : UInt8) (n : Nat) (hn : n < 256) (z : Int) (hz : z = n) : ((k.toNat : Int) == z) = (k == UInt8.ofNat n) := by
  have := bne_u8 k n hn z hz
  simp only [bne] at this
  simpa using this
theorem pcs_nil {w : World} {v : Value} (h : Fm.RdPcs w v []) : ∃ cap, v = .slice none 0 cap ∨ ∃ a, v = .slice a 0 cap := by
  obtain ⟨a, cap, rfl, _⟩ := h.form
  exact ⟨cap, .inr ⟨a, rfl⟩⟩
set_option maxHeartbeats 4000000 in
theorem read_any (v : Value) (b : List UInt8) (w : World) (hv : Rd8 w v b) (hb : b.length ≤ 1000000000) :
    Calls Try.prog 22 #[v] w fun e w' => ReadIs w w' (standsW b) e ∧ Below w.heap.size w w' := by
  have hsw := scan_weigh b.length b (Nat.le_refl _)
  have HW : Hid (weigh (Fm.Fr.scan b).1 ≤ 1000000000 ∧ ∀ p ∈ (Fm.Fr.scan b).1, p.2.length ≤ 1048576) := Lib.hid ⟨by omega, hsw.2⟩
  have HS : Hid (Calls Try.prog 49 #[v] w fun e w' => ∃ v', e = .returned (.tuple #[v', .int .i64 ((Fm.Fr.scan b).2 : Int)]) ∧ Fm.OwnPcs 100 w w' v' (Fm.Fr.scan b).1 ∧ Below w.heap.size w w') := Lib.hid (Fm.scan_any v b w hv hb)
  have Hst : Hid (standsW b = standsL (Fm.Fr.scan b).1) := Lib.hid rfl
  generalize (Fm.Fr.scan b).1 = ps at *
  generalize (Fm.Fr.scan b).2 = un at *
  clear hsw hv hb
  go_enter Try.func22, Try.ntmps22
  go_wp2_with fail
  go_step3
  go_wp2_with fail
  refine HS.out.mono ?_
  rintro e w1 ⟨v1, rfl, ⟨T, hT, hO, hB, hM⟩, hb1⟩
  have HB1 := Lib.hid hb1
  obtain ⟨a, cap, rfl, hcap, hbig, hcell⟩ := Fm.rdPcs_open hO.rd
  have HO := Lib.hid hO
  have HM := Lib.hid hM
  have HC := Lib.hid hcell
  clear hcell hO hM hb1
  unfold maxLen at hbig
  cases T with
  | nil =>
    have hps : ps = [] := by rw [← hT]; rfl
    subst hps
    go_wp2_with fail
    rw [Exit.noGoto_ret]
    try simp only [Exit.inBlock, Exit.then]
    refine bodyPost_ret (results_tmp4 rfl _ _ _) rfl ?_
    rw [Hst.out]
    exact ⟨rfl, HB1.out⟩
  | cons x0 T =>
    have hps : ps = (x0.1, x0.2.2) :: Fm.plain T := by rw [← hT]; rfl
    subst hps
    obtain ⟨bb, o, rfl, c1, c2⟩ := HC.out 0 x0 rfl
    have lb := World.block_lt_of_cell? w1 _ c1
    simp only [Nat.zero_mul, Nat.add_zero] at c1 c2
    have hn0 : (0 : Int) < ((T.length + 1 : Nat) : Int) := by omega
    simp only [List.length_cons] at hcap hbig HO ⊢
    have HX0 := Lib.hid (HM.out x0 (by simp))
    have hxl := HW.out.2 (x0.1, x0.2.2) (by simp)
    have HU : Hid (9 + x0.2.2.length + (tailF false (Fm.plain T)).2.1 ≤ 1000000000 ∧ T.length ≤ 1000000000) := Lib.hid (by
      have h1 := HW.out.1
      have h2 := (tailF_le false (Fm.plain T)).1
      have h3 := scan_len (Fm.plain T)
      rw [weigh_cons] at h1
      rw [Fm.plain_len] at h3
      simp only at h1
      omega)
    have HL : Hid (∀ y ∈ T, y.2.2.length ≤ 1048576) := Lib.hid (fun y hy => HW.out.2 (y.1, y.2.2) (by simp only [Fm.plain, List.mem_cons, List.mem_map]; exact .inr ⟨y, hy, rfl⟩))
    have hne := bne_u8 x0.1 2 (by omega) 2 rfl
    by_cases hk : x0.1 = 2
    · rw [show (x0.1 != UInt8.ofNat 2) = false by rw [hk]; rfl] at hne
      obtain ⟨xa, xc, hxv, hxc, hxb, -, -⟩ := HX0.out.rd.open
      rw [hxv] at c2 HX0
      unfold maxLen at hxb
      go_wp2_with fail
      refine (sealed_any 2 _ x0.2.2 _ HX0.out.rd hxl).mono ?_
      rintro e w2 ⟨sv, rfl, hm2, hb2⟩
      obtain ⟨sa, sc, rfl, hsc, hsb, -, -⟩ := hm2.rd.open
      unfold maxLen at hsb
      have hsl := Fm.Fr.sealed_len 2 x0.2.2
      have HB2 := Lib.hid (bel_trans HB1.out hb2)
      have HR : Hid (RdRow 2 w2 (.slice (some ⟨bb, o, none⟩) (T.length + 1) cap) (T.length + 1) (Fm.cellsOf (x0 :: T))) := Lib.hid (HO.out.rd.below hb2)
      have HB21 := Lib.hid hb2
      clear hm2 hb2
      go_wp2_with fail
      go_step3
      go_wp2_with (with_reducible refine hold_slice ?_)
      unfold Hold
      refine wpList_cut_lo' Fm.ok38 rfl 1 rfl rfl rfl HR.out (by omega) ?_
      intro tv htv
      have hr2 := htv w2 _ HR.out
      rw [(Fm.cellsOf_cut (x0 :: T) 1).2] at hr2
      simp only [List.drop_succ_cons, List.drop_zero, Nat.add_sub_cancel] at hr2
      obtain ⟨ta, tc, rfl, htc, htb, hcell2⟩ := Fm.rdPcs_open hr2
      have HC2 := Lib.hid hcell2
      unfold maxLen at htb
      clear htv hcell2 hr2
      go_upto_block 0 with (fail)
      go_cut [3, 4, 5] (fun rv uv ov wc => ∃ (recs : List (List UInt8)) (u : Nat) (ok : Bool), uv = .int .i64 u ∧ ov = .bool ok ∧ Hid (OwnBs (fun x => w.heap.size ≤ x) wc rv recs) ∧ Hid ((tailF false (Fm.plain T)).1 = recs ∧ 9 + x0.2.2.length + (tailF false (Fm.plain T)).2.1 = u ∧ (tailF false (Fm.plain T)).2.2 = ok) ∧ Hid (Below w2.heap.size w2 wc))
      case first =>
        go_wp2_with fail
        go_loopw [3, 4, 5, 9, 34] (fun rv uv ov _ iv wr => ∃ (k : Nat) (recs : List (List UInt8)) (u : Nat) (ok : Bool), k ≤ T.length ∧ uv = .int .i64 u ∧ ov = .bool ok ∧ iv = .int .i64 k ∧ recs.length ≤ k ∧ Hid (OwnBs (fun x => w.heap.size ≤ x) wr rv recs) ∧ Hid (∀ x, rv.ownBlock = some x → w2.heap.size ≤ x) ∧
          Hid ((tailF false (Fm.plain T)).1 = recs ++ (tailF ok ((Fm.plain T).drop k)).1 ∧ 9 + x0.2.2.length + (tailF false (Fm.plain T)).2.1 = u + (tailF ok ((Fm.plain T).drop k)).2.1 ∧ (tailF false (Fm.plain T)).2.2 = (tailF ok ((Fm.plain T).drop k)).2.2) ∧ Hid (Below w2.heap.size w2 wr)) (fun _ _ _ _ iv _ => T.length - (intOf iv).toNat)
        case atStart => exact ⟨0, [], 9 + x0.2.2.length, false, by omega, by go_num, rfl, rfl, by simp, Lib.hid (ownBs_nil _ _), Lib.hid (fun x hx => by cases hx), Lib.hid ⟨by simp, by simp, by simp⟩, Lib.hid (Below.refl _ _)⟩
        case round =>
          obtain ⟨k, recs, u, ok, hk, rfl, rfl, rfl, hrl, HR3, HG3, HS3, HB3⟩ := hrel
          by_cases hlt : k < T.length
          · obtain ⟨y, hy⟩ : ∃ y, T[k]? = some y := ⟨T[k], List.getElem?_eq_getElem hlt⟩
            obtain ⟨bb2, o2, rfl, c1, c2⟩ := HC2.out k y hy
            have lb2 := World.block_lt_of_cell? w2 _ c1
            have c1' : wr.cell? ⟨bb2, o2 + k * 2, none⟩ = some (.int .u8 (y.1.toNat : Int)) := (HB3.out.cell (p := ⟨bb2, o2 + k * 2, none⟩) lb2).trans c1
            have c2' : wr.cell? ⟨bb2, o2 + k * 2 + 1, none⟩ = some y.2.1 := (HB3.out.cell (p := ⟨bb2, o2 + k * 2 + 1, none⟩) lb2).trans c2
            have Hdr : Hid ((Fm.plain T).drop k = (y.1, y.2.2) :: (Fm.plain T).drop (k + 1)) := Lib.hid (by
              obtain ⟨h1, h2⟩ := List.getElem?_eq_some_iff.1 (Fm.plain_get T k y hy)
              rw [List.drop_eq_getElem_cons h1, h2])
            have HY : Hid (In8 (fun x => w.heap.size ≤ x) w1 y.2.1 y.2.2) := Lib.hid ((in8_mine (HM.out y (by simp [List.mem_of_getElem? hy]))).more (fun x hx _ => hx.1))
            have hyl := HL.out y (List.mem_of_getElem? hy)
            have HY2 := Lib.hid (HY.out.next HB21.out)
            have HYr := Lib.hid (HY2.out.next HB3.out)
            have hsz : w.heap.size ≤ wr.heap.size := by have := HB2.out.size; have := HB3.out.size; omega
            have hsz2 : w2.heap.size ≤ wr.heap.size := HB3.out.size
            generalize y.2.2 = bo at *
            generalize y.2.1 = yv at *
            generalize y.1 = kk at *
            obtain ⟨ya, yc, rfl, hyc, hyb, -, -⟩ := HYr.out.rd.open
            unfold maxLen at hyb
            have hU := HU.out
            have hl := Fm.Fr.sealed_len kk bo
            clear c1 c2 HY hy
            by_cases h1 : kk = 1
            · subst h1
              have d1 : wr.cell? ⟨bb2, o2 + k * 2, none⟩ = some (.int .u8 1) := c1'
              clear c1'
              have HSt : Hid (tailF ok ((Fm.plain T).drop k) = (bo :: (tailF ok ((Fm.plain T).drop (k + 1))).1, 9 + bo.length + (tailF ok ((Fm.plain T).drop (k + 1))).2.1, (tailF ok ((Fm.plain T).drop (k + 1))).2.2)) := Lib.hid (by rw [Hdr.out, tailF, if_pos rfl])
              have hu := HS3.out.2.1
              rw [HSt.out] at hu
              simp only at hu
              go_wp2_with (at_builtin; apply Hold.mk)
              unfold Hold
              refine wpList_app_bs (K := fun x => w.heap.size ≤ x) rfl _ _ 24 rfl ok24 (by rfl) (by rfl) (by simp) (HR3.out.next (below_alloc wr _)) (HYr.out.next (below_alloc wr _)) (by omega) ?_
              intro v5 w5 ho5 ht5 hn5
              have hs5 := ht5.size
              simp only [World.size_alloc] at hs5
              have HB5 : Hid (Below w2.heap.size w2 w5) := Lib.hid ((HB3.out.alloc HB3.out.size _).trans (ht5.bel (by simp; omega) HG3.out))
              have HR5 : Hid (OwnBs (fun x => w.heap.size ≤ x) w5 v5 (recs ++ [bo])) := Lib.hid (ho5.more (fun x hx _ => by
                rcases hx with h | h
                · exact h
                · have := h.1; simp at this; omega))
              have HG5 : Hid (∀ x, v5.ownBlock = some x → w2.heap.size ≤ x) := Lib.hid (fun x hx => by
                rcases hn5 x hx with h | h
                · exact HG3.out x h
                · simp at h; omega)
              have HP5 : Hid (Blk w5 wr.heap.size #[.int .u8 1, .slice ya bo.length yc] 100) := Lib.hid (blkT (Blk.new wr _ 100) ht5 (fun hx => by
                obtain ⟨_, _, hO3, _⟩ := HR3.out
                have := Own.lt hO3 _ hx
                omega))
              have p0 := HP5.out.cell 0
              have p1 := HP5.out.cell 1
              have HY5 := Lib.hid (HY2.out.next HB5.out)
              clear ho5 ht5 hn5 HR3 HG3 HYr d1 c2'
              go_wp2_with fail
              refine (sealed_at 1 _ bo w5 HY5.out.rd hyl).mono ?_
              rintro e w6 ⟨sv, rfl, hm6, hb6⟩
              obtain ⟨sa6, sc6, rfl, hsc6, hsb6, -, -⟩ := hm6.rd.open
              unfold maxLen at hsb6
              have HB6 : Hid (Below w2.heap.size w2 w6) := Lib.hid (bel_trans HB5.out hb6)
              have HR6 := Lib.hid (HR5.out.next hb6)
              clear hm6 hb6 HR5 HB5
              go_wp2_with fail
              go_roundw
              case rel =>
                refine ⟨k + 1, recs ++ [bo], u + (9 + bo.length), ok, by omega, by go_num, rfl, by go_num, by simp; omega, HR6, HG5, Lib.hid ?_, HB6⟩
                obtain ⟨q1, q2, q3⟩ := HS3.out
                rw [HSt.out] at q1 q2 q3
                simp only at q1 q2 q3
                refine ⟨by rw [q1, List.append_assoc]; rfl, by omega, q3⟩
              case measure => simp [intOf]; omega
            · by_cases h2 : kk = 3 ∧ ok = false
              · obtain ⟨rfl, rfl⟩ := h2
                have d1 : wr.cell? ⟨bb2, o2 + k * 2, none⟩ = some (.int .u8 3) := c1'
                clear c1' h1
                have HSt : Hid (tailF false ((Fm.plain T).drop k) = ((tailF true ((Fm.plain T).drop (k + 1))).1, 9 + bo.length + (tailF true ((Fm.plain T).drop (k + 1))).2.1, (tailF true ((Fm.plain T).drop (k + 1))).2.2)) := Lib.hid (by rw [Hdr.out, tailF, if_neg (by simp), if_pos (by simp)])
                have hu := HS3.out.2.1
                rw [HSt.out] at hu
                simp only at hu
                have HY5 := Lib.hid (HYr.out.next (below_alloc wr (.cells #[.int .u8 3, .slice ya bo.length yc] 100)))
                go_wp2_with fail
                refine (sealed_at 3 _ bo _ HY5.out.rd hyl).mono ?_
                rintro e w6 ⟨sv, rfl, hm6, hb6⟩
                obtain ⟨sa6, sc6, rfl, hsc6, hsb6, -, -⟩ := hm6.rd.open
                unfold maxLen at hsb6
                have HB6 : Hid (Below w2.heap.size w2 w6) := Lib.hid (bel_trans (HB3.out.alloc HB3.out.size _) hb6)
                have HR6 := Lib.hid ((HR3.out.next (below_alloc wr _)).next hb6)
                clear hm6 hb6 HR3 HB3 d1 c2'
                go_wp2_with fail
                go_roundw
                case rel =>
                  refine ⟨k + 1, recs, u + (9 + bo.length), true, by omega, by go_num, rfl, by go_num, by omega, HR6, HG3, Lib.hid ?_, HB6⟩
                  obtain ⟨q1, q2, q3⟩ := HS3.out
                  rw [HSt.out] at q1 q2 q3
                  simp only at q1 q2 q3
                  exact ⟨q1, by omega, q3⟩
                case measure => simp [intOf]; omega
              · have HSt : Hid (tailF ok ((Fm.plain T).drop k) = ([], 0, ok)) := Lib.hid (by rw [Hdr.out, tailF, if_neg h1, if_neg h2])
                have e1 : ((kk.toNat : Int) == 1) = false := by rw [beq_u8 kk 1 (by omega) 1 rfl]; simpa using h1
                by_cases h3 : kk = 3
                · subst h3
                  have hok : ok = true := by
                    cases ok with
                    | true => rfl
                    | false => exact (h2 ⟨rfl, rfl⟩).elim
                  subst hok
                  have d1 : wr.cell? ⟨bb2, o2 + k * 2, none⟩ = some (.int .u8 3) := c1'
                  clear c1' e1
                  go_wp2_with fail
                  go_meet
                  exact ⟨recs, u, _, rfl, rfl, Lib.hid (HR3.out.next (below_alloc wr _)), Lib.hid (by
                    obtain ⟨q1, q2, q3⟩ := HS3.out
                    rw [HSt.out] at q1 q2 q3
                    simp only [List.append_nil, Nat.add_zero] at q1 q2 q3
                    exact ⟨q1, q2, q3⟩), Lib.hid (HB3.out.alloc HB3.out.size _)⟩
                · have e3 : ((kk.toNat : Int) == 3) = false := by rw [beq_u8 kk 3 (by omega) 3 rfl]; simpa using h3
                  go_wp2_with fail
                  go_meet
                  exact ⟨recs, u, _, rfl, rfl, Lib.hid (HR3.out.next (below_alloc wr _)), Lib.hid (by
                    obtain ⟨q1, q2, q3⟩ := HS3.out
                    rw [HSt.out] at q1 q2 q3
                    simp only [List.append_nil, Nat.add_zero] at q1 q2 q3
                    exact ⟨q1, q2, q3⟩), Lib.hid (HB3.out.alloc HB3.out.size _)⟩
          · obtain rfl : k = T.length := by omega
            go_wp2_with fail
            go_meet
            exact ⟨recs, u, ok, rfl, rfl, HR3, Lib.hid (by
              have h := HS3.out
              rw [List.drop_of_length_le (by simp [Fm.plain])] at h
              simpa [tailF] using h), HB3⟩
      case rest =>
        obtain ⟨recs, u, ok, rfl, rfl, HR, HS4, HBc⟩ := hcut
        have HBw : Hid (Below w.heap.size w wc) := Lib.hid (bel_trans HB1.out (bel_trans HB21.out HBc.out))
        cases ok with
        | false =>
          have Hn : Hid (standsW b = none) := Lib.hid (by
            rw [Hst.out, standsL]
            simp only
            rw [if_pos hk, if_neg (by rw [HS4.out.2.2]; simp)])
          go_wp2_with fail
          rw [Exit.noGoto_ret]
          try simp only [Exit.inBlock, Exit.then]
          refine bodyPost_ret (results_tmp4 rfl _ _ _) rfl ?_
          rw [Hn.out]
          exact ⟨rfl, HBw.out⟩
        | true =>
          have Hn : Hid (standsW b = some ⟨x0.2.2, recs, u⟩) := Lib.hid (by
            rw [Hst.out, standsL]
            simp only
            rw [if_pos hk, if_pos HS4.out.2.2, HS4.out.1, HS4.out.2.1])
          have HXc : Hid (Mine8 5 w wc (.slice xa x0.2.2.length xc) x0.2.2) := Lib.hid ((HX0.out.below HB21.out).below HBc.out)
          have d2 := (HBc.out.cell (p := ⟨bb, o + 1, none⟩) (Nat.lt_of_lt_of_le lb HB21.out.size)).trans ((HB21.out.cell (p := ⟨bb, o + 1, none⟩) lb).trans c2)
          go_wp2_with fail
          rw [Exit.noGoto_ret]
          try simp only [Exit.inBlock, Exit.then]
          refine bodyPost_ret (results_tmp4 rfl _ _ _) rfl ?_
          rw [Hn.out]
          exact ⟨⟨_, _, rfl, HXc.out, HR.out⟩, HBw.out⟩
    · rw [show (x0.1 != UInt8.ofNat 2) = true by simpa using hk] at hne
      have Hn : Hid (standsW b = none) := Lib.hid (by rw [Hst.out, standsL]; simp only; rw [if_neg hk])
      go_wp2_with fail
      try simp only [Exit.inBlock, Exit.then]
      refine bodyPost_ret (results_tmp4 rfl _ _ _) rfl ?_
      rw [Hn.out]
      exact ⟨rfl, HB1.out⟩
end Go.Proofs.Ytokmiphgalpahaa
