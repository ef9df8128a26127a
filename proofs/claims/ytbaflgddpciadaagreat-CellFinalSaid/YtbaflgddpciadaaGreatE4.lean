/- RightBatch (27). twins (88): writes in new memory. same (127): are two batches one? -/
import Derived.Test.YtbaflgddpciadaaGreatE1
import Derived.Test.YtbaflgddpciadaaGreatSE
import Derived.Test.YtbaflgddpciadaaGreatS9
import Derived.Test.YtbaflgddpciadaaGreatI9
set_option linter.unusedVariables false
set_option linter.unusedSimpArgs false
namespace Go.Proofs.YtbaflgddpciadaaGreat
open Go.RowKit Go.Kt Go.Ix Go.Sx Go.Cx
set_option maxRecDepth 100000
def SameK (a b : Wr) : Prop := a.t = b.t ∧ a.st = b.st
def GoodTo (L : List Wr) (k : Nat) : Prop := ∀ (i : Nat) x, i < k → L[i]? = some x → RightW x ∧ ∀ (j : Nat) y, j < i → L[j]? = some y → ¬ SameK y x
def BatchW (L : List Wr) : Prop := 1 ≤ L.length ∧ L.length ≤ 64 ∧ GoodTo L L.length
def FitWs (L : List Wr) : Prop := ∀ m ∈ L, Fit m.st ∧ m.x.size ≤ maxLen
theorem good_next {L : List Wr} {k : Nat} {x : Wr} (h : GoodTo L k) (hx : L[k]? = some x) (hr : RightW x) (hn : ∀ (j : Nat) y, j < k → L[j]? = some y → ¬ SameK y x) : GoodTo L (k + 1) := fun i y hi hy => by
  by_cases e : i = k
  · subst e
    rw [hx] at hy
    injection hy with hy
    subst hy
    exact ⟨hr, hn⟩
  · exact h i y (by omega) hy
set_option maxHeartbeats 4000000 in
theorem rightBatch_any (v : Value) (L : List Wr) (w : World) (hv : RdW w v L) (hf : FitWs L) :
    Calls Tryz.prog 27 #[v] w fun e w' => Says (BatchW L) e ∧ Below w.heap.size w w' := by
  obtain ⟨a, cap, rfl, hcap, hbig, hcell⟩ := hv.open
  have Hcell := Lib.hid hcell
  have HV := Lib.hid hv
  have HF := Lib.hid hf
  clear hcell hv hf
  by_cases h0 : L.length = 0
  · have HN : Hid (¬ BatchW L) := Lib.hid (fun h => by have := h.1; omega)
    rw [h0]
    clear h0 hcap
    go_enter Tryz.func27, Tryz.ntmps27
    go_wp2_with fail
    go_ret
    exact ⟨says_no HN.out, bel_refl w⟩
  by_cases h64 : 64 < L.length
  · have HN : Hid (¬ BatchW L) := Lib.hid (fun h => by have := h.2.1; omega)
    have e0 : ((L.length : Int) == 0) = false := by rw [beq_eq_false_iff_ne]; omega
    have e1 : decide ((64 : Int) < (L.length : Int)) = true := by simp; omega
    clear h0 h64
    go_enter Tryz.func27, Tryz.ntmps27
    go_wp2_with fail
    go_ret
    exact ⟨says_no HN.out, bel_refl w⟩
  have e0 : ((L.length : Int) == 0) = false := by rw [beq_eq_false_iff_ne]; omega
  have e1 : decide ((64 : Int) < (L.length : Int)) = false := by simp; omega
  have HL : Hid (1 ≤ L.length ∧ L.length ≤ 64) := Lib.hid (by omega)
  clear h0 h64
  go_enter Tryz.func27, Tryz.ntmps27
  go_wp2_with fail
  clear e0 e1
  have HG0 : Hid (GoodTo L 0) := Lib.hid (fun i x hi => by omega)
  have HB0 := Lib.hid (bel_refl w)
  go_loopw [17] (fun i wr => ∃ k : Nat, k ≤ L.length ∧ i = .int .i64 k ∧ Hid (GoodTo L k) ∧ Hid (Below w.heap.size w wr)) (fun i _ => L.length - (intOf i).toNat)
  case atStart => exact ⟨0, by omega, rfl, HG0, HB0⟩
  case round =>
    clear HG0 HB0
    obtain ⟨k, hk, rfl, HG, HB⟩ := hrel
    by_cases hlt : k < L.length
    · obtain ⟨x, hx⟩ : ∃ x, L[k]? = some x := ⟨L[k], List.getElem?_eq_getElem hlt⟩
      obtain ⟨b, o, rfl, hbl, c0, c1, c2, c3, c4⟩ := Hcell.out k x hx
      have hfx := HF.out x (List.mem_of_getElem? hx)
      have hvx := HV.out.2 x (List.mem_of_getElem? hx)
      have Hx := Lib.hid hx
      obtain ⟨st, t, kd, n, tx, sv⟩ := x
      obtain ⟨sa, sc, hsv, -⟩ := hvx.open
      simp only at hsv c0 c1 c2 c3 c4 hfx hvx
      subst hsv
      have hB := HB.out
      have d0 : wr.cell? ⟨b, o + k * 5, none⟩ = some (.slice sa st.length sc) := (hB.cell (p := ⟨b, _, none⟩) hbl).trans c0
      have d1 : wr.cell? ⟨b, o + k * 5 + 1, none⟩ = some (.int .i64 t) := (hB.cell (p := ⟨b, _, none⟩) hbl).trans c1
      have d2 : wr.cell? ⟨b, o + k * 5 + 2, none⟩ = some (.int .i64 kd) := (hB.cell (p := ⟨b, _, none⟩) hbl).trans c2
      have d3 : wr.cell? ⟨b, o + k * 5 + 3, none⟩ = some (.int .i64 n) := (hB.cell (p := ⟨b, _, none⟩) hbl).trans c3
      have d4 : wr.cell? ⟨b, o + k * 5 + 4, none⟩ = some (.string tx) := (hB.cell (p := ⟨b, _, none⟩) hbl).trans c4
      have hk1 : (0 : Int) ≤ (k : Int) := by omega
      have hk2 : (k : Int) < (L.length : Int) := by omega
      have HX := Lib.hid (Blk.new wr #[.slice sa st.length sc, .int .i64 t, .int .i64 kd, .int .i64 n, .string tx] 87)
      have HBa := Lib.hid (below_alloc wr (.cells #[.slice sa st.length sc, .int .i64 t, .int .i64 kd, .int .i64 n, .string tx] 87))
      have HVx := Lib.hid hvx
      have HFx := Lib.hid hfx
      clear c0 c1 c2 c3 c4 hB hx hvx hfx
      go_upto_region 6 with fail
      generalize wr.alloc (.cells #[.slice sa st.length sc, .int .i64 t, .int .i64 kd, .int .i64 n, .string tx] 87) = w5 at HX HBa ⊢
      obtain ⟨g, hg⟩ : ∃ g, wr.heap.size = g := ⟨_, rfl⟩
      rw [hg] at HX ⊢
      have HB5 := Lib.hid (bel_trans HB.out HBa.out)
      have x0 : w5.cell? ⟨g, 0, none⟩ = some (.slice sa st.length sc) := HX.out.cell 0
      have x1 : w5.cell? ⟨g, 1, none⟩ = some (.int .i64 t) := HX.out.cell 1
      have x2 : w5.cell? ⟨g, 2, none⟩ = some (.int .i64 kd) := HX.out.cell 2
      have x3 : w5.cell? ⟨g, 3, none⟩ = some (.int .i64 n) := HX.out.cell 3
      have x4 : w5.cell? ⟨g, 4, none⟩ = some (.string tx) := HX.out.cell 4
      obtain ⟨r, hr⟩ : ∃ r, pb (RightW ⟨st, t, kd, n, tx, .slice sa st.length sc⟩) = r := ⟨_, rfl⟩
      have hrc := rightw_any ⟨st, t, kd, n, tx, .slice sa st.length sc⟩ w5 (HVx.out.below HB5.out) HFx.out.1 HFx.out.2
      rw [hr] at hrc
      have HRc := Lib.hid hrc
      have Hr := Lib.hid hr
      unfold wagg at HRc
      simp only at HRc
      have Hlt := Lib.hid hlt
      clear hrc hr d0 d1 d2 d3 d4 hg
      cases r with
      | false =>
        have HN : Hid (¬ BatchW L) := Lib.hid (fun h => of_not_pb Hr.out (h.2.2 k _ Hlt.out Hx.out).1)
        go_wp2_with (first
          | (go_at_call 85; refine HRc.out.mono ?_; rintro e w6 ⟨rfl, hb6⟩; have HB6 := Lib.hid (bel_trans HB5.out hb6); clear hb6)
          | fail)
        go_ret
        exact ⟨says_no HN.out, HB6.out⟩
      | true =>
        have HRt := Lib.hid (of_pb Hr.out)
        go_upto_region 8 with (first
          | (go_at_call 85; refine HRc.out.mono ?_; rintro e w6 ⟨rfl, hb6⟩; have HB6 := Lib.hid hb6; clear hb6)
          | fail)
        clear x0 x1 x2 x3 x4 HRc
        have HX6 := Lib.hid (HX.out.next HB6.out)
        have HB06 := Lib.hid (bel_trans HB5.out HB6.out)
        have hkl : (k : Int) ≤ (L.length : Int) := by omega
        have hkc : (k : Int) ≤ (cap : Int) := by omega
        go_wp2_with fail
        obtain ⟨wo, rfl⟩ : ∃ wo, wo = wr := ⟨_, rfl⟩
        clear hkl hkc
        have HN0 : Hid (∀ (j : Nat) y, j < 0 → L[j]? = some y → ¬ SameK y ⟨st, t, kd, n, tx, .slice sa st.length sc⟩) := Lib.hid (fun j y hj => by omega)
        have HB0 := Lib.hid (bel_refl w6)
        go_loopw [29] (fun i wr => ∃ j : Nat, j ≤ k ∧ i = .int .i64 j ∧ Hid (∀ (j' : Nat) y, j' < j → L[j']? = some y → ¬ SameK y ⟨st, t, kd, n, tx, .slice sa st.length sc⟩) ∧ Hid (Below w6.heap.size w6 wr)) (fun i _ => k - (intOf i).toNat)
        case atStart => exact ⟨0, by omega, rfl, HN0, HB0⟩
        case round =>
          clear HN0 HB0
          obtain ⟨j, hj, rfl, HN, HBj⟩ := hrel
          by_cases hjk : j < k
          · obtain ⟨y, hy⟩ : ∃ y, L[j]? = some y := ⟨L[j]'(by have := Hlt.out; omega), List.getElem?_eq_getElem _⟩
            obtain ⟨b2, o2, e2, hbl2, c0, c1, c2, c3, c4⟩ := Hcell.out j y hy
            injection e2 with e2
            injection e2 with e2 e3
            subst e2 e3
            have hvy := HV.out.2 y (List.mem_of_getElem? hy)
            have hry := (HG.out j y hjk hy).1
            have Hy := Lib.hid hy
            obtain ⟨yst, yt, ykd, yn, ytx, ysv⟩ := y
            obtain ⟨ya, yc, hysv, -⟩ := hvy.open
            simp only at hysv c0 c1 c2 c3 c4 hvy
            subst hysv
            have hB := bel_trans HB06.out HBj.out
            have d0 : wr.cell? ⟨b, o + j * 5, none⟩ = some (.slice ya yst.length yc) := (hB.cell (p := ⟨b, _, none⟩) hbl2).trans c0
            have d1 : wr.cell? ⟨b, o + j * 5 + 1, none⟩ = some (.int .i64 yt) := (hB.cell (p := ⟨b, _, none⟩) hbl2).trans c1
            have d2 : wr.cell? ⟨b, o + j * 5 + 2, none⟩ = some (.int .i64 ykd) := (hB.cell (p := ⟨b, _, none⟩) hbl2).trans c2
            have d3 : wr.cell? ⟨b, o + j * 5 + 3, none⟩ = some (.int .i64 yn) := (hB.cell (p := ⟨b, _, none⟩) hbl2).trans c3
            have d4 : wr.cell? ⟨b, o + j * 5 + 4, none⟩ = some (.string ytx) := (hB.cell (p := ⟨b, _, none⟩) hbl2).trans c4
            have hj1 : (0 : Int) ≤ (j : Int) := by omega
            have hj2 : (j : Int) < (k : Int) := by omega
            have HY := Lib.hid (Blk.new wr #[.slice ya yst.length yc, .int .i64 yt, .int .i64 ykd, .int .i64 yn, .string ytx] 87)
            have HBy := Lib.hid (below_alloc wr (.cells #[.slice ya yst.length yc, .int .i64 yt, .int .i64 ykd, .int .i64 yn, .string ytx] 87))
            have HVy := Lib.hid hvy
            have HRy := Lib.hid hry
            clear c0 c1 c2 c3 c4 hB hy hvy hry
            go_upto_region 11 with fail
            generalize wr.alloc (.cells #[.slice ya yst.length yc, .int .i64 yt, .int .i64 ykd, .int .i64 yn, .string ytx] 87) = w7 at HY HBy ⊢
            obtain ⟨g2, hg2⟩ : ∃ g2, wr.heap.size = g2 := ⟨_, rfl⟩
            rw [hg2] at HY ⊢
            have HB67 := Lib.hid (bel_trans HBj.out HBy.out)
            have hX7 := HX6.out.next HB67.out
            have x0 : w7.cell? ⟨g, 0, none⟩ = some (.slice sa st.length sc) := hX7.cell 0
            have x1 : w7.cell? ⟨g, 1, none⟩ = some (.int .i64 t) := hX7.cell 1
            have y0 : w7.cell? ⟨g2, 0, none⟩ = some (.slice ya yst.length yc) := HY.out.cell 0
            have y1 : w7.cell? ⟨g2, 1, none⟩ = some (.int .i64 yt) := HY.out.cell 1
            have Hj := Lib.hid hjk
            clear hX7 d0 d1 d2 d3 d4 hg2
            by_cases hte : yt = t
            · have hb1 : (yt == t) = true := by simp [hte]
              have HLc := Lib.hid (lcompare_any (.slice ya yst.length yc) (.slice sa st.length sc) yst st w7 (HVy.out.below (bel_trans HB06.out HB67.out)) (HVx.out.below (bel_trans HB06.out HB67.out)) (Nat.le_trans HRy.out.1.1 (by omega)) (Nat.le_trans HRt.out.1.1 (by omega)))
              obtain ⟨z, hz⟩ : ∃ z, cmpS yst st = z := ⟨_, rfl⟩
              rw [hz] at HLc
              by_cases hz0 : z = 0
              · subst hz0
                have HNb : Hid (¬ BatchW L) := Lib.hid (fun h => (h.2.2 k _ Hlt.out Hx.out).2 j _ Hj.out Hy.out ⟨hte, cmpS_zero hz⟩)
                have hzb : ((0 : Int) == 0) = true := rfl
                clear hte hz
                go_wp2_with (first
                  | (go_at_call 86; refine HLc.out.mono ?_; rintro e w8 ⟨rfl, hb8⟩; have HB8 := Lib.hid hb8.b; clear hb8)
                  | fail)
                go_ret
                exact ⟨says_no HNb.out, bel_trans (bel_trans HB06.out HB67.out) HB8.out⟩
              · have hzb : (z == 0) = false := bne_of hz0
                have HNn : Hid (∀ (j' : Nat) y, j' < j + 1 → L[j']? = some y → ¬ SameK y ⟨st, t, kd, n, tx, .slice sa st.length sc⟩) := Lib.hid (fun j' y hj' hy' => by
                  by_cases e : j' = j
                  · subst e
                    rw [Hy.out] at hy'
                    injection hy' with hy'
                    subst hy'
                    exact fun h => hz0 (by rw [← hz]; rw [show yst = st from h.2]; exact cmpS_self st)
                  · exact HN.out j' y (by omega) hy')
                clear hte hz hz0
                go_wp2_with (first
                  | (go_at_call 86; refine HLc.out.mono ?_; rintro e w8 ⟨rfl, hb8⟩; have HB8 := Lib.hid hb8.b; clear hb8)
                  | fail)
                go_roundw
                case rel => exact ⟨j + 1, Hj.out, by have := Hj.out; have := Hlt.out; have := HL.out.2; go_num, HNn, Lib.hid (bel_trans HB67.out HB8.out)⟩
                case measure => have := Hj.out; simp [intOf]; omega
            · have hb1 : (yt == t) = false := bne_of hte
              have HNn : Hid (∀ (j' : Nat) y, j' < j + 1 → L[j']? = some y → ¬ SameK y ⟨st, t, kd, n, tx, .slice sa st.length sc⟩) := Lib.hid (fun j' y hj' hy' => by
                by_cases e : j' = j
                · subst e
                  rw [Hy.out] at hy'
                  injection hy' with hy'
                  subst hy'
                  exact fun h => hte h.1
                · exact HN.out j' y (by omega) hy')
              clear hte
              go_wp2_with fail
              go_roundw
              case rel => exact ⟨j + 1, Hj.out, by have := Hj.out; have := Hlt.out; have := HL.out.2; go_num, HNn, HB67⟩
              case measure => have := Hj.out; simp [intOf]; omega
          · obtain rfl : j = k := by omega
            have HGn := Lib.hid (good_next HG.out Hx.out HRt.out HN.out)
            go_wp2_with fail
            go_roundw
            case rel => exact ⟨j + 1, Hlt.out, by have := Hlt.out; have := HL.out.2; go_num, HGn, Lib.hid (bel_trans HB06.out HBj.out)⟩
            case measure => have := Hlt.out; simp [intOf]; omega
    · obtain rfl : k = L.length := by omega
      have HY : Hid (BatchW L) := Lib.hid ⟨HL.out.1, HL.out.2, HG.out⟩
      go_wp2_with fail
      go_ret
      exact ⟨says_yes HY.out, HB.out⟩
end Go.Proofs.YtbaflgddpciadaaGreat
set_option linter.unusedVariables false
set_option linter.unusedSimpArgs false
namespace Go.Proofs.YtbaflgddpciadaaGreat
open Go.RowKit Go.Kt Go.Ix
set_option maxRecDepth 100000
theorem ok48 : ElemOk Tryz.prog 48 87 (.agg #[.slice none 0 0, .int .i64 0, .int .i64 0, .int .i64 0, .string ⟨#[]⟩]) 5 64 := ⟨Tryz.underlying48, info_parts (by kernel_rfl), rfl, by decide⟩
theorem flatW_one {w : World} : ∀ (L : List Wr), (∀ m ∈ L, RdP w m.sv m.st) → ∀ u ∈ flatW L, u.oneCell' = true
  | [], _, u, hu => by cases hu
  | m :: t, h, u, hu => by
    have hm := RdP.one (h m (by simp))
    simp only [flatW, List.mem_cons] at hu
    rcases hu with rfl | rfl | rfl | rfl | rfl | hu
    · exact hm
    · rfl
    · rfl
    · rfl
    · rfl
    · exact flatW_one t (fun q hq => h q (by simp [hq])) u hu
theorem flatW_set : ∀ (L : List Wr) (i : Nat) (m : Wr) (u : Value), L[i]? = some m → flatW (L.set i (m.with u)) = (flatW L).set (i * 5) u
  | [], i, m, u, h => by simp at h
  | x :: t, 0, m, u, h => by
    simp at h; subst h
    rfl
  | x :: t, i + 1, m, u, h => by
    rw [List.set_cons_succ, flatW, flatW, flatW_set t i m u (by simpa using h), show (i + 1) * 5 = i * 5 + 1 + 1 + 1 + 1 + 1 by omega]
    rfl
/-- rows of writes that a call made, each with its own labels -/
structure Wrs (e s : TypeId) (w0 w : World) (v : Value) (L : List Wr) : Prop where
  row : Mine e 5 w0 w v L.length (flatW L)
  sets : ∀ m ∈ L, OwnP s w m.sv m.st ∧ ∀ b, m.sv.ownBlock = some b → w0.heap.size ≤ b
theorem Wrs.rd {e s : TypeId} {w0 w : World} {v : Value} {L : List Wr} (h : Wrs e s w0 w v L) : RdW w v L := ⟨h.row.rd, fun m hm => (h.sets m hm).1.rd⟩
theorem Wrs.bel {e s : TypeId} {w0 w : World} {v : Value} {L : List Wr} (h : Wrs e s w0 w v L) : Below w0.heap.size w0 w := h.row.2.2
set_option maxHeartbeats 1000000 in
theorem clonew_any (v : Value) (L : List Wr) (w : World) (hv : RdW w v L) (hlen : L.length ≤ 1048576) :
    Calls Tryz.prog 166 #[v] w fun e w' => ∃ v', e = .returned v' ∧ Mine 87 5 w w' v' L.length (flatW L) := by
  have he := fun (a : Option Addr) (n c : Nat) => Lib.run_eql_slice_nil (P := Tryz.prog) w 48 87 a n c 0 0 Tryz.underlying48
  have HV := Lib.hid hv
  obtain ⟨⟨hl, a, cap, rfl, h1, h2, h3, _⟩, _⟩ := hv
  cases a with
  | none =>
    obtain rfl : cap = 0 := h3 rfl
    obtain hl0 : L = [] := List.eq_nil_of_length_eq_zero (by omega)
    subst hl0
    clear HV
    go_enter Tryz.func166, Tryz.ntmps166
    go_wp2_with fail
    go_ret
    exact ⟨_, rfl, mine_nil 87 5 w⟩
  | some ad =>
    clear hl h3
    go_enter Tryz.func166, Tryz.ntmps166
    go_wp2_with (at_builtin; apply Hold.mk)
    unfold Hold
    refine wpList_app rfl _ _ 48 rfl ok48 (by rfl) (by rfl) (n := 0) (xs := []) (own_lit w 87 5 #[] 0 (Nat.zero_le _) rfl) (HV.out.1.below (below_alloc w _)) (by exact flatW_one L HV.out.2) (by simp only [maxLen]; omega) (by omega) ?_
    intro v7 w7 ho7 hg7 hn7
    rw [Nat.zero_add, List.nil_append] at ho7
    have HM7 : Hid (Mine 87 5 w w7 v7 L.length (flatW L)) := Lib.hid ⟨ho7, fun b hb => by
        rcases hn7 b hb with h | h
        · have h' : w.heap.size = b := by simpa [Value.ownBlock] using h
          omega
        · simp only [World.size_alloc] at h; omega, (bel_alloc (bel_refl w)).grown hg7 (by simp only [World.size_alloc]; omega) (fun k hk => Nat.le_of_eq (by simpa [Value.ownBlock] using hk))⟩
    clear ho7 hg7 hn7
    go_wp2_with fail
    go_ret
    exact ⟨_, rfl, HM7.out⟩
/-- twins' work: of the first k the labels are new -/
structure Twin (w0 w : World) (v : Value) (L T : List Wr) (k : Nat) : Prop where
  row : Mine 87 5 w0 w v L.length (flatW T)
  len : T.length = L.length
  bare : T.map Wr.bare = L.map Wr.bare
  new : ∀ (i : Nat) m, i < k → T[i]? = some m → OwnP 104 w m.sv m.st ∧ ∀ b, m.sv.ownBlock = some b → w0.heap.size ≤ b
  old : ∀ i, k ≤ i → T[i]? = L[i]?
set_option maxHeartbeats 4000000 in
theorem twins_any (v : Value) (L : List Wr) (w : World) (hv : RdW w v L) (hlen : L.length ≤ 1048576) (hs : ∀ m ∈ L, m.st.length ≤ 4398046511104) :
    Calls Tryz.prog 88 #[v] w fun e w' => ∃ v' T, e = .returned v' ∧ Wrs 87 104 w w' v' T ∧ T.map Wr.bare = L.map Wr.bare := by
  obtain ⟨a, cap, rfl, hcap, hbig, hcell⟩ := hv.open
  have HV := Lib.hid hv
  have HS := Lib.hid hs
  have HC := Lib.hid (clonew_any (.slice a L.length cap) L w hv hlen)
  clear hv hs hcell
  go_enter Tryz.func88, Tryz.ntmps88
  go_wp2_with (first
    | (go_at_call 166; refine HC.out.mono ?_; rintro e w1 ⟨v1, rfl, hm1⟩; obtain ⟨-, a1, c1, rfl, -, -, -, -⟩ := hm1.rd; have HM1 := Lib.hid hm1; clear hm1)
    | fail)
  have HT0 : Hid (Twin w w1 (.slice a1 L.length c1) L L 0) := Lib.hid ⟨HM1.out, rfl, rfl, fun i m hi => by omega, fun i _ => rfl⟩
  have HLen := Lib.hid hlen
  clear HC HM1
  go_loopw [9] (fun i wr => ∃ (k : Nat) (T : List Wr), k ≤ L.length ∧ i = .int .i64 k ∧ Hid (Twin w wr (.slice a1 L.length c1) L T k)) (fun i _ => L.length - (intOf i).toNat)
  case atStart => exact ⟨0, L, by omega, rfl, HT0⟩
  case round =>
    clear HT0
    obtain ⟨k, T, hk, rfl, HT⟩ := hrel
    by_cases hlt : k < L.length
    · obtain ⟨x, hx⟩ : ∃ x, L[k]? = some x := ⟨L[k], List.getElem?_eq_getElem hlt⟩
      have hxT : T[k]? = some x := (HT.out.old k (Nat.le_refl _)).trans hx
      have hvx := HV.out.2 x (List.mem_of_getElem? hx)
      have hsx := HS.out x (List.mem_of_getElem? hx)
      obtain ⟨g, cg, e1, p1, f1, -⟩ := own_place HT.out.row.1 (j := k * 5) (by omega)
      rw [(flatW_get T k x hxT).1] at p1
      obtain ⟨xa, xc, hxe, -⟩ := hvx.open
      rw [hxe] at p1
      injection e1 with e1 e1' e1''
      subst e1 e1''
      have HCl := Lib.hid (clone_any (.slice xa x.st.length xc) x.st wr (by rw [← hxe]; exact hvx.below HT.out.row.2.2) hsx)
      have hk1 : (0 : Int) ≤ (k : Int) := by omega
      have hk2 : (k : Int) < (L.length : Int) := by omega
      have HxT := Lib.hid hxT
      have Hk := Lib.hid hlt
      clear hx hxT hvx hsx e1' hxe
      go_upto_region 6 with (first
        | (go_at_call 153; refine HCl.out.mono ?_; rintro e w7 ⟨v7, rfl, hm7⟩; obtain ⟨-, a7, c7, rfl, -, -, -, -⟩ := hm7.rd; have HM7 := Lib.hid hm7; have h8 := own_place (HT.out.row.1.below' hm7.2.2) (j := k * 5) (by omega); have p7 : w7.cell? ⟨g, k * 5, none⟩ = some (.slice xa x.st.length xc) := (hm7.2.2.cell (p := ⟨g, k * 5, none⟩) (World.block_lt_of_cell? wr ⟨g, k * 5, none⟩ p1)).trans p1; have f7 : w7.frozen? ⟨g, k * 5, none⟩ = false := (by obtain ⟨g', c', e', -, ff, -⟩ := h8; injection e' with e'; injection e' with e'; injection e' with e'; rw [e']; exact ff); clear hm7 h8)
        | fail)
      have HTn : Hid (Twin w (w7.setCell ⟨g, k * 5, none⟩ (.slice a7 x.st.length c7)) (.slice (some ⟨g, 0, none⟩) L.length c1) L (T.set k (x.with (.slice a7 x.st.length c7))) (k + 1)) := Lib.hid (by
        have hrow := HT.out.row.1.below' HM7.out.2.2
        obtain ⟨g', c', e', -, -, hst⟩ := own_place hrow (j := k * 5) (by have := Hk.out; omega)
        injection e' with e' e2 e3
        injection e' with e'
        injection e' with e'
        subst e'
        have hap := own_apart hrow HM7.out.1 (by decide)
        have hgl : w.heap.size ≤ g := HT.out.row.2.1 g rfl
        refine ⟨⟨by rw [flatW_set T k x _ HxT.out]; exact hst _, HT.out.row.2.1, bel_set (bel_trans HT.out.row.2.2 HM7.out.2.2) hgl⟩, by rw [List.length_set]; exact HT.out.len, ?_, fun i m hi hm => ?_, fun i hi => ?_⟩
        · rw [List.map_set]
          have hb : (x.with (.slice a7 x.st.length c7)).bare = x.bare := rfl
          rw [hb, ← HT.out.bare]
          have hxb : (T.map Wr.bare)[k]? = some x.bare := by rw [List.getElem?_map, HxT.out]; rfl
          obtain ⟨hk', e⟩ := List.getElem?_eq_some_iff.1 hxb
          rw [← e]
          exact List.set_getElem_self hk'
        · by_cases e : i = k
          · subst e
            rw [List.getElem?_set_self (List.getElem?_eq_some_iff.1 HxT.out).1] at hm
            injection hm with hm
            subst hm
            refine ⟨own_set HM7.out.1 (fun b hb e => ?_) _, fun b hb => Nat.le_trans HT.out.row.2.2.size (HM7.out.2.1 b hb)⟩
            exact hap g rfl (by rw [hb, e])
          · rw [List.getElem?_set_ne (fun e' => e e'.symm)] at hm
            obtain ⟨o1, o2⟩ := HT.out.new i m (by omega) hm
            have o3 := OwnP.below o1 HM7.out.2.2
            refine ⟨own_set o3 (fun b hb e => ?_) _, o2⟩
            exact own_apart hrow o3 (by decide) g rfl (by rw [hb, e])
        · rw [List.getElem?_set_ne (by omega)]
          exact HT.out.old i (by omega))
      clear p1 f1 p7 f7
      go_wp2_with fail
      go_roundw
      case rel => exact ⟨k + 1, _, Hk.out, by have := HLen.out; have := Hk.out; go_num, HTn⟩
      case measure => have := Hk.out; simp [intOf]; omega
    · obtain rfl : k = L.length := by omega
      go_wp2_with fail
      go_ret
      refine ⟨_, T, rfl, ⟨by rw [HT.out.len]; exact HT.out.row, fun m hm => ?_⟩, HT.out.bare⟩
      obtain ⟨i, hi⟩ := List.getElem?_of_mem hm
      exact HT.out.new i m (by have := (List.getElem?_eq_some_iff.1 hi).1; rw [HT.out.len] at this; exact this) hi
end Go.Proofs.YtbaflgddpciadaaGreat
set_option linter.unusedVariables false
set_option linter.unusedSimpArgs false
namespace Go.Proofs.YtbaflgddpciadaaGreat
open Go.RowKit Go.Kt Go.Ix Go.Sx
set_option maxRecDepth 100000
theorem str_ne {a b : ByteArray} (h : a ≠ b) : (a.toList == b.toList) = false := by
  rw [beq_eq_false_iff_ne, ByteArray.toList_eq, ByteArray.toList_eq]
  exact fun e => h (bl_inj e)
set_option maxHeartbeats 2000000 in
theorem eqp_any (v u : Value) (l m : List Pr) (w : World) (hv : RdP w v l) (hu : RdP w u m) (hl : l.length ≤ 4398046511104) :
    Calls Tryz.prog 183 #[v, u] w fun e w' => Says (l = m) e ∧ Below w.heap.size w w' := by
  obtain ⟨a, cap, rfl, hcap, hbig, hcell⟩ := hv.open
  obtain ⟨a2, cap2, rfl, hcap2, hbig2, hcell2⟩ := hu.open
  have HC := Lib.hid hcell
  have HC2 := Lib.hid hcell2
  clear hcell hcell2 hv hu
  by_cases hln : l.length = m.length
  · have e0 : ((l.length : Int) == (m.length : Int)) = true := by rw [beq_iff_eq]; omega
    have HLn := Lib.hid hln
    rw [← hln]
    clear hln e0
    go_enter Tryz.func183, Tryz.ntmps183
    go_wp2_with fail
    have HB0 := Lib.hid (bel_refl w)
    have HE0 : Hid (∀ i, i < 0 → l[i]? = m[i]?) := Lib.hid (fun i hi => by omega)
    go_loopw [13] (fun i wr => ∃ k : Nat, k ≤ l.length ∧ i = .int .i64 k ∧ Hid (∀ i, i < k → l[i]? = m[i]?) ∧ Hid (Below w.heap.size w wr)) (fun i _ => l.length - (intOf i).toNat)
    case atStart => exact ⟨0, by omega, rfl, HE0, HB0⟩
    case round =>
      clear HE0 HB0
      obtain ⟨k, hk, rfl, HE, HB⟩ := hrel
      by_cases hlt : k < l.length
      · obtain ⟨x, hx⟩ : ∃ x, l[k]? = some x := ⟨l[k], List.getElem?_eq_getElem hlt⟩
        obtain ⟨y, hy⟩ : ∃ y, m[k]? = some y := ⟨m[k]'(by have := HLn.out; omega), List.getElem?_eq_getElem _⟩
        obtain ⟨b, o, rfl, c1, c2⟩ := HC.out k x hx
        have lb : b < w.heap.size := World.block_lt_of_cell? w ⟨b, o + k * 2, none⟩ c1
        obtain ⟨b2, o2, rfl, f1, f2⟩ := HC2.out k y hy
        have lb2 : b2 < w.heap.size := World.block_lt_of_cell? w ⟨b2, o2 + k * 2, none⟩ f1
        have hB := HB.out
        have d1 : wr.cell? ⟨b, o + k * 2, none⟩ = some (.string x.n) := (hB.cell (p := ⟨b, _, none⟩) lb).trans c1
        have d2 : wr.cell? ⟨b, o + k * 2 + 1, none⟩ = some (.string x.v) := (hB.cell (p := ⟨b, _, none⟩) lb).trans c2
        have g1 : wr.cell? ⟨b2, o2 + k * 2, none⟩ = some (.string y.n) := (hB.cell (p := ⟨b2, _, none⟩) lb2).trans f1
        have g2 : wr.cell? ⟨b2, o2 + k * 2 + 1, none⟩ = some (.string y.v) := (hB.cell (p := ⟨b2, _, none⟩) lb2).trans f2
        have hk1 : (0 : Int) ≤ (k : Int) := by omega
        have hk2 : (k : Int) < (l.length : Int) := by omega
        have Hk := Lib.hid hlt
        have Hx := Lib.hid hx
        have Hy := Lib.hid hy
        clear c1 c2 f1 f2 hx hy hB lb lb2
        obtain ⟨xn, xv⟩ := x
        obtain ⟨yn, yv⟩ := y
        simp only at d1 d2 g1 g2
        by_cases e1 : xn = yn
        · by_cases e2 : xv = yv
          · have HEn : Hid (∀ i, i < k + 1 → l[i]? = m[i]?) := Lib.hid (fun i hi => by
              by_cases e : i = k
              · subst e; rw [Hx.out, Hy.out, e1, e2]
              · exact HE.out i (by omega))
            subst e1 e2
            go_upto_region 6 with fail
            go_quiet (fail)
            go_wp2_with fail
            go_roundw
            case rel => exact ⟨k + 1, Hk.out, by have := Hk.out; go_num, HEn, Lib.hid (by repeat (first | exact HB.out | apply bel_drewN | apply bel_drew))⟩
            case measure => have := Hk.out; simp [intOf]; omega
          · have HNn : Hid (¬ l = m) := Lib.hid (fun h => by
              have h1 := Hx.out
              rw [h, Hy.out] at h1
              injection h1 with h1
              injection h1 with _ h1
              exact e2 h1.symm)
            have h2 := str_ne e2
            have h1 : (xn.toList == yn.toList) = true := by rw [e1]; exact beq_self_eq_true _
            clear e1 e2
            go_upto_region 6 with fail
            go_quiet (fail)
            go_wp2_with fail
            go_ret
            exact ⟨says_no HNn.out, by repeat (first | exact HB.out | apply bel_drewN | apply bel_drew)⟩
        · have HNn : Hid (¬ l = m) := Lib.hid (fun h => by
            have h1 := Hx.out
            rw [h, Hy.out] at h1
            injection h1 with h1
            injection h1 with h1 _
            exact e1 h1.symm)
          have h1 := str_ne e1
          clear e1
          go_upto_region 6 with fail
          go_quiet (fail)
          go_wp2_with fail
          go_ret
          exact ⟨says_no HNn.out, by repeat (first | exact HB.out | apply bel_drewN | apply bel_drew)⟩
      · obtain rfl : k = l.length := by omega
        have HT : Hid (l = m) := Lib.hid (List.ext_getElem? fun i => by
          by_cases hi : i < l.length
          · exact HE.out i hi
          · rw [List.getElem?_eq_none (by omega), List.getElem?_eq_none (by have := HLn.out; omega)])
        go_wp2_with fail
        go_ret
        exact ⟨says_yes HT.out, HB.out⟩
  · have e0 : ((l.length : Int) == (m.length : Int)) = false := by rw [beq_eq_false_iff_ne]; omega
    have HN : Hid (¬ l = m) := Lib.hid (fun h => hln (by rw [h]))
    clear hln
    go_enter Tryz.func183, Tryz.ntmps183
    go_wp2_with fail
    go_ret
    exact ⟨says_no HN.out, bel_refl w⟩
theorem says_out {P : Prop} {e : Ending} (h : Says P e) : ∃ z : Bool, e = .returned (.bool z) ∧ (z = true ↔ P) := by
  by_cases hp : P
  · exact ⟨true, by have h1 := says_pb h; rw [pb_yes hp] at h1; exact h1, by simp [hp]⟩
  · exact ⟨false, by have h1 := says_pb h; rw [pb_no hp] at h1; exact h1, by simp [hp]⟩
theorem says_in {P : Prop} {z : Bool} (h : z = true ↔ P) : Says P (.returned (.bool z)) := by
  cases z with
  | true => exact says_yes (h.1 rfl)
  | false => exact says_no (fun hp => by have := h.2 hp; cases this)
set_option maxHeartbeats 2000000 in
theorem same1_any (m n : Wr) (w : World) (hm : RdP w m.sv m.st) (hn : RdP w n.sv n.st) (hl : m.st.length ≤ 4398046511104) :
    Calls Tryz.prog 182 #[wagg m, wagg n] w fun e w' => Says (m.bare = n.bare) e ∧ Below w.heap.size w w' := by
  obtain ⟨st, mt, mk, mn, mx, sv⟩ := m
  obtain ⟨su, nt, nk, nn, nx, tv⟩ := n
  simp only at hm hn hl
  obtain ⟨sa, sc, rfl, -⟩ := hm.open
  obtain ⟨ta, tc, rfl, -⟩ := hn.open
  have HX := Lib.hid ((Blk.new w #[.slice sa st.length sc, .int .i64 mt, .int .i64 mk, .int .i64 mn, .string mx] 87).next (below_alloc _ (.cells #[.slice ta su.length tc, .int .i64 nt, .int .i64 nk, .int .i64 nn, .string nx] 87)))
  have HYb := Lib.hid (Blk.new (w.alloc (.cells #[.slice sa st.length sc, .int .i64 mt, .int .i64 mk, .int .i64 mn, .string mx] 87)) #[.slice ta su.length tc, .int .i64 nt, .int .i64 nk, .int .i64 nn, .string nx] 87)
  rw [World.size_alloc] at HYb
  have HB0 := Lib.hid (bel_alloc (o := .cells #[.slice ta su.length tc, .int .i64 nt, .int .i64 nk, .int .i64 nn, .string nx] 87) (below_alloc w (.cells #[.slice sa st.length sc, .int .i64 mt, .int .i64 mk, .int .i64 mn, .string mx] 87)))
  have HE := Lib.hid (eqp_any (.slice sa st.length sc) (.slice ta su.length tc) st su _ (hm.below HB0.out) (hn.below HB0.out) hl)
  clear hm hn
  unfold wagg Wr.bare
  simp only
  go_enter Tryz.func182, Tryz.ntmps182
  go_upto_region 1 with fail
  generalize (w.alloc (.cells #[.slice sa st.length sc, .int .i64 mt, .int .i64 mk, .int .i64 mn, .string mx] 87)).alloc (.cells #[.slice ta su.length tc, .int .i64 nt, .int .i64 nk, .int .i64 nn, .string nx] 87) = w1 at HX HYb HB0 HE ⊢
  have x0 : w1.cell? ⟨w.heap.size, 0, none⟩ = some (.slice sa st.length sc) := HX.out.cell 0
  have x1 : w1.cell? ⟨w.heap.size, 1, none⟩ = some (.int .i64 mt) := HX.out.cell 1
  have x2 : w1.cell? ⟨w.heap.size, 2, none⟩ = some (.int .i64 mk) := HX.out.cell 2
  have x3 : w1.cell? ⟨w.heap.size, 3, none⟩ = some (.int .i64 mn) := HX.out.cell 3
  have x4 : w1.cell? ⟨w.heap.size, 4, none⟩ = some (.string mx) := HX.out.cell 4
  have y0 : w1.cell? ⟨w.heap.size + 1, 0, none⟩ = some (.slice ta su.length tc) := HYb.out.cell 0
  have y1 : w1.cell? ⟨w.heap.size + 1, 1, none⟩ = some (.int .i64 nt) := HYb.out.cell 1
  have y2 : w1.cell? ⟨w.heap.size + 1, 2, none⟩ = some (.int .i64 nk) := HYb.out.cell 2
  have y3 : w1.cell? ⟨w.heap.size + 1, 3, none⟩ = some (.int .i64 nn) := HYb.out.cell 3
  have y4 : w1.cell? ⟨w.heap.size + 1, 4, none⟩ = some (.string nx) := HYb.out.cell 4
  by_cases e0 : mt = nt
  · have b0 : (mt == nt) = true := by rw [e0]; exact beq_self_eq_true _
    by_cases e1 : mk = nk
    · have b1 : (mk == nk) = true := by rw [e1]; exact beq_self_eq_true _
      by_cases e2 : mn = nn
      · have b2 : (mn == nn) = true := by rw [e2]; exact beq_self_eq_true _
        by_cases e3 : mx = nx
        · have b3 : (mx.toList == nx.toList) = true := by rw [e3]; exact beq_self_eq_true _
          have HY : Hid (st = su → (⟨st, mt, mk, mn, mx, .nilIface⟩ : Wr) = ⟨su, nt, nk, nn, nx, .nilIface⟩) := Lib.hid (fun h => by rw [h, e0, e1, e2, e3])
          clear e0 e1 e2 e3
          go_wp2_with (first
            | (go_at_call 183; refine HE.out.mono ?_; rintro e w6 ⟨hs6, hb6⟩; obtain ⟨z, rfl, hz⟩ := says_out hs6; have HZ := Lib.hid hz; have HB6 := Lib.hid hb6; clear hs6 hz hb6)
            | fail)
          go_ret
          exact ⟨says_in (HZ.out.trans ⟨fun h => HY.out h, fun h => by have h1 := congrArg Wr.st h; exact h1⟩), bel_trans HB0.out HB6.out⟩
        · have hne := e3
          have HN : Hid (¬ (⟨st, mt, mk, mn, mx, .nilIface⟩ : Wr) = ⟨su, nt, nk, nn, nx, .nilIface⟩) := Lib.hid (fun h => hne (by have h1 := congrArg Wr.x h; exact h1))
          have b3 := str_ne e3
          clear e3 e0 e1 e2 hne
          go_wp2_with fail
          go_ret
          exact ⟨says_no HN.out, HB0.out⟩
      · have hne := e2
        have HN : Hid (¬ (⟨st, mt, mk, mn, mx, .nilIface⟩ : Wr) = ⟨su, nt, nk, nn, nx, .nilIface⟩) := Lib.hid (fun h => hne (by have h1 := congrArg Wr.n h; exact h1))
        have b2 := bne_of e2
        clear e2 e0 e1 hne
        go_wp2_with fail
        go_ret
        exact ⟨says_no HN.out, HB0.out⟩
    · have hne := e1
      have HN : Hid (¬ (⟨st, mt, mk, mn, mx, .nilIface⟩ : Wr) = ⟨su, nt, nk, nn, nx, .nilIface⟩) := Lib.hid (fun h => hne (by have h1 := congrArg Wr.k h; exact h1))
      have b1 := bne_of e1
      clear e1 e0 hne
      go_wp2_with fail
      go_ret
      exact ⟨says_no HN.out, HB0.out⟩
  · have hne := e0
    have HN : Hid (¬ (⟨st, mt, mk, mn, mx, .nilIface⟩ : Wr) = ⟨su, nt, nk, nn, nx, .nilIface⟩) := Lib.hid (fun h => hne (by have h1 := congrArg Wr.t h; exact h1))
    have b0 := bne_of e0
    clear e0 hne
    go_wp2_with fail
    go_ret
    exact ⟨says_no HN.out, HB0.out⟩
set_option maxHeartbeats 4000000 in
theorem eqf_any (v u : Value) (L T : List Wr) (w : World) (hv : RdW w v L) (hu : RdW w u T) (hl : L.length ≤ 1048576) (hs : ∀ m ∈ L, m.st.length ≤ 4398046511104) :
    Calls Tryz.prog 181 #[v, u, .func (.func 182) #[] #[]] w fun e w' => Says (L.map Wr.bare = T.map Wr.bare) e ∧ Below w.heap.size w w' := by
  obtain ⟨a, cap, rfl, hcap, hbig, hcell⟩ := hv.open
  obtain ⟨a2, cap2, rfl, hcap2, hbig2, hcell2⟩ := hu.open
  have HC := Lib.hid hcell
  have HC2 := Lib.hid hcell2
  have HV := Lib.hid hv
  have HU := Lib.hid hu
  have HS := Lib.hid hs
  have HLl := Lib.hid hl
  clear hcell hcell2 hv hu hs
  by_cases hln : L.length = T.length
  · have HLn := Lib.hid hln
    rw [← hln]
    clear hln
    go_enter Tryz.func181, Tryz.ntmps181
    go_wp2_with fail
    have HB0 := Lib.hid (bel_refl w)
    have HE0 : Hid (∀ i, i < 0 → (L.map Wr.bare)[i]? = (T.map Wr.bare)[i]?) := Lib.hid (fun i hi => by omega)
    go_loopw [17] (fun i wr => ∃ k : Nat, k ≤ L.length ∧ i = .int .i64 k ∧ Hid (∀ i, i < k → (L.map Wr.bare)[i]? = (T.map Wr.bare)[i]?) ∧ Hid (Below w.heap.size w wr)) (fun i _ => L.length - (intOf i).toNat)
    case atStart => exact ⟨0, by omega, rfl, HE0, HB0⟩
    case round =>
      clear HE0 HB0
      obtain ⟨k, hk, rfl, HE, HB⟩ := hrel
      by_cases hlt : k < L.length
      · obtain ⟨x, hx⟩ : ∃ x, L[k]? = some x := ⟨L[k], List.getElem?_eq_getElem hlt⟩
        obtain ⟨y, hy⟩ : ∃ y, T[k]? = some y := ⟨T[k]'(by have := HLn.out; omega), List.getElem?_eq_getElem _⟩
        obtain ⟨b, o, rfl, lb, c0, c1, c2, c3, c4⟩ := HC.out k x hx
        obtain ⟨b2, o2, rfl, lb2, f0, f1, f2, f3, f4⟩ := HC2.out k y hy
        have hvx := HV.out.2 x (List.mem_of_getElem? hx)
        have hvy := HU.out.2 y (List.mem_of_getElem? hy)
        have hsx := HS.out x (List.mem_of_getElem? hx)
        have Hx := Lib.hid hx
        have Hy := Lib.hid hy
        obtain ⟨st, mt, mk, mn, mx, sv⟩ := x
        obtain ⟨su, nt, nk, nn, nx, tv⟩ := y
        simp only at c0 c1 c2 c3 c4 f0 f1 f2 f3 f4 hvx hvy hsx
        obtain ⟨sa, sc, rfl, -⟩ := hvx.open
        obtain ⟨ta, tc, rfl, -⟩ := hvy.open
        have hB := HB.out
        have d0 : wr.cell? ⟨b, o + k * 5, none⟩ = some (.slice sa st.length sc) := (hB.cell (p := ⟨b, _, none⟩) lb).trans c0
        have d1 : wr.cell? ⟨b, o + k * 5 + 1, none⟩ = some (.int .i64 mt) := (hB.cell (p := ⟨b, _, none⟩) lb).trans c1
        have d2 : wr.cell? ⟨b, o + k * 5 + 2, none⟩ = some (.int .i64 mk) := (hB.cell (p := ⟨b, _, none⟩) lb).trans c2
        have d3 : wr.cell? ⟨b, o + k * 5 + 3, none⟩ = some (.int .i64 mn) := (hB.cell (p := ⟨b, _, none⟩) lb).trans c3
        have d4 : wr.cell? ⟨b, o + k * 5 + 4, none⟩ = some (.string mx) := (hB.cell (p := ⟨b, _, none⟩) lb).trans c4
        have g0 : wr.cell? ⟨b2, o2 + k * 5, none⟩ = some (.slice ta su.length tc) := (hB.cell (p := ⟨b2, _, none⟩) lb2).trans f0
        have g1 : wr.cell? ⟨b2, o2 + k * 5 + 1, none⟩ = some (.int .i64 nt) := (hB.cell (p := ⟨b2, _, none⟩) lb2).trans f1
        have g2 : wr.cell? ⟨b2, o2 + k * 5 + 2, none⟩ = some (.int .i64 nk) := (hB.cell (p := ⟨b2, _, none⟩) lb2).trans f2
        have g3 : wr.cell? ⟨b2, o2 + k * 5 + 3, none⟩ = some (.int .i64 nn) := (hB.cell (p := ⟨b2, _, none⟩) lb2).trans f3
        have g4 : wr.cell? ⟨b2, o2 + k * 5 + 4, none⟩ = some (.string nx) := (hB.cell (p := ⟨b2, _, none⟩) lb2).trans f4
        have hlb2 : b2 < wr.heap.size := Nat.lt_of_lt_of_le lb2 hB.size
        have hk1 : (0 : Int) ≤ (k : Int) := by omega
        have hk2 : (k : Int) < (L.length : Int) := by omega
        have Hk := Lib.hid hlt
        have HX := Lib.hid ((Blk.new wr #[.slice sa st.length sc, .int .i64 mt, .int .i64 mk, .int .i64 mn, .string mx] 87).next (below_alloc _ (.cells #[.slice ta su.length tc, .int .i64 nt, .int .i64 nk, .int .i64 nn, .string nx] 87)))
        have HY := Lib.hid (Blk.new (wr.alloc (.cells #[.slice sa st.length sc, .int .i64 mt, .int .i64 mk, .int .i64 mn, .string mx] 87)) #[.slice ta su.length tc, .int .i64 nt, .int .i64 nk, .int .i64 nn, .string nx] 87)
        rw [World.size_alloc] at HY
        have HBa := Lib.hid (bel_alloc (o := .cells #[.slice ta su.length tc, .int .i64 nt, .int .i64 nk, .int .i64 nn, .string nx] 87) (below_alloc wr (.cells #[.slice sa st.length sc, .int .i64 mt, .int .i64 mk, .int .i64 mn, .string mx] 87)))
        have HB2 := Lib.hid (bel_trans HB.out HBa.out)
        have HW := Lib.hid (same1_any ⟨st, mt, mk, mn, mx, .slice sa st.length sc⟩ ⟨su, nt, nk, nn, nx, .slice ta su.length tc⟩ _ (hvx.below HB2.out) (hvy.below HB2.out) hsx)
        unfold wagg at HW
        simp only at HW
        obtain ⟨bx, hbx⟩ : ∃ bx, (⟨st, mt, mk, mn, mx, .slice sa st.length sc⟩ : Wr).bare = bx := ⟨_, rfl⟩
        obtain ⟨byy, hby⟩ : ∃ byy, (⟨su, nt, nk, nn, nx, .slice ta su.length tc⟩ : Wr).bare = byy := ⟨_, rfl⟩
        rw [hbx, hby] at HW
        have Hbx : Hid ((L.map Wr.bare)[k]? = some bx) := Lib.hid (by rw [List.getElem?_map, Hx.out, ← hbx]; rfl)
        have Hby : Hid ((T.map Wr.bare)[k]? = some byy) := Lib.hid (by rw [List.getElem?_map, Hy.out, ← hby]; rfl)
        clear c0 c1 c2 c3 c4 f0 f1 f2 f3 f4 hx hy hB lb lb2 hvx hvy hsx hbx hby Hx Hy
        go_upto_region 7 with fail
        generalize (wr.alloc (.cells #[.slice sa st.length sc, .int .i64 mt, .int .i64 mk, .int .i64 mn, .string mx] 87)).alloc (.cells #[.slice ta su.length tc, .int .i64 nt, .int .i64 nk, .int .i64 nn, .string nx] 87) = w5 at HX HY HBa HB2 HW ⊢
        obtain ⟨g, hg⟩ : ∃ g, wr.heap.size = g := ⟨_, rfl⟩
        rw [hg] at HX HY ⊢
        have x0 : w5.cell? ⟨g, 0, none⟩ = some (.slice sa st.length sc) := HX.out.cell 0
        have x1 : w5.cell? ⟨g, 1, none⟩ = some (.int .i64 mt) := HX.out.cell 1
        have x2 : w5.cell? ⟨g, 2, none⟩ = some (.int .i64 mk) := HX.out.cell 2
        have x3 : w5.cell? ⟨g, 3, none⟩ = some (.int .i64 mn) := HX.out.cell 3
        have x4 : w5.cell? ⟨g, 4, none⟩ = some (.string mx) := HX.out.cell 4
        have y0 : w5.cell? ⟨g + 1, 0, none⟩ = some (.slice ta su.length tc) := HY.out.cell 0
        have y1 : w5.cell? ⟨g + 1, 1, none⟩ = some (.int .i64 nt) := HY.out.cell 1
        have y2 : w5.cell? ⟨g + 1, 2, none⟩ = some (.int .i64 nk) := HY.out.cell 2
        have y3 : w5.cell? ⟨g + 1, 3, none⟩ = some (.int .i64 nn) := HY.out.cell 3
        have y4 : w5.cell? ⟨g + 1, 4, none⟩ = some (.string nx) := HY.out.cell 4
        clear d0 d1 d2 d3 d4 g0 g1 g2 g3 g4 hlb2 hg
        by_cases he : bx = byy
        · have HEn : Hid (∀ i, i < k + 1 → (L.map Wr.bare)[i]? = (T.map Wr.bare)[i]?) := Lib.hid (fun i hi => by
            by_cases e : i = k
            · subst e; rw [Hbx.out, Hby.out, he]
            · exact HE.out i (by omega))
          have HWt : Hid (Calls Tryz.prog 182 #[.agg #[.slice sa st.length sc, .int .i64 mt, .int .i64 mk, .int .i64 mn, .string mx], .agg #[.slice ta su.length tc, .int .i64 nt, .int .i64 nk, .int .i64 nn, .string nx]] w5 fun e w' => e = .returned (.bool true) ∧ Below w5.heap.size w5 w') := Lib.hid (HW.out.mono fun e w' h => by
            obtain ⟨z, e1, e2⟩ := h.1
            rw [e2.2 he] at e1
            exact ⟨e1, h.2⟩)
          clear HW he
          go_wp2_with (first
            | (go_at_call 182; refine HWt.out.mono ?_; rintro e w6 ⟨rfl, hb6⟩; have HB6 := Lib.hid hb6; clear hb6)
            | fail)
          go_roundw
          case rel => exact ⟨k + 1, Hk.out, by have := Hk.out; have := HLl.out; go_num, HEn, Lib.hid (bel_trans HB2.out HB6.out)⟩
          case measure => have := Hk.out; simp [intOf]; omega
        · have HN : Hid (¬ L.map Wr.bare = T.map Wr.bare) := Lib.hid (fun h => by
            have h1 := Hbx.out
            rw [h, Hby.out] at h1
            injection h1 with h1
            exact he h1.symm)
          have HWt : Hid (Calls Tryz.prog 182 #[.agg #[.slice sa st.length sc, .int .i64 mt, .int .i64 mk, .int .i64 mn, .string mx], .agg #[.slice ta su.length tc, .int .i64 nt, .int .i64 nk, .int .i64 nn, .string nx]] w5 fun e w' => e = .returned (.bool false) ∧ Below w5.heap.size w5 w') := Lib.hid (HW.out.mono fun e w' h => by
            obtain ⟨z, e1, e2⟩ := h.1
            cases z with
            | true => exact absurd (e2.1 rfl) he
            | false => exact ⟨e1, h.2⟩)
          clear HW he
          go_wp2_with (first
            | (go_at_call 182; refine HWt.out.mono ?_; rintro e w6 ⟨rfl, hb6⟩; have HB6 := Lib.hid hb6; clear hb6)
            | fail)
          go_ret
          exact ⟨says_no HN.out, bel_trans HB2.out HB6.out⟩
      · obtain rfl : k = L.length := by omega
        have HT : Hid (L.map Wr.bare = T.map Wr.bare) := Lib.hid (List.ext_getElem? fun i => by
          by_cases hi : i < L.length
          · exact HE.out i hi
          · rw [List.getElem?_eq_none (by rw [List.length_map]; omega), List.getElem?_eq_none (by rw [List.length_map]; have := HLn.out; omega)])
        go_wp2_with fail
        go_ret
        exact ⟨says_yes HT.out, HB.out⟩
  · have e0 : ((L.length : Int) == (T.length : Int)) = false := by rw [beq_eq_false_iff_ne]; omega
    have HN : Hid (¬ L.map Wr.bare = T.map Wr.bare) := Lib.hid (fun h => hln (by have := congrArg List.length h; simpa using this))
    clear hln
    go_enter Tryz.func181, Tryz.ntmps181
    go_wp2_with fail
    go_ret
    exact ⟨says_no HN.out, bel_refl w⟩
set_option maxHeartbeats 1000000 in
theorem same_any (v u : Value) (L T : List Wr) (w : World) (hv : RdW w v L) (hu : RdW w u T) (hl : L.length ≤ 1048576) (hs : ∀ m ∈ L, m.st.length ≤ 4398046511104) :
    Calls Tryz.prog 127 #[v, u] w fun e w' => Says (L.map Wr.bare = T.map Wr.bare) e ∧ Below w.heap.size w w' := by
  have HE := Lib.hid (eqf_any v u L T w hv hu hl hs)
  obtain ⟨a, cap, rfl, -⟩ := hv.open
  obtain ⟨a2, cap2, rfl, -⟩ := hu.open
  clear hv hu hs
  go_enter Tryz.func127, Tryz.ntmps127
  go_wp2_with (go_at_call 181; refine HE.out.mono ?_; rintro e w6 ⟨hs6, hb6⟩; obtain ⟨z, rfl, hz⟩ := says_out hs6; have HZ := Lib.hid hz; have HB6 := Lib.hid hb6; clear hs6 hz hb6)
  go_ret
  exact ⟨says_in HZ.out, HB6.out⟩
end Go.Proofs.YtbaflgddpciadaaGreat
