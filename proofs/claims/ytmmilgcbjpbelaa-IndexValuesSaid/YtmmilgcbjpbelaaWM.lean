/- The document's index: Right of rules (23), Find (21). -/
import Derived.Test.YtmmilgcbjpbelaaWL
namespace Go.Proofs.Ytmmilgcbjpbelaa
open Go.RowKit Go.Kt Go.Ix

set_option maxHeartbeats 2000000 in
theorem refmright_any (v : Value) (l : List Rl) (w : World) (hv : RdR w v l) (hf : FitR l) :
    Calls Try.prog 23 #[v] w fun e w' => Says (RightR l) e ∧ Below w.heap.size w w' := by
  obtain ⟨a, cap, rfl, hcap, hbig, hcell⟩ := hv.open
  have Hcell := Lib.hid hcell
  have Hf := Lib.hid hf
  clear hcell hv hf
  go_enter Try.func23, Try.ntmps23
  go_wp2_with fail
  go_loopw [3] (fun i wr => ∃ k : Nat, k ≤ l.length ∧ i = .int .i64 k ∧ Hid (∀ r ∈ l.take k, RuleP r) ∧ Hid (Below w.heap.size w wr)) (fun i _ => l.length - (intOf i).toNat)
  case atStart => exact ⟨0, by omega, rfl, Lib.hid (fun r hr => by simp at hr), Lib.hid (bel_refl w)⟩
  case round =>
    obtain ⟨k, hk, rfl, HR, Hb⟩ := hrel
    by_cases hlt : k < l.length
    · obtain ⟨p, hp⟩ : ∃ x, l[k]? = some x := ⟨l[k], List.getElem?_eq_getElem hlt⟩
      obtain ⟨b, o, rfl, lb, c1, c2, c3⟩ := Hcell.out k p hp
      have hpf := Hf.out p (List.mem_of_getElem? hp)
      have c1' : wr.cell? ⟨b, o + k * 3, none⟩ = some (.string p.n) := (Hb.out.cell (p := ⟨b, o + k * 3, none⟩) lb).trans c1
      have c2' : wr.cell? ⟨b, o + k * 3 + 1, none⟩ = some (.int .i64 p.op) := (Hb.out.cell (p := ⟨b, o + k * 3 + 1, none⟩) lb).trans c2
      have c3' : wr.cell? ⟨b, o + k * 3 + 2, none⟩ = some (.string p.v) := (Hb.out.cell (p := ⟨b, o + k * 3 + 2, none⟩) lb).trans c3
      have hbb : b < wr.heap.size := Nat.lt_of_lt_of_le lb Hb.out.size
      have hk1 : (0 : Int) ≤ (k : Int) := by omega
      have hk2 : (k : Int) < (l.length : Int) := by omega
      have HN := Lib.hid (fun W => refname_quiet p.n hpf.1 W)
      have HV := Lib.hid (fun W => refvalue_quiet p.v hpf.2 W)
      have HP := Lib.hid hp
      have Hnext : Hid (RuleP p → ∀ r ∈ l.take (k + 1), RuleP r) := Lib.hid (fun h r hr => by
        obtain ⟨hk', e⟩ := List.getElem?_eq_some_iff.1 HP.out
        rw [List.take_succ_eq_append_getElem hk', e] at hr
        rcases List.mem_append.1 hr with hr | hr
        · exact HR.out r hr
        · rw [List.mem_singleton.1 hr]; exact h)
      clear c1 c2 c3 hp hpf lb
      by_cases hgood : RuleP p
      · have HX := Lib.hid (Hnext.out hgood)
        obtain ⟨g1, g2, g3, g4⟩ := hgood
        have HNt := Lib.hid (pb_yes g1)
        have d1 : decide (p.op < 1) = false := by simp only [decide_eq_false_iff_not]; omega
        have d2 : decide (4 < p.op) = false := by simp only [decide_eq_false_iff_not]; omega
        rcases size_cases p.v with ⟨hz, he⟩ | ⟨hz, he⟩
        · clear g1 g4 HV
          go_wp2_with (first | (go_at_call 42; refine (HN.out _).mono ?_; rintro e w1 ⟨rfl, rfl⟩; rw [HNt.out]) | fail)
          go_roundw
          case rel => exact ⟨k + 1, by omega, by go_num, HX, Hb⟩
          case measure => simp [intOf]; omega
        · have HVt := Lib.hid (pb_yes (g4.resolve_left (by omega)))
          clear g1 g4
          go_wp2_with (first | (go_at_call 42; refine (HN.out _).mono ?_; rintro e w1 ⟨rfl, rfl⟩; rw [HNt.out]) | (go_at_call 43; refine (HV.out _).mono ?_; rintro e w1 ⟨rfl, rfl⟩; rw [HVt.out]) | fail)
          go_roundw
          case rel => exact ⟨k + 1, by omega, by go_num, HX, Hb⟩
          case measure => simp [intOf]; omega
      · have HX := Lib.hid (rules_not HP.out hgood)
        have hbad : ¬ NameP (bl p.n) ∨ (NameP (bl p.n) ∧ p.op < 1) ∨ (NameP (bl p.n) ∧ 1 ≤ p.op ∧ 4 < p.op) ∨ (NameP (bl p.n) ∧ 1 ≤ p.op ∧ p.op ≤ 4 ∧ 0 < p.v.size ∧ ¬ ValP (bl p.v)) := by
          by_cases g1 : NameP (bl p.n)
          · by_cases g2 : p.op < 1
            · exact .inr (.inl ⟨g1, g2⟩)
            · by_cases g3 : 4 < p.op
              · exact .inr (.inr (.inl ⟨g1, by omega, g3⟩))
              · refine .inr (.inr (.inr ⟨g1, by omega, by omega, ?_, fun g4 => hgood ⟨g1, by omega, by omega, .inr g4⟩⟩))
                by_cases h0 : p.v.size = 0
                · exact absurd ⟨g1, by omega, by omega, .inl h0⟩ hgood
                · omega
          · exact .inl g1
        clear hgood
        rcases hbad with g1 | ⟨g1, g2⟩ | ⟨g1, g2, g3⟩ | ⟨g1, g2, g3, g4, g5⟩
        · have HNt := Lib.hid (pb_no g1)
          clear g1
          go_wp2_with (first | (go_at_call 42; refine (HN.out _).mono ?_; rintro e w1 ⟨rfl, rfl⟩; rw [HNt.out]) | fail)
          go_ret
          exact ⟨says_no HX.out, Hb.out⟩
        · have HNt := Lib.hid (pb_yes g1)
          have d1 : decide (p.op < 1) = true := by simp only [decide_eq_true_eq]; omega
          clear g1
          go_wp2_with (first | (go_at_call 42; refine (HN.out _).mono ?_; rintro e w1 ⟨rfl, rfl⟩; rw [HNt.out]) | fail)
          go_ret
          exact ⟨says_no HX.out, Hb.out⟩
        · have HNt := Lib.hid (pb_yes g1)
          have d1 : decide (p.op < 1) = false := by simp only [decide_eq_false_iff_not]; omega
          have d2 : decide (4 < p.op) = true := by simp only [decide_eq_true_eq]; omega
          clear g1
          go_wp2_with (first | (go_at_call 42; refine (HN.out _).mono ?_; rintro e w1 ⟨rfl, rfl⟩; rw [HNt.out]) | fail)
          go_ret
          exact ⟨says_no HX.out, Hb.out⟩
        · have HNt := Lib.hid (pb_yes g1)
          have HVt := Lib.hid (pb_no g5)
          have d1 : decide (p.op < 1) = false := by simp only [decide_eq_false_iff_not]; omega
          have d2 : decide (4 < p.op) = false := by simp only [decide_eq_false_iff_not]; omega
          have he := bytes_some g4
          clear g1 g5
          go_wp2_with (first | (go_at_call 42; refine (HN.out _).mono ?_; rintro e w1 ⟨rfl, rfl⟩; rw [HNt.out]) | (go_at_call 43; refine (HV.out _).mono ?_; rintro e w1 ⟨rfl, rfl⟩; rw [HVt.out]) | fail)
          go_ret
          exact ⟨says_no HX.out, Hb.out⟩
    · obtain rfl : k = l.length := by omega
      rw [List.take_length] at HR
      by_cases h16 : l.length ≤ 16
      · have d16 : decide ((l.length : Int) ≤ 16) = true := by simp only [decide_eq_true_eq]; omega
        go_wp2_with fail
        go_ret
        exact ⟨says_yes ⟨h16, HR.out⟩, Hb.out⟩
      · have d16 : decide ((l.length : Int) ≤ 16) = false := by simp only [decide_eq_false_iff_not]; omega
        go_wp2_with fail
        go_ret
        exact ⟨says_no (fun h => h16 h.1), Hb.out⟩

/-! ### the document's index -/
/-- a slice of sets that is read -/
def RdSets (w : World) (v : Value) (D : List (List Pr)) : Prop := ∃ us : List Value, us.length = D.length ∧ RdRow 1 w v D.length us ∧ ∀ (i : Nat) u d, us[i]? = some u → D[i]? = some d → RdP w u d
theorem RdSets.below {w w' : World} {v : Value} {D : List (List Pr)} (h : RdSets w v D) (hb : Below w.heap.size w w') : RdSets w' v D := by
  obtain ⟨us, h1, h2, h3⟩ := h
  exact ⟨us, h1, h2.below hb, fun i u d hu hd => (h3 i u d hu hd).below hb⟩
theorem RdSets.open {w : World} {v : Value} {D : List (List Pr)} (h : RdSets w v D) : ∃ a cap, v = .slice a D.length cap ∧ D.length ≤ cap ∧ cap ≤ 9223372036854775807 ∧
    ∀ (i : Nat) (d : List Pr), D[i]? = some d → ∃ b o u, a = some ⟨b, o, none⟩ ∧ b < w.heap.size ∧ w.cell? ⟨b, o + i, none⟩ = some u ∧ RdP w u d := by
  obtain ⟨us, h1, ⟨_, a, cap, rfl, h2, h3, _, h5⟩, h4⟩ := h
  refine ⟨a, cap, rfl, h2, h3, fun i d hi => ?_⟩
  obtain ⟨u, hu⟩ : ∃ u, us[i]? = some u := ⟨us[i]'(by rw [h1]; exact (List.getElem?_eq_some_iff.1 hi).1), List.getElem?_eq_getElem _⟩
  obtain ⟨b, o, rfl, hc⟩ := h5 i u hu
  exact ⟨b, o, u, rfl, World.block_lt_of_cell? w _ hc, hc, h4 i u d hu hi⟩
theorem hit_yes {l : List Rl} {D : List (List Pr)} {k : Nat} {d : List Pr} (h : D[k]? = some d) : (inOf l D)[k]? = some (allB l d) := by
  unfold inOf
  rw [List.getElem?_map, h]
  rfl

set_option maxHeartbeats 1000000 in
theorem reffind_bad (iv v : Value) (l : List Rl) (D : List (List Pr)) (w : World) (hi : RdSets w iv D) (hv : RdR w v l) (hf : FitR l) (hr : ¬ RightR l) :
    Calls Try.prog 21 #[.agg #[iv], v] w fun e w' => e = .returned (.tuple #[.slice none 0 0, .int .i64 50]) ∧ Below w.heap.size w w' := by
  obtain ⟨a, c, rfl, _⟩ := hv.open
  obtain ⟨ia, ic, rfl, _⟩ := hi.open
  have HV := Lib.hid hv
  have HF := Lib.hid hf
  have HR := Lib.hid (pb_no hr)
  clear hv hf hr hi
  go_enter Try.func21, Try.ntmps21
  go_wp2_with (first | (go_at_call 23; refine (refmright_any (.slice a l.length c) l _ (HV.out.below (below_alloc w _)) HF.out).mono ?_; rintro e w3 ⟨he, hb3⟩; obtain rfl := says_pb he; rw [HR.out]; have HB3 := Lib.hid (bel_trans (below_alloc w _) hb3); clear he hb3) | fail)
  refine bodyPost_ret (v := .tuple #[.slice none 0 0, .int .i64 50]) (by simp [results, Try.results21, go_sem, *]) rfl ?_
  exact ⟨rfl, HB3.out⟩

set_option maxHeartbeats 2000000 in
theorem reffind_yes (iv v : Value) (l : List Rl) (D : List (List Pr)) (w : World) (hi : RdSets w iv D) (hv : RdR w v l) (hf : FitR l) (hr : RightR l) (hD : ∀ d ∈ D, RightP d) (hl : D.length ≤ 61) :
    Calls Try.prog 21 #[.agg #[iv], v] w fun e w' => ∃ v', e = .returned (.tuple #[v', .int .i64 0]) ∧ Mine 3 1 w w' v' (foundL l D).length (ints (foundL l D)) := by
  obtain ⟨a, c, rfl, _⟩ := hv.open
  obtain ⟨ia, ic, rfl, hic, hbig, hcell⟩ := hi.open
  have Hcell := Lib.hid hcell
  have HV := Lib.hid hv
  have HF := Lib.hid hf
  have HRR := Lib.hid hr
  have HD := Lib.hid hD
  have HR := Lib.hid (pb_yes hr)
  clear hv hf hr hi hcell hD
  go_enter Try.func21, Try.ntmps21
  go_wp2_with (first | (go_at_call 23; refine (refmright_any (.slice a l.length c) l _ (HV.out.below (below_alloc w _)) HF.out).mono ?_; rintro e w3 ⟨he, hb3⟩; obtain rfl := says_pb he; rw [HR.out]; have HB3 := Lib.hid (bel_trans (below_alloc w _) hb3); have HX3 := Lib.hid ((Blk.new w #[.slice ia D.length ic] 48).next hb3); clear he hb3) | fail)
  have HM0 : Hid (Mine 3 1 w w3 (.slice none 0 0) (foundTo l D 0).length (ints (foundTo l D 0))) := Lib.hid ((mine_nil 3 1 w).below HB3.out)
  go_loopw [6, 7] (fun v i wr => ∃ k : Nat, k ≤ D.length ∧ i = .int .i64 k ∧ Hid (Mine 3 1 w wr v (foundTo l D k).length (ints (foundTo l D k))) ∧ Hid (Blk wr w.heap.size #[.slice ia D.length ic] 48)) (fun _ i _ => D.length - (intOf i).toNat)
  case atStart => exact ⟨0, by omega, rfl, HM0, HX3⟩
  case round =>
    clear HM0 HX3
    obtain ⟨k, hk, rfl, HM, HX⟩ := hrel
    have x0 : wr.cell? ⟨w.heap.size, 0, none⟩ = some (.slice ia D.length ic) := HX.out.cell 0
    have hxl := HX.out.lt
    by_cases hlt : k < D.length
    · obtain ⟨d, hd⟩ : ∃ x, D[k]? = some x := ⟨D[k], List.getElem?_eq_getElem hlt⟩
      obtain ⟨b, o, u, rfl, lb, c0, hu⟩ := Hcell.out k d hd
      obtain ⟨ua, uc, rfl, _⟩ := hu.open
      have c0' : wr.cell? ⟨b, o + k, none⟩ = some (.slice ua d.length uc) := (HM.out.2.2.cell (p := ⟨b, o + k, none⟩) lb).trans c0
      have HU := Lib.hid (hu.below HM.out.2.2)
      have HRd := Lib.hid (HD.out d (List.mem_of_getElem? hd))
      have HN := Lib.hid (found_next (hit_yes (l := l) hd))
      have Hfl := Lib.hid (found_le l D k)
      have hk1 : (0 : Int) ≤ (k : Int) := by omega
      have hk2 : (k : Int) < (D.length : Int) := by omega
      clear c0 hu hd
      cases hh : allB l d with
      | true =>
        have HH := Lib.hid hh
        have HX1 : Hid (foundTo l D (k + 1) = foundTo l D k ++ [k]) := Lib.hid (by rw [HN.out, hh]; rfl)
        clear hh
        go_wp2_with (first
          | (go_at_call 41; refine (all_ref (.slice a l.length c) (.slice ua d.length uc) l d _ (HV.out.below HM.out.2.2) HU.out (fun r hr => ⟨(HRR.out.2 r hr).2.1, (HRR.out.2 r hr).2.2.1⟩) HF.out (fun nm => by have := getL_size HRd.out nm; omega)).mono ?_; rintro e w4 ⟨rfl, hb4⟩; rw [HH.out]; have HB4 := Lib.hid hb4; clear hb4)
          | (at_builtin; apply Hold.mk))
        unfold Hold
        refine mine_app rfl _ _ 52 rfl ok52 (by rfl) (by rfl) (HM.out.below HB4.out) (by repeat (first | exact bel_refl _ | apply bel_alloc | apply bel_drew)) (by exact rd_lit 1 #[.int .i64 (k : Int)] 1 (by simp) one_le rfl) (one_int (k : Int)) (by have := Hfl.out; simp only [maxLen]; omega) (by have := Hfl.out; omega) ?_
        intro v7 w7 hm7 hg7
        have HO7 : Hid (Mine 3 1 w w7 v7 (foundTo l D (k + 1)).length (ints (foundTo l D (k + 1)))) := Lib.hid (by rw [HX1.out, ints_snoc, List.length_append]; exact hm7)
        have HX7 : Hid (Blk w7 w.heap.size #[.slice (some ⟨b, o, none⟩) D.length ic] 48) := Lib.hid (((HX.out.next HB4.out).next (below_alloc _ _)).grown hg7 (own_no_blk (HM.out.below HB4.out).1 (HX.out.next HB4.out) (by decide)))
        clear hm7 hg7
        go_wp2_with fail
        go_roundw
        case rel => exact ⟨k + 1, by omega, by go_num, HO7, HX7⟩
        case measure => simp [intOf]; omega
      | false =>
        have HH := Lib.hid hh
        have HX1 : Hid (foundTo l D (k + 1) = foundTo l D k) := Lib.hid (by rw [HN.out, hh]; rfl)
        clear hh
        go_wp2_with (first
          | (go_at_call 41; refine (all_ref (.slice a l.length c) (.slice ua d.length uc) l d _ (HV.out.below HM.out.2.2) HU.out (fun r hr => ⟨(HRR.out.2 r hr).2.1, (HRR.out.2 r hr).2.2.1⟩) HF.out (fun nm => by have := getL_size HRd.out nm; omega)).mono ?_; rintro e w4 ⟨rfl, hb4⟩; rw [HH.out]; have HB4 := Lib.hid hb4; clear hb4)
          | fail)
        go_roundw
        case rel => exact ⟨k + 1, by omega, by go_num, Lib.hid (by rw [HX1.out]; exact HM.out.below HB4.out), Lib.hid (HX.out.next HB4.out)⟩
        case measure => simp [intOf]; omega
    · obtain rfl : k = D.length := by omega
      obtain ⟨_, oa, oc, rfl, _⟩ := HM.out.rd
      go_wp2_with fail
      refine bodyPost_ret (v := .tuple #[.slice oa (foundTo l D D.length).length oc, .int .i64 0]) (by simp [results, Try.results21, go_sem, *]) rfl ?_
      exact ⟨_, rfl, HM.out⟩
end Go.Proofs.Ytmmilgcbjpbelaa
