/- The document's index: unlike sets compare unlike (46, 28); Add (38). -/
import Derived.Test.YtmmilgcbjpbelaaWM
namespace Go.Proofs.Ytmmilgcbjpbelaa
open Go.RowKit Go.Kt Go.Ix

def NotZero (e : Ending) : Prop := ∃ z : Int, (z = 1 ∨ z = -1) ∧ e = .returned (.int .i64 z)
theorem drew_some {w W : World} (h : ∃ t, W = w.drewN t) (n : Nat) : ∃ t, W.drewN n = w.drewN t := by
  obtain ⟨t, rfl⟩ := h
  exact ⟨_, World.drewN_drewN _ _ _⟩
theorem take_eq {l m : List Pr} (h : l.take l.length = m.take l.length) (hl : m.length ≤ l.length) : l = m := by
  rw [List.take_length, List.take_of_length_le hl] at h
  exact h
set_option maxHeartbeats 2000000 in
theorem compare_no (v u : Value) (l m : List Pr) (w : World) (hv : RdP w v l) (hu : RdP w u m) (hne : l ≠ m) :
    Calls Try.prog 46 #[v, u] w fun e w' => NotZero e ∧ ∃ t, w' = w.drewN t := by
  obtain ⟨a, cap, rfl, hcap, hbig, hcell⟩ := hv.open
  obtain ⟨a2, cap2, rfl, hcap2, hbig2, hcell2⟩ := hu.open
  have Hcell := Lib.hid hcell
  have Hcell2 := Lib.hid hcell2
  have HNE := Lib.hid hne
  clear hcell hv hcell2 hu hne
  go_enter Try.func46, Try.ntmps46
  go_wp2_with fail
  go_loopw [5] (fun i wr => ∃ k : Nat, k ≤ l.length ∧ k ≤ m.length ∧ i = .int .i64 k ∧ Hid (l.take k = m.take k) ∧ Hid (∃ t, wr = w.drewN t)) (fun i _ => l.length - (intOf i).toNat)
  case atStart => exact ⟨0, by omega, by omega, rfl, Lib.hid rfl, Lib.hid ⟨0, rfl⟩⟩
  case round =>
    obtain ⟨k, hk, hkm, rfl, HE, HT⟩ := hrel
    have Hb : Hid (Below w.heap.size w wr) := Lib.hid (by
      obtain ⟨t, ht⟩ := HT.out
      rw [ht]
      exact bel_drewN (bel_refl w) t)
    by_cases hlt : k < l.length
    · by_cases hlm : k < m.length
      · obtain ⟨p, hp⟩ : ∃ x, l[k]? = some x := ⟨l[k], List.getElem?_eq_getElem hlt⟩
        obtain ⟨q, hq⟩ : ∃ x, m[k]? = some x := ⟨m[k], List.getElem?_eq_getElem hlm⟩
        obtain ⟨b, o, rfl, c1, c2⟩ := Hcell.out k p hp
        obtain ⟨b2, o2, rfl, d1, d2⟩ := Hcell2.out k q hq
        have lb := World.block_lt_of_cell? w _ c1
        have ld := World.block_lt_of_cell? w _ d1
        have c1' : wr.cell? ⟨b, o + k * 2, none⟩ = some (.string p.n) := (Hb.out.cell (p := ⟨b, o + k * 2, none⟩) lb).trans c1
        have c2' : wr.cell? ⟨b, o + k * 2 + 1, none⟩ = some (.string p.v) := (Hb.out.cell (p := ⟨b, o + k * 2 + 1, none⟩) lb).trans c2
        have d1' : wr.cell? ⟨b2, o2 + k * 2, none⟩ = some (.string q.n) := (Hb.out.cell (p := ⟨b2, o2 + k * 2, none⟩) ld).trans d1
        have d2' : wr.cell? ⟨b2, o2 + k * 2 + 1, none⟩ = some (.string q.v) := (Hb.out.cell (p := ⟨b2, o2 + k * 2 + 1, none⟩) ld).trans d2
        have hk1 : (0 : Int) ≤ (k : Int) := by omega
        have hk2 : (k : Int) < (l.length : Int) := by omega
        have hk3 : (k : Int) < (m.length : Int) := by omega
        have HX : Hid (p = q → l.take (k + 1) = m.take (k + 1)) := Lib.hid (fun e => by
          obtain ⟨h1, e1⟩ := List.getElem?_eq_some_iff.1 hp
          obtain ⟨h2, e2⟩ := List.getElem?_eq_some_iff.1 hq
          rw [List.take_succ_eq_append_getElem h1, List.take_succ_eq_append_getElem h2, HE.out, e1, e2, e])
        clear c1 c2 d1 d2 lb ld hp hq
        by_cases hn : p.n = q.n
        · by_cases hvv : p.v = q.v
          · have HX2 := Lib.hid (HX.out (Pr.ext' hn hvv))
            rw [← hn] at d1'
            rw [← hvv] at d2'
            clear hn hvv HX
            go_wp2_with fail
            go_quiet (fail)
            go_wp2_with fail
            go_quiet (fail)
            go_wp2_with fail
            go_roundw
            case rel => exact ⟨k + 1, by omega, by omega, by go_num, HX2, Lib.hid (by repeat (first | exact HT.out | apply drew_some))⟩
            case measure => simp [intOf]; omega
          · have hvb : (p.v.toList == q.v.toList) = false := by
              rw [beq_eq_false_iff_ne]
              exact fun e => hvv (toList_inj e)
            rw [← hn] at d1'
            clear hn hvv HX
            cases hl : Op.bytesLess p.v.toList q.v.toList with
            | true =>
              go_wp2_with fail
              go_quiet (fail)
              go_wp2_with fail
              go_quiet (fail)
              go_wp2_with fail
              go_quiet (fail)
              go_wp2_with fail
              go_ret
              exact ⟨⟨-1, .inr rfl, rfl⟩, by repeat (first | exact HT.out | apply drew_some)⟩
            | false =>
              go_wp2_with fail
              go_quiet (fail)
              go_wp2_with fail
              go_quiet (fail)
              go_wp2_with fail
              go_quiet (fail)
              go_wp2_with fail
              go_ret
              exact ⟨⟨1, .inl rfl, rfl⟩, by repeat (first | exact HT.out | apply drew_some)⟩
        · have hnb : (p.n.toList == q.n.toList) = false := by
            rw [beq_eq_false_iff_ne]
            exact fun e => hn (toList_inj e)
          clear hn HX
          cases hl : Op.bytesLess p.n.toList q.n.toList with
          | true =>
            go_wp2_with fail
            go_quiet (fail)
            go_wp2_with fail
            go_quiet (fail)
            go_wp2_with fail
            go_ret
            exact ⟨⟨-1, .inr rfl, rfl⟩, by repeat (first | exact HT.out | apply drew_some)⟩
          | false =>
            go_wp2_with fail
            go_quiet (fail)
            go_wp2_with fail
            go_quiet (fail)
            go_wp2_with fail
            go_ret
            exact ⟨⟨1, .inl rfl, rfl⟩, by repeat (first | exact HT.out | apply drew_some)⟩
      · have d1 : decide ((k : Int) < (m.length : Int)) = false := by simp only [decide_eq_false_iff_not]; omega
        have d2 : decide (m.length < l.length) = true := by simp only [decide_eq_true_eq]; omega
        go_wp2_with fail
        go_ret
        exact ⟨⟨1, .inl rfl, rfl⟩, HT.out⟩
    · obtain rfl : k = l.length := by omega
      by_cases hlm : l.length < m.length
      · go_wp2_with fail
        go_ret
        exact ⟨⟨-1, .inr rfl, rfl⟩, HT.out⟩
      · exact absurd (take_eq HE.out (by omega)) HNE.out
theorem same_no (v u : Value) (l m : List Pr) (w : World) (hv : RdP w v l) (hu : RdP w u m) (hne : l ≠ m) :
    Calls Try.prog 28 #[v, u] w fun e w' => e = .returned (.bool false) ∧ ∃ t, w' = w.drewN t := by
  have HV := Lib.hid hv
  have HU := Lib.hid hu
  have HNE := Lib.hid hne
  clear hv hu hne
  go_enter Try.func28, Try.ntmps28
  go_wp2_with (first | (go_at_call 46; refine (compare_no v u l m w HV.out HU.out HNE.out).mono ?_; rintro e w2 ⟨⟨z, hz, rfl⟩, ht⟩; have HT := Lib.hid ht; have hz0 : (z == 0) = false := (by rw [beq_eq_false_iff_ne]; omega); clear hz ht) | fail)
  go_ret
  exact ⟨rfl, HT.out⟩

theorem ok44 : ElemOk Try.prog 44 62 (.slice none 0 0) 1 24 := ⟨Try.underlying44, info_parts (by kernel_rfl), rfl, by decide⟩
set_option maxHeartbeats 1000000 in
theorem refadd_bad (iv v : Value) (d : List Pr) (D : List (List Pr)) (w : World) (hi : RdSets w iv D) (hv : RdP w v d) (hf : Fit d) (hr : ¬ RightP d) :
    Calls Try.prog 38 #[.agg #[iv], v] w fun e w' => e = .returned (.tuple #[.int .i64 0, .int .i64 40, .agg #[iv]]) ∧ Below w.heap.size w w' := by
  obtain ⟨a, c, rfl, _⟩ := hv.open
  obtain ⟨ia, ic, rfl, _⟩ := hi.open
  have HV := Lib.hid hv
  have HF := Lib.hid hf
  have HR := Lib.hid (pb_no hr)
  clear hv hf hr hi
  go_enter Try.func38, Try.ntmps38
  go_wp2_with (first | (go_at_call 52; refine (refright_any (.slice a d.length c) d _ (HV.out.below ((below_alloc w _).trans ((below_alloc _ _).mono (by simp)))) HF.out).mono ?_; rintro e w3 ⟨he, t, rfl⟩; obtain rfl := says_pb he; rw [HR.out]; clear he) | fail)
  go_region
  all_goals
    go_wp2_with fail
    refine bodyPost_ret (v := .tuple #[.int .i64 0, .int .i64 40, .agg #[.slice ia D.length ic]]) (by simp [results, Try.results38, go_sem, *]) rfl ?_
    exact ⟨rfl, by repeat (first | exact bel_refl _ | apply bel_drewN | refine bel_set ?_ (Nat.le_succ _) | apply bel_alloc | apply bel_drew)⟩

theorem right_nd {D : List (List Pr)} {i : Nat} {d : List Pr} (hnd : D.Nodup) (hd : D[i]? = some d) : ∀ j e, j < i → D[j]? = some e → e ≠ d := by
  intro j e hj he h
  subst h
  obtain ⟨h1, e1⟩ := List.getElem?_eq_some_iff.1 hd
  obtain ⟨h2, e2⟩ := List.getElem?_eq_some_iff.1 he
  exact List.pairwise_iff_getElem.1 hnd j i h2 h1 hj (by rw [e1, e2])
set_option maxHeartbeats 2000000 in
theorem refadd_old (iv v : Value) (d : List Pr) (i : Nat) (D : List (List Pr)) (w : World) (hi : RdSets w iv D) (hv : RdP w v d) (hr : RightP d) (hnd : D.Nodup) (hd : D[i]? = some d) (hl : D.length ≤ 61) :
    Calls Try.prog 38 #[.agg #[iv], v] w fun e w' => e = .returned (.tuple #[.int .i64 (i : Int), .int .i64 0, .agg #[iv]]) ∧ Below w.heap.size w w' := by
  obtain ⟨a, c, rfl, hcl1⟩ := hv.open
  obtain ⟨ia, ic, rfl, hcl2, hbig, hcell⟩ := hi.open
  have Hcell := Lib.hid hcell
  have HV := Lib.hid hv
  have HF := Lib.hid (right_fit hr)
  have HR := Lib.hid (pb_yes hr)
  have HND := Lib.hid (right_nd hnd hd)
  have HD := Lib.hid hd
  have hil : i < D.length := (List.getElem?_eq_some_iff.1 hd).1
  clear hv hr hi hcell hcl1 hnd hd
  go_enter Try.func38, Try.ntmps38
  go_wp2_with (first | (go_at_call 52; refine (refright_any (.slice a d.length c) d _ (HV.out.below ((below_alloc w _).trans ((below_alloc _ _).mono (by simp)))) HF.out).mono ?_; rintro e w3 ⟨he, t, rfl⟩; obtain rfl := says_pb he; rw [HR.out]; clear he) | fail)
  have HX3 := Lib.hid ((Blk.new w #[.slice ia D.length ic] 48).next (below_alloc _ (.cells #[.slice none 0 0] 48)))
  have HZ3 := Lib.hid (Blk.new (w.alloc (.cells #[.slice ia D.length ic] 48)) #[.slice none 0 0] 48)
  have HB3 := Lib.hid (bel_drewN (bel_alloc (o := .cells #[.slice none 0 0] 48) (below_alloc w (.cells #[.slice ia D.length ic] 48))) t)
  have Hz : Hid ((((w.alloc (.cells #[.slice ia D.length ic] 48)).alloc (.cells #[.slice none 0 0] 48)).drewN t).heap.size = w.heap.size + 2) := Lib.hid (by simp)
  simp only [World.size_alloc] at HZ3
  obtain ⟨w4, h4⟩ : ∃ x, x = ((w.alloc (.cells #[.slice ia D.length ic] 48)).alloc (.cells #[.slice none 0 0] 48)).drewN t := ⟨_, rfl⟩
  have HX4 : Hid (Blk w4 w.heap.size #[.slice ia D.length ic] 48) := Lib.hid (by rw [h4]; exact HX3.out)
  have HZ4 : Hid (Blk w4 (w.heap.size + 1) #[.slice none 0 0] 48) := Lib.hid (by rw [h4]; exact HZ3.out)
  rw [← h4] at HB3 Hz ⊢
  clear HX3 HZ3 h4
  go_loopw [7] (fun j wr => ∃ k : Nat, k ≤ i ∧ j = .int .i64 k ∧ Hid (∃ t, wr = w4.drewN t)) (fun j _ => D.length - (intOf j).toNat)
  case atStart => exact ⟨0, by omega, rfl, Lib.hid ⟨0, rfl⟩⟩
  case round =>
    obtain ⟨k, hk, rfl, HT⟩ := hrel
    have HBr : Hid (Below w4.heap.size w4 wr) := Lib.hid (by
      obtain ⟨t, ht⟩ := HT.out
      rw [ht]
      exact bel_drewN (bel_refl w4) t)
    have HX := Lib.hid (HX4.out.next HBr.out)
    have HZ := Lib.hid (HZ4.out.next HBr.out)
    have x0 : wr.cell? ⟨w.heap.size, 0, none⟩ = some (.slice ia D.length ic) := HX.out.cell 0
    have z0 : wr.cell? ⟨w.heap.size + 1, 0, none⟩ = some (.slice none 0 0) := HZ.out.cell 0
    have z1 : wr.frozen? ⟨w.heap.size + 1, 0, none⟩ = false := HZ.out.free 0
    have hxl := HX.out.lt
    have hzl := HZ.out.lt
    obtain ⟨dk, hdk⟩ : ∃ x, D[k]? = some x := ⟨D[k]'(by omega), List.getElem?_eq_getElem (by omega)⟩
    obtain ⟨b, o, u, rfl, lb, c0, hu⟩ := Hcell.out k dk hdk
    obtain ⟨ua, uc, rfl, _⟩ := hu.open
    have HBw := Lib.hid (bel_trans HB3.out HBr.out)
    have c0' : wr.cell? ⟨b, o + k, none⟩ = some (.slice ua dk.length uc) := (HBw.out.cell (p := ⟨b, o + k, none⟩) lb).trans c0
    have HU := Lib.hid (hu.below HBw.out)
    have HVr := Lib.hid (HV.out.below HBw.out)
    have hk1 : (0 : Int) ≤ (k : Int) := by omega
    have hk2 : (k : Int) < (D.length : Int) := by omega
    by_cases hki : k < i
    · have HNe := Lib.hid (HND.out k dk hki hdk)
      clear c0 hu hdk
      go_wp2_with (first
        | (go_at_call 28; refine (same_no (.slice ua dk.length uc) (.slice a d.length c) dk d _ HU.out HVr.out HNe.out).mono ?_; rintro e w5 ⟨rfl, t5, rfl⟩)
        | fail)
      go_roundw
      case rel => exact ⟨k + 1, by omega, by go_num, Lib.hid (drew_some HT.out _)⟩
      case measure => simp [intOf]; omega
    · obtain rfl : i = k := by omega
      have e : dk = d := by rw [HD.out] at hdk; exact (Option.some.inj hdk).symm
      subst e
      clear c0 hu hdk
      go_wp2_with (first
        | (go_at_call 28; refine (same_yes (.slice ua dk.length uc) (.slice a dk.length c) dk _ HU.out HVr.out).mono ?_; rintro e w5 ⟨rfl, t5, rfl⟩)
        | fail)
      go_region
      all_goals
        go_wp2_with fail
        refine bodyPost_ret (v := .tuple #[.int .i64 (i : Int), .int .i64 0, .agg #[.slice (some ⟨b, o, none⟩) D.length ic]]) (by simp [results, Try.results38, go_sem, *]) rfl ?_
        exact ⟨rfl, by repeat (first | exact HBw.out | apply bel_drewN | refine bel_set ?_ (Nat.le_succ _) | apply bel_alloc | apply bel_drew)⟩

/-- the rows of sets that a call of Add lays -/
def RowsTo (w : World) (us : List Value) (D : List (List Pr)) : Prop := ∀ (i : Nat) u x, us[i]? = some u → D[i]? = some x → RdP w u x
theorem rowsTo_snoc {w : World} {us : List Value} {D : List (List Pr)} {k : Nat} {u : Value} {x : List Pr} (h : RowsTo w us D) (hl : us.length = k) (hx : D[k]? = some x) (hu : RdP w u x) : RowsTo w (us ++ [u]) D := by
  intro i v y hv hy
  by_cases hi : i < us.length
  · rw [List.getElem?_append_left hi] at hv
    exact h i v y hv hy
  · have := (List.getElem?_eq_some_iff.1 hv).1
    simp only [List.length_append, List.length_singleton] at this
    obtain rfl : i = us.length := by omega
    rw [hl, hx] at hy
    simp at hv
    cases hy
    subst hv
    exact hu
/-- a row of slices that is read; the sets themselves as they stood in w0 -/
def RdDoc (w0 w : World) (v : Value) (D : List (List Pr)) : Prop := ∃ us : List Value, us.length = D.length ∧ RdRow 1 w v D.length us ∧ RowsTo w0 us D
theorem RdDoc.open {w0 w : World} {v : Value} {D : List (List Pr)} (h : RdDoc w0 w v D) : ∃ a cap, v = .slice a D.length cap ∧ D.length ≤ cap ∧ cap ≤ 9223372036854775807 ∧
    ∀ (i : Nat) (d : List Pr), D[i]? = some d → ∃ b o u, a = some ⟨b, o, none⟩ ∧ b < w.heap.size ∧ w.cell? ⟨b, o + i, none⟩ = some u ∧ RdP w0 u d := by
  obtain ⟨us, h1, ⟨_, a, cap, rfl, h2, h3, _, h5⟩, h4⟩ := h
  refine ⟨a, cap, rfl, h2, h3, fun i d hi => ?_⟩
  obtain ⟨u, hu⟩ : ∃ u, us[i]? = some u := ⟨us[i]'(by rw [h1]; exact (List.getElem?_eq_some_iff.1 hi).1), List.getElem?_eq_getElem _⟩
  obtain ⟨b, o, rfl, hc⟩ := h5 i u hu
  exact ⟨b, o, u, rfl, World.block_lt_of_cell? w _ hc, hc, h4 i u d hu hi⟩
set_option maxHeartbeats 4000000 in
theorem refadd_new (iv v : Value) (d : List Pr) (D : List (List Pr)) (w0 w : World) (hb0 : Below w0.heap.size w0 w) (hi : RdDoc w0 w iv D) (hv : RdP w0 v d) (hr : RightP d) (hnd : d ∉ D) (hl : D.length ≤ 60) :
    Calls Try.prog 38 #[.agg #[iv], v] w fun e w' => ∃ v' us, e = .returned (.tuple #[.int .i64 (D.length : Int), .int .i64 0, .agg #[v']]) ∧ Mine 62 1 w w' v' (D.length + 1) us ∧ us.length = D.length + 1 ∧ RowsTo w0 us (D ++ [d]) := by
  obtain ⟨a, c, rfl, hcl1⟩ := hv.open
  obtain ⟨ia, ic, rfl, hcl2, hbig, hcell⟩ := hi.open
  have Hcell := Lib.hid hcell
  have HV0 := Lib.hid hv
  have HV := Lib.hid (hv.below hb0)
  have Hb0 := Lib.hid hb0
  have HF := Lib.hid (right_fit hr)
  have HR := Lib.hid (pb_yes hr)
  have HND := Lib.hid hnd
  clear hv hr hi hcell hcl1 hnd hb0
  go_enter Try.func38, Try.ntmps38
  go_wp2_with (first | (go_at_call 52; refine (refright_any (.slice a d.length c) d _ (HV.out.below ((below_alloc w _).trans ((below_alloc _ _).mono (by simp)))) HF.out).mono ?_; rintro e w3 ⟨he, t, rfl⟩; obtain rfl := says_pb he; rw [HR.out]; clear he) | fail)
  have HX3 := Lib.hid ((Blk.new w #[.slice ia D.length ic] 48).next (below_alloc _ (.cells #[.slice none 0 0] 48)))
  have HZ3 := Lib.hid (Blk.new (w.alloc (.cells #[.slice ia D.length ic] 48)) #[.slice none 0 0] 48)
  have HB3 := Lib.hid (bel_drewN (bel_alloc (o := .cells #[.slice none 0 0] 48) (below_alloc w (.cells #[.slice ia D.length ic] 48))) t)
  simp only [World.size_alloc] at HZ3
  obtain ⟨w4, h4⟩ : ∃ x, x = ((w.alloc (.cells #[.slice ia D.length ic] 48)).alloc (.cells #[.slice none 0 0] 48)).drewN t := ⟨_, rfl⟩
  have HX4 : Hid (Blk w4 w.heap.size #[.slice ia D.length ic] 48) := Lib.hid (by rw [h4]; exact HX3.out)
  have HZ4 : Hid (Blk w4 (w.heap.size + 1) #[.slice none 0 0] 48) := Lib.hid (by rw [h4]; exact HZ3.out)
  rw [← h4] at HB3 ⊢
  clear HX3 HZ3 h4
  go_loopw [7] (fun j wr => ∃ k : Nat, k ≤ D.length ∧ j = .int .i64 k ∧ Hid (∃ t, wr = w4.drewN t)) (fun j _ => D.length - (intOf j).toNat)
  case atStart => exact ⟨0, by omega, rfl, Lib.hid ⟨0, rfl⟩⟩
  case round =>
    obtain ⟨k, hk, rfl, HT⟩ := hrel
    have HBr : Hid (Below w4.heap.size w4 wr) := Lib.hid (by
      obtain ⟨t, ht⟩ := HT.out
      rw [ht]
      exact bel_drewN (bel_refl w4) t)
    have HX := Lib.hid (HX4.out.next HBr.out)
    have HZ := Lib.hid (HZ4.out.next HBr.out)
    have x0 : wr.cell? ⟨w.heap.size, 0, none⟩ = some (.slice ia D.length ic) := HX.out.cell 0
    have hxl := HX.out.lt
    have HBw := Lib.hid (bel_trans HB3.out HBr.out)
    by_cases hlt : k < D.length
    · obtain ⟨dk, hdk⟩ : ∃ x, D[k]? = some x := ⟨D[k]'(by omega), List.getElem?_eq_getElem (by omega)⟩
      obtain ⟨b, o, u, rfl, lb, c0, hu⟩ := Hcell.out k dk hdk
      obtain ⟨ua, uc, rfl, _⟩ := hu.open
      have c0' : wr.cell? ⟨b, o + k, none⟩ = some (.slice ua dk.length uc) := (HBw.out.cell (p := ⟨b, o + k, none⟩) lb).trans c0
      have HU := Lib.hid (hu.below (bel_trans Hb0.out HBw.out))
      have HVr := Lib.hid (HV.out.below HBw.out)
      have hk1 : (0 : Int) ≤ (k : Int) := by omega
      have hk2 : (k : Int) < (D.length : Int) := by omega
      have HNe : Hid (dk ≠ d) := Lib.hid (fun e => HND.out (e ▸ List.mem_of_getElem? hdk))
      clear c0 hu hdk
      go_wp2_with (first
        | (go_at_call 28; refine (same_no (.slice ua dk.length uc) (.slice a d.length c) dk d _ HU.out HVr.out HNe.out).mono ?_; rintro e w5 ⟨rfl, t5, rfl⟩)
        | fail)
      go_roundw
      case rel => exact ⟨k + 1, by omega, by go_num, Lib.hid (drew_some HT.out _)⟩
      case measure => simp [intOf]; omega
    · obtain rfl : k = D.length := by omega
      have hg1 : decide (65536 ≤ (D.length : Int)) = false := by simp only [decide_eq_false_iff_not]; omega
      have hg2 : decide (65536 ≤ D.length) = false := by simp only [decide_eq_false_iff_not]; omega
      go_wp2_with fail
      have HM0 : Hid (Mine 62 1 w wr (.slice none 0 0) 0 []) := Lib.hid ((mine_nil 62 1 w).below HBw.out)
      obtain ⟨wo, rfl⟩ : ∃ x, x = wr := ⟨_, rfl⟩
      have HX0 := HX
      have HZ0 := HZ
      clear x0 HX HZ HT HBr HBw hxl
      go_loopw [8, 9] (fun lv j wr => ∃ (k : Nat) (us : List Value), k ≤ D.length ∧ j = .int .i64 k ∧ Hid (us.length = k ∧ RowsTo w0 us D) ∧ Hid (Mine 62 1 w wr lv k us) ∧ Hid (Blk wr w.heap.size #[.slice ia D.length ic] 48) ∧ Hid (Blk wr (w.heap.size + 1) #[.slice none 0 0] 48)) (fun _ j _ => D.length - (intOf j).toNat)
      case atStart => exact ⟨0, [], by omega, rfl, Lib.hid ⟨rfl, fun i u x h => by simp at h⟩, HM0, HX0, HZ0⟩
      case round =>
        clear HX0 HZ0 HM0
        obtain ⟨k, us, hk, rfl, HUs, HM, HX, HZ⟩ := hrel
        have x0 : wr.cell? ⟨w.heap.size, 0, none⟩ = some (.slice ia D.length ic) := HX.out.cell 0
        have hxl := HX.out.lt
        by_cases hlt : k < D.length
        · obtain ⟨dk, hdk⟩ : ∃ x, D[k]? = some x := ⟨D[k]'(by omega), List.getElem?_eq_getElem (by omega)⟩
          obtain ⟨b, o, u, rfl, lb, c0, hu⟩ := Hcell.out k dk hdk
          obtain ⟨ua, uc, rfl, _⟩ := hu.open
          have c0' : wr.cell? ⟨b, o + k, none⟩ = some (.slice ua dk.length uc) := (HM.out.2.2.cell (p := ⟨b, o + k, none⟩) lb).trans c0
          have HN := Lib.hid (rowsTo_snoc HUs.out.2 HUs.out.1 hdk hu)
          have hk1 : (0 : Int) ≤ (k : Int) := by omega
          have hk2 : (k : Int) < (D.length : Int) := by omega
          clear c0 hu hdk
          go_wp2_with (at_builtin; apply Hold.mk)
          unfold Hold
          refine mine_app rfl _ _ 44 rfl ok44 (by rfl) (by rfl) HM.out (by repeat (first | exact bel_refl _ | apply bel_alloc | apply bel_drew)) (by exact rd_lit 1 #[.slice ua dk.length uc] 1 (by simp) one_le rfl) (one_slice _ _ _) (by simp only [maxLen]; omega) (by omega) ?_
          intro v7 w7 hm7 hg7
          have HM7 : Hid (Mine 62 1 w w7 v7 (k + 1) (us ++ [.slice ua dk.length uc])) := Lib.hid hm7
          have HX7 : Hid (Blk w7 w.heap.size #[.slice (some ⟨b, o, none⟩) D.length ic] 48) := Lib.hid ((HX.out.next (below_alloc _ _)).grown hg7 (own_no_blk HM.out.1 HX.out (by decide)))
          have HZ7 : Hid (Blk w7 (w.heap.size + 1) #[.slice none 0 0] 48) := Lib.hid ((HZ.out.next (below_alloc _ _)).grown hg7 (own_no_blk HM.out.1 HZ.out (by decide)))
          clear hm7 hg7
          go_wp2_with fail
          go_roundw
          case rel => exact ⟨k + 1, _, by omega, by go_num, Lib.hid ⟨by rw [List.length_append, HUs.out.1]; rfl, HN.out⟩, HM7, HX7, HZ7⟩
          case measure => simp [intOf]; omega
        · obtain rfl : k = D.length := by omega
          have HRow : Hid (RowsTo w0 (us ++ [.slice a d.length c]) (D ++ [d])) := Lib.hid (fun i u x hu hx => by
            by_cases hi : i < D.length
            · rw [List.getElem?_append_left (by rw [HUs.out.1]; exact hi)] at hu
              rw [List.getElem?_append_left hi] at hx
              exact HUs.out.2 i u x hu hx
            · have := (List.getElem?_eq_some_iff.1 hx).1
              simp only [List.length_append, List.length_singleton] at this
              obtain rfl : i = D.length := by omega
              have h1 := HUs.out.1
              rw [← h1] at hu
              simp at hu hx
              subst hx
              subst hu
              exact HV0.out)
          obtain ⟨_, oa, oc, rfl, _⟩ := HM.out.rd
          go_upto_region 16 with (first | (at_builtin; apply Hold.mk) | fail)
          unfold Hold
          refine mine_app rfl _ _ 44 rfl ok44 (by rfl) (by rfl) HM.out (by repeat (first | exact bel_refl _ | apply bel_alloc | apply bel_drew)) (by exact rd_lit 1 #[.slice a d.length c] 1 (by simp) one_le rfl) (one_slice _ _ _) (by simp only [maxLen]; omega) (by omega) ?_
          intro v7 w7 hm7 hg7
          have HM7 : Hid (Mine 62 1 w w7 v7 (D.length + 1) (us ++ [.slice a d.length c])) := Lib.hid hm7
          have HX7 : Hid (Blk w7 w.heap.size #[.slice ia D.length ic] 48) := Lib.hid ((HX.out.next (below_alloc _ _)).grown hg7 (own_no_blk HM.out.1 HX.out (by decide)))
          have HZ7 : Hid (Blk w7 (w.heap.size + 1) #[.slice none 0 0] 48) := Lib.hid ((HZ.out.next (below_alloc _ _)).grown hg7 (own_no_blk HM.out.1 HZ.out (by decide)))
          clear hm7 hg7 x0
          obtain ⟨_, a7, c7, rfl, _⟩ := HM7.out.rd
          have x7 : w7.cell? ⟨w.heap.size, 0, none⟩ = some (.slice ia D.length ic) := HX7.out.cell 0
          have x7f : w7.frozen? ⟨w.heap.size, 0, none⟩ = false := HX7.out.free 0
          go_upto_region 16 with (fail)
          have HX8 : Hid (Blk (w7.setCell ⟨w.heap.size, 0, none⟩ (.slice a7 (D.length + 1) c7)) w.heap.size #[.slice a7 (D.length + 1) c7] 48) := Lib.hid (HX7.out.set 0 _)
          have HZ8 : Hid (Blk (w7.setCell ⟨w.heap.size, 0, none⟩ (.slice a7 (D.length + 1) c7)) (w.heap.size + 1) #[.slice none 0 0] 48) := Lib.hid (HZ7.out.other (by simp) _)
          have HM8 : Hid (Mine 62 1 w (w7.setCell ⟨w.heap.size, 0, none⟩ (.slice a7 (D.length + 1) c7)) (.slice a7 (D.length + 1) c7) (D.length + 1) (us ++ [.slice a d.length c])) := Lib.hid ⟨own_set HM7.out.1 (fun b hb e => own_no_blk HM7.out.1 HX7.out (by decide) (by rw [hb, e])) _, HM7.out.2.1, bel_set HM7.out.2.2 (Nat.le_refl _)⟩
          clear x7 x7f
          generalize w7.setCell ⟨w.heap.size, 0, none⟩ (.slice a7 (D.length + 1) c7) = w8 at *
          have x0 : w8.cell? ⟨w.heap.size, 0, none⟩ = some (.slice a7 (D.length + 1) c7) := HX8.out.cell 0
          have z0 : w8.cell? ⟨w.heap.size + 1, 0, none⟩ = some (.slice none 0 0) := HZ8.out.cell 0
          have z1 : w8.frozen? ⟨w.heap.size + 1, 0, none⟩ = false := HZ8.out.free 0
          have hxl8 := HX8.out.lt
          have hzl8 := HZ8.out.lt
          go_region
          all_goals
            go_wp2_with fail
            refine bodyPost_ret (v := .tuple #[.int .i64 (D.length : Int), .int .i64 0, .agg #[.slice a7 (D.length + 1) c7]]) (by simp [results, Try.results38, go_sem, *]) rfl ?_
            exact ⟨_, _, rfl, ⟨own_set (Own.below' HM8.out.1 (by repeat (first | exact bel_refl _ | apply bel_drewN | apply bel_alloc | apply bel_drew))) (fun b hb e => own_no_blk HM8.out.1 HZ8.out (by decide) (by rw [hb, e])) _, HM8.out.2.1, by repeat (first | exact HM8.out.2.2 | apply bel_drewN | refine bel_set ?_ (Nat.le_succ _) | apply bel_alloc | apply bel_drew)⟩, by rw [List.length_append, HUs.out.1]; rfl, HRow.out⟩

end Go.Proofs.Ytmmilgcbjpbelaa
