/- Index.Find (19). -/
import Derived.Test.YtmmilgcbjpbelaaWJ
import Derived.Laws.OwnMore
namespace Go.Proofs.Ytmmilgcbjpbelaa
open Go.RowKit Go.Kt Go.Ix

variable {F : Nat → Prop} {w w' : World} {g bm pm : Nat} {sv : Value} {us : List Value} {bf : Lit → Option Value} {Q : Post} {D : List (List Pr)} {E : List Ent}

/-! ### the sets of which all rules hold -/
def allB (l : List Rl) (d : List Pr) : Bool := l.all fun r => holdsB r (getL d r.n)
def inOf (l : List Rl) (D : List (List Pr)) : List Bool := D.map (allB l)
/-- whether the set of a number is found -/
def hitB (l : List Rl) (D : List (List Pr)) (i : Nat) : Bool := ((inOf l D)[i]?).getD false
def foundTo (l : List Rl) (D : List (List Pr)) (k : Nat) : List Nat := (List.range k).filter (hitB l D)
def foundL (l : List Rl) (D : List (List Pr)) : List Nat := foundTo l D D.length
theorem inOf_len (l : List Rl) (D : List (List Pr)) : (inOf l D).length = D.length := by simp [inOf]
theorem inOf_nil (D : List (List Pr)) : inOf [] D = List.replicate D.length true := by
  unfold inOf
  rw [List.map_congr_left (g := fun _ => true) (fun d _ => by rfl), List.map_const']
theorem allB_next {l : List Rl} {k : Nat} {r : Rl} (h : l[k]? = some r) (d : List Pr) : allB (l.take (k + 1)) d = (allB (l.take k) d && holdsB r (getL d r.n)) := by
  obtain ⟨hk, rfl⟩ := List.getElem?_eq_some_iff.1 h
  unfold allB
  rw [List.take_succ_eq_append_getElem hk, List.all_append]
  simp
theorem inOf_next {l : List Rl} {k : Nat} {r : Rl} (h : l[k]? = some r) (D : List (List Pr)) {i : Nat} {x y : Bool} (hx : (inOf (l.take k) D)[i]? = some x) (hy : (marksOf r D)[i]? = some y) : (inOf (l.take (k + 1)) D)[i]? = some (x && y) := by
  unfold inOf marksOf at *
  rw [List.getElem?_map, Option.map_eq_some_iff] at *
  obtain ⟨d, hd, rfl⟩ := hx
  obtain ⟨d', hd', rfl⟩ := hy
  rw [hd] at hd'
  cases hd'
  exact ⟨d, hd, allB_next h d⟩
theorem found_next {l : List Rl} {D : List (List Pr)} {k : Nat} {x : Bool} (h : (inOf l D)[k]? = some x) : foundTo l D (k + 1) = if x then foundTo l D k ++ [k] else foundTo l D k := by
  unfold foundTo
  rw [List.range_succ, List.filter_append]
  have : hitB l D k = x := by unfold hitB; rw [h]; rfl
  cases x <;> simp [this]
theorem found_le (l : List Rl) (D : List (List Pr)) (k : Nat) : (foundTo l D k).length ≤ k := by
  unfold foundTo
  have := List.length_filter_le (hitB l D) (List.range k)
  rwa [List.length_range] at this

/-! ### a row half turned -/
def mixL (A B : List Bool) (k : Nat) : List Bool := A.take k ++ B.drop k
theorem mixL_zero (A B : List Bool) : mixL A B 0 = B := by simp [mixL]
theorem mixL_end (A B : List Bool) (h : A.length = B.length) {n : Nat} (hn : n = A.length) : mixL A B n = A := by
  subst hn
  unfold mixL
  rw [List.take_length, List.drop_of_length_le (by omega), List.append_nil]
theorem mixL_len (A B : List Bool) (h : A.length = B.length) (k : Nat) : (mixL A B k).length = A.length := by
  simp [mixL]; omega
theorem mixL_set (A B : List Bool) (h : A.length = B.length) {k : Nat} {y : Bool} (hy : A[k]? = some y) : (mixL A B k).set k y = mixL A B (k + 1) := by
  obtain ⟨hk, rfl⟩ := List.getElem?_eq_some_iff.1 hy
  unfold mixL
  rw [List.set_append_right _ _ (by simp; omega), List.take_succ_eq_append_getElem hk, List.append_assoc]
  congr 1
  have : k - (A.take k).length = 0 := by simp; omega
  rw [this, List.drop_eq_getElem_cons (by omega : k < B.length)]
  rfl
theorem mixL_get (A B : List Bool) (h : A.length = B.length) {k : Nat} (hk : k < A.length) : (mixL A B k)[k]? = B[k]? := by
  unfold mixL
  rw [List.getElem?_append_right (by rw [List.length_take]; omega), List.getElem?_drop]
  congr 1
  rw [List.length_take]; omega

/-! ### make -/
theorem make_marks (n : Nat) (hn : n ≤ 1000000) : ∃ mk : Array Value, (∀ W : World, (Instr.makeSlice 98 (.int .i64 (n : Int)) (.int .i64 (n : Int))).run Try.prog W = .ok (.slice (some ⟨W.heap.size, 0, none⟩) n n) (W.alloc (.cells mk 4))) ∧
    ∀ W : World, Marks (W.alloc (.cells mk 4)) (.slice (some ⟨W.heap.size, 0, none⟩) n n) (List.replicate n false) := by
  have hi : ∃ i, Try.prog.info? 4 = some i ∧ i.zero = some (.bool false) ∧ i.size = 1 ∧ i.bytes = 1 := info_parts (by kernel_rfl)
  obtain ⟨i, h1, h2, h3, h4⟩ := hi
  refine ⟨madeCells #[.bool false] n, fun W => ?_, fun W => ?_⟩
  · have := run_make (P := Try.prog) W 98 4 i (.bool false) Try.underlying98 h1 h2 .i64 .i64 n n (by omega) (Int.le_refl _) (by rw [h4]; omega) (by omega)
    simpa [h3, Value.cells] using this
  · unfold Marks
    rw [List.length_replicate]
    have e : bools (List.replicate n false) = (madeCells #[Value.bool false] n).toList := by rw [toList_madeCells_one]; simp [bools]
    rw [e]
    exact own_lit W 4 1 _ n (by simp only [maxLen]; omega) (by rw [size_madeCells]; omega)
theorem Marks.drew {w : World} {v : Value} {M : List Bool} (h : Marks w v M) : Marks w.drew v M := h

theorem find_nil (v : Value) (w : World) (hv : v.oneCell' = true) : Calls Try.prog 19 #[.pointer none, v] w fun e w' => e = .returned (.tuple #[.slice none 0 0, .int .i64 2]) ∧ w = w' := by
  go_enter Try.func19, Try.ntmps19
  go_wp2_with fail
  refine bodyPost_ret (v := .tuple #[.slice none 0 0, .int .i64 2]) (by simp [results, Try.results19, go_sem, *]) rfl ?_
  exact ⟨rfl, rfl⟩
set_option maxHeartbeats 1000000 in
theorem find_bad (v : Value) (l : List Rl) (g : Nat) (w : World) (hv : RdR w v l) (hf : FitR l) (hr : ¬ RightR l) :
    Calls Try.prog 19 #[.pointer (some ⟨g, 0, none⟩), v] w fun e w' => e = .returned (.tuple #[.slice none 0 0, .int .i64 50]) ∧ Below w.heap.size w w' := by
  obtain ⟨a, c, rfl, _⟩ := hv.open
  have HV := Lib.hid hv
  have HF := Lib.hid hf
  have HR := Lib.hid (pb_no hr)
  clear hv hf hr
  go_enter Try.func19, Try.ntmps19
  go_wp2_with (first | (go_at_call 39; refine (mright_any (.slice a l.length c) l _ HV.out HF.out).mono ?_; rintro e w3 ⟨he, hb3⟩; obtain rfl := says_pb he; rw [HR.out]; have HB3 := Lib.hid hb3; clear he hb3) | fail)
  refine bodyPost_ret (v := .tuple #[.slice none 0 0, .int .i64 50]) (by simp [results, Try.results19, go_sem, *]) rfl ?_
  exact ⟨rfl, HB3.out⟩

set_option maxRecDepth 8000 in
set_option maxHeartbeats 2000000 in
theorem find_yes (v : Value) (l : List Rl) (w : World) (h : Idx F w g D) (hv : RdR w v l) (hf : FitR l) (hr : RightR l) (hg : Glob w) (hD : D.length ≤ 61) :
    Calls Try.prog 19 #[.pointer (some ⟨g, 0, none⟩), v] w fun e w' => ∃ v', e = .returned (.tuple #[v', .int .i64 0]) ∧ Mine 3 1 w w' v' (foundL l D).length (ints (foundL l D)) := by
  obtain ⟨a, c, rfl, hcap, hbig, hcell⟩ := hv.open
  have Hcell := Lib.hid hcell
  have HI := Lib.hid h
  have HV := Lib.hid hv
  have HF := Lib.hid hf
  have HG := Lib.hid hg
  have HRR := Lib.hid hr
  have HR := Lib.hid (pb_yes hr)
  have hl16 : l.length ≤ 16 := hr.1
  clear hv hf hr hg h hcell
  go_enter Try.func19, Try.ntmps19
  go_upto_region 5 with (first | (go_at_call 39; refine (mright_any (.slice a l.length c) l _ HV.out HF.out).mono ?_; rintro e w3 ⟨he, hb3⟩; obtain rfl := says_pb he; rw [HR.out]; have HB3 := Lib.hid hb3; clear he hb3) | fail)
  have HB3' := Lib.hid HB3.out
  obtain ⟨sv, us, bm, pm, bf, Q, hI, _⟩ := HI.out
  obtain ⟨sa, sc, rfl⟩ := hI.slice
  have HK : Hid (∀ w', Below w3.heap.size w3 w' → w'.cell? ⟨g, 0, none⟩ = some (.slice sa D.length sc)) := Lib.hid (fun w' hb => (hI.blk.next (bel_trans HB3.out hb)).cell 0)
  clear hI
  have hx3 := bel_refl w3
  have k0 := HK.out _ hx3
  generalize hn : D.length = n at *
  have Hn := Lib.hid hn
  clear hn
  obtain ⟨mk, hmk, hM0⟩ := make_marks n (by omega)
  have HM0 := Lib.hid hM0
  clear hM0
  have hb2 : Below w.heap.size w ((w3.alloc (.cells mk 4)).alloc (.cells mk 4)).drew := bel_trans HB3.out (by repeat (first | exact bel_refl _ | apply bel_drew | apply bel_alloc))
  have m1 : Marks ((w3.alloc (.cells mk 4)).alloc (.cells mk 4)).drew (.slice (some ⟨w3.heap.size, 0, none⟩) n n) (List.replicate n false) := ((HM0.out w3).next (below_alloc _ (.cells mk 4))).drew
  have m2 : Marks ((w3.alloc (.cells mk 4)).alloc (.cells mk 4)).drew (.slice (some ⟨w3.heap.size + 1, 0, none⟩) n n) (List.replicate n false) := by
    have := (HM0.out (w3.alloc (.cells mk 4))).drew
    rw [World.size_alloc] at this
    exact this
  have hs3 := HB3.out.size
  have Hb2 := Lib.hid hb2
  have Hm1 := Lib.hid m1
  have Hm2 := Lib.hid m2
  have Hs3 : Hid (w3.heap.size ≠ w3.heap.size + 1 ∧ w3.heap.size + 1 ≠ w3.heap.size ∧ w.heap.size ≤ w3.heap.size ∧ w.heap.size ≤ w3.heap.size + 1) := Lib.hid ⟨by omega, by omega, by omega, by omega⟩
  clear hb2 m1 m2 hs3
  go_cut [6, 7] (fun x y wc => ∃ ga gb, x = .slice (some ⟨ga, 0, none⟩) n n ∧ y = .slice (some ⟨gb, 0, none⟩) n n ∧ Hid (ga ≠ gb ∧ w.heap.size ≤ ga ∧ w.heap.size ≤ gb) ∧ Hid (Marks wc x (List.replicate n false)) ∧ Hid (Marks wc y (List.replicate n false)) ∧ Hid (Below w.heap.size w wc))
  case first =>
    rename_i J0 J1 hJ0 hJ1
    go_region_held3 (fun w' => w'.cell? ⟨g, 0, none⟩ = some (.slice sa n sc))
      (first | (with_reducible exact k0) | (with_reducible refine HK.out _ ?_; (repeat (first | assumption | apply bel_alloc | apply bel_drew)); done) | go_keep)
      (fail)
    all_goals (refine hJ1 _ _ (Met.intro (hJ0 _ _ ?_)))
    all_goals (repeat apply Exists.intro)
    · exact ⟨⟨_, _, rfl, rfl, Lib.hid ⟨Hs3.out.1, Hs3.out.2.2.1, Hs3.out.2.2.2⟩, Hm1, Hm2, Hb2⟩, rfl⟩
    · exact ⟨⟨_, _, rfl, rfl, Lib.hid ⟨Hs3.out.2.1, Hs3.out.2.2.2, Hs3.out.2.2.1⟩, Hm2, Hm1, Hb2⟩, rfl⟩
  case rest =>
    obtain ⟨ga, gb, rfl, rfl, Hne, HA, HB, HBw⟩ := hcut
    obtain ⟨w4, rfl⟩ : ∃ x, x = wc := ⟨_, rfl⟩
    clear hx3 k0 HK hmk HM0 HB3 HB3' Hb2 Hm1 Hm2 Hs3
    go_wp2_with fail
    have hlenT : (inOf [] D).length = n := by rw [inOf_len]; exact Hn.out
    have HlenT := Lib.hid hlenT
    have Hml : Hid ((inOf [] D).length = (List.replicate n false).length) := Lib.hid (by rw [hlenT, List.length_replicate])
    have HA0 : Hid (Marks w4 (.slice (some ⟨ga, 0, none⟩) n n) (mixL (inOf [] D) (List.replicate n false) 0)) := Lib.hid (by rw [mixL_zero]; exact HA.out)
    clear hlenT
    go_loopw [8, 36] (fun _ i wr => ∃ k : Nat, k ≤ n ∧ i = .int .i64 k ∧ Hid (Marks wr (.slice (some ⟨ga, 0, none⟩) n n) (mixL (inOf [] D) (List.replicate n false) k)) ∧ Hid (Turn (fun x => x = ga) w4 wr)) (fun _ i _ => n - (intOf i).toNat)
    case atStart => exact ⟨0, by omega, rfl, HA0, Lib.hid (Turn.refl _ _)⟩
    case round =>
      clear HA0
      obtain ⟨k, hk, rfl, HAk, HT⟩ := hrel
      by_cases hlt : k < n
      · obtain ⟨b, cap, x, hs, hx, hc, hf, hset⟩ := HAk.out.place (i := k) (by rw [mixL_len _ _ Hml.out, HlenT.out]; exact hlt)
        rw [mixL_len _ _ Hml.out, HlenT.out] at hs
        cases hs
        have HS := Lib.hid (hset true)
        clear hset hx
        have hk1 : (0 : Int) ≤ (k : Int) := by omega
        have hk2 : (k : Int) < (n : Int) := by omega
        go_wp2_with fail
        go_roundw
        case rel => exact ⟨k + 1, by omega, by go_num, Lib.hid (by
          have := HS.out
          rw [mixL_set _ _ Hml.out (by rw [inOf_nil, Hn.out, List.getElem?_replicate, if_pos hlt])] at this
          exact this), Lib.hid (HT.out.set (a := ⟨ga, k, none⟩) rfl _)⟩
        case measure => simp [intOf]; omega
      · obtain rfl : n = k := by omega
        have HA1 : Hid (Marks wr (.slice (some ⟨ga, 0, none⟩) n n) (inOf (l.take 0) D)) := Lib.hid (by
          have := HAk.out
          rw [mixL_end _ _ Hml.out HlenT.out.symm] at this
          exact this)
        have HB1 : Hid (Marks wr (.slice (some ⟨gb, 0, none⟩) n n) (List.replicate n false)) := Lib.hid (own_keep HT.out HB.out (fun b hb e => by injection hb with hb; have := Hne.out.1; exact this (by rw [← e, ← hb])))
        have HBw1 : Hid (Below w.heap.size w wr) := Lib.hid (((Turn.of (F := fun x => x = ga) HBw.out).trans HT.out (fun x hx => .inl hx)).bel (Nat.le_refl _) (fun x hx => by rw [hx]; exact Hne.out.2.1))
        have HM0 : Hid ((List.replicate n false).length = n) := Lib.hid (List.length_replicate ..)
        clear HAk HT HA HB HBw
        go_wp2_with fail
        have HFb : Hid (∀ b, (Value.slice (some ⟨gb, 0, none⟩) n n).ownBlock = some b → ¬ F b ∧ b ≠ 0) := Lib.hid (fun b hb => by
          injection hb with hb
          have hbb : gb = b := hb
          subst hbb
          have h2 := Hne.out.2.2
          refine ⟨fun hF => ?_, fun e => ?_⟩
          · obtain ⟨_, _, _, _, _, _, hI, _⟩ := HI.out
            have := hI.lt _ hF
            omega
          · obtain ⟨m, hm⟩ := HG.out
            have := World.block_lt_of_cell? w _ hm
            simp only at this
            omega)
        have HLall : Hid (∀ t, (inOf (l.take t) D).length = n) := Lib.hid (fun t => by rw [inOf_len]; exact Hn.out)
        clear Hml HlenT
        go_loopw [10, 11, 45] (fun _ _ i wr => ∃ (t : Nat) (M : List Bool), t ≤ l.length ∧ i = .int .i64 t ∧ Hid (M.length = n) ∧ Hid (Marks wr (.slice (some ⟨ga, 0, none⟩) n n) (inOf (l.take t) D)) ∧ Hid (Marks wr (.slice (some ⟨gb, 0, none⟩) n n) M) ∧ Hid (Below w.heap.size w wr)) (fun _ _ i _ => l.length - (intOf i).toNat)
        case atStart => exact ⟨0, _, by omega, rfl, HM0, HA1, HB1, HBw1⟩
        case round =>
          clear HA1 HB1 HBw1 HM0
          obtain ⟨t, M, ht, rfl, HMl, HA, HB, HBw⟩ := hrel
          obtain ⟨wo, rfl⟩ : ∃ x, x = wr := ⟨_, rfl⟩
          by_cases htl : t < l.length
          · obtain ⟨r, hr⟩ : ∃ x, l[t]? = some x := ⟨l[t], List.getElem?_eq_getElem htl⟩
            obtain ⟨b, o, rfl, lb, c0, c1, c2⟩ := Hcell.out t r hr
            have c0' : wo.cell? ⟨b, o + t * 3, none⟩ = some (.string r.n) := (HBw.out.cell (p := ⟨b, o + t * 3, none⟩) lb).trans c0
            have c1' : wo.cell? ⟨b, o + t * 3 + 1, none⟩ = some (.int .i64 r.op) := (HBw.out.cell (p := ⟨b, o + t * 3 + 1, none⟩) lb).trans c1
            have c2' : wo.cell? ⟨b, o + t * 3 + 2, none⟩ = some (.string r.v) := (HBw.out.cell (p := ⟨b, o + t * 3 + 2, none⟩) lb).trans c2
            have HRl := Lib.hid hr
            have HRP := Lib.hid (HRR.out.2 r (List.mem_of_getElem? hr))
            have HRF := Lib.hid (HF.out r (List.mem_of_getElem? hr))
            have hbb : b < wo.heap.size := Nat.lt_of_lt_of_le lb HBw.out.size
            clear c0 c1 c2 hr lb
            go_wp2_with (first
              | (go_at_call 40; refine (one_any (D := D) r (.slice (some ⟨gb, 0, none⟩) n n) M _ ((HI.out.next HBw.out).next (below_alloc wo _)) ⟨HRP.out.2.1, HRP.out.2.2.1⟩ HRF.out.1 (HB.out.next (below_alloc wo _)) (HMl.out.trans Hn.out.symm) HFb.out ((HG.out.below HBw.out).below (below_alloc wo _))).mono ?_; rintro e w5 ⟨rfl, hm5, ht5⟩; have HM5 := Lib.hid hm5; have HT5 := Lib.hid ht5; clear hm5 ht5)
              | fail)
            have Hb5 : Hid (Below w.heap.size w w5) := Lib.hid (((Turn.of (F := fun x => x = gb) (bel_trans HBw.out (below_alloc wo (.cells #[.string r.n, .int .i64 r.op, .string r.v] 104)))).trans (HT5.out.mono (G := fun x => x = gb) (fun x hx => by injection hx with hx; exact hx.symm)) (fun x hx => .inl hx)).bel (Nat.le_refl _) (fun x hx => by rw [hx]; exact Hne.out.2.2))
            have HA5 : Hid (Marks w5 (.slice (some ⟨ga, 0, none⟩) n n) (mixL (inOf (l.take (t + 1)) D) (inOf (l.take t) D) 0)) := Lib.hid (by
              rw [mixL_zero]
              exact own_keep HT5.out (HA.out.next (below_alloc wo _)) (fun b hb e => by injection hb with hb; injection e with e; exact Hne.out.1 (hb.trans e.symm)))
            have Hml : Hid ((inOf (l.take (t + 1)) D).length = (inOf (l.take t) D).length) := Lib.hid (by rw [HLall.out, HLall.out])
            have Hmk : Hid ((marksOf r D).length = n) := Lib.hid (by rw [marks_len]; exact Hn.out)
            clear HA HB HBw HT5 c0' c1' c2'
            go_loopw [11, 55] (fun _ i wr => ∃ k : Nat, k ≤ n ∧ i = .int .i64 k ∧ Hid (Marks wr (.slice (some ⟨ga, 0, none⟩) n n) (mixL (inOf (l.take (t + 1)) D) (inOf (l.take t) D) k)) ∧ Hid (Turn (fun x => x = ga) w5 wr)) (fun _ i _ => n - (intOf i).toNat)
            case atStart => exact ⟨0, by omega, rfl, HA5, Lib.hid (Turn.refl _ _)⟩
            case round =>
              clear HA5
              obtain ⟨k, hk, rfl, HAk, HT⟩ := hrel
              by_cases hlt : k < n
              · obtain ⟨b1, cap1, x, hs, hx, hc, hf, hset⟩ := HAk.out.place (i := k) (by rw [mixL_len _ _ Hml.out, HLall.out]; exact hlt)
                rw [mixL_len _ _ Hml.out, HLall.out] at hs
                cases hs
                have HMk : Hid (Marks wr (.slice (some ⟨gb, 0, none⟩) n n) (marksOf r D)) := Lib.hid (own_keep HT.out HM5.out (fun b hb e => by injection hb with hb; exact Hne.out.1 (by rw [← e, ← hb])))
                obtain ⟨b2, cap2, y, hs2, hy, hc2, _, _⟩ := HMk.out.place (i := k) (by rw [Hmk.out]; exact hlt)
                rw [Hmk.out] at hs2
                cases hs2
                rw [mixL_get _ _ Hml.out (by rw [HLall.out]; exact hlt)] at hx
                have HX := Lib.hid (inOf_next HRl.out D hx hy)
                have HS := Lib.hid (hset (x && y))
                clear hset hx hy
                have hk1 : (0 : Int) ≤ (k : Int) := by omega
                have hk2 : (k : Int) < (n : Int) := by omega
                have HNx : Hid (Marks (wr.setCell ⟨ga, k, none⟩ (.bool (x && y))) (.slice (some ⟨ga, 0, none⟩) n n) (mixL (inOf (l.take (t + 1)) D) (inOf (l.take t) D) (k + 1))) := Lib.hid (by
                  have := HS.out
                  rw [mixL_set _ _ Hml.out HX.out] at this
                  exact this)
                cases x with
                | true =>
                  rw [Bool.true_and] at HNx
                  go_wp2_with fail
                  go_roundw
                  case rel => exact ⟨k + 1, by omega, by go_num, HNx, Lib.hid (HT.out.set (a := ⟨ga, k, none⟩) rfl _)⟩
                  case measure => simp [intOf]; omega
                | false =>
                  rw [Bool.false_and] at HNx
                  go_wp2_with fail
                  go_roundw
                  case rel => exact ⟨k + 1, by omega, by go_num, HNx, Lib.hid (HT.out.set (a := ⟨ga, k, none⟩) rfl _)⟩
                  case measure => simp [intOf]; omega
              · obtain rfl : n = k := by omega
                have HA6 : Hid (Marks wr (.slice (some ⟨ga, 0, none⟩) n n) (inOf (l.take (t + 1)) D)) := Lib.hid (by
                  have := HAk.out
                  rw [mixL_end _ _ Hml.out (HLall.out _).symm] at this
                  exact this)
                have HB6 : Hid (Marks wr (.slice (some ⟨gb, 0, none⟩) n n) (marksOf r D)) := Lib.hid (own_keep HT.out HM5.out (fun b hb e => by injection hb with hb; exact Hne.out.1 (by rw [← e, ← hb])))
                have Hb6 : Hid (Below w.heap.size w wr) := Lib.hid (((Turn.of (F := fun x => x = ga) Hb5.out).trans HT.out (fun x hx => .inl hx)).bel (Nat.le_refl _) (fun x hx => by rw [hx]; exact Hne.out.2.1))
                go_wp2_with fail
                go_roundw
                case rel => exact ⟨t + 1, _, by omega, by go_num, Hmk, HA6, HB6, Hb6⟩
                case measure => simp [intOf]; omega
          · obtain rfl : l.length = t := by omega
            rw [List.take_length] at HA
            have Hil : Hid ((inOf l D).length = n) := Lib.hid (by rw [inOf_len]; exact Hn.out)
            clear Hcell HLall
            go_wp2_with fail
            have HO0 : Hid (Mine 3 1 w wo (.slice none 0 0) (foundTo l D 0).length (ints (foundTo l D 0))) := Lib.hid ((mine_nil 3 1 w).below HBw.out)
            have HA0 : Hid (Marks wo (.slice (some ⟨ga, 0, none⟩) n n) (inOf l D)) := HA
            clear HA HB HBw
            go_loopw [12, 13, 14, 75] (fun ov _ _ i wr => ∃ k : Nat, k ≤ n ∧ i = .int .i64 k ∧ Hid (Mine 3 1 w wr ov (foundTo l D k).length (ints (foundTo l D k))) ∧ Hid (Marks wr (.slice (some ⟨ga, 0, none⟩) n n) (inOf l D))) (fun _ _ _ i _ => n - (intOf i).toNat)
            case atStart => exact ⟨0, by omega, rfl, HO0, HA0⟩
            case round =>
              clear HO0 HA0
              obtain ⟨k, hk, rfl, HO, HA⟩ := hrel
              by_cases hlt : k < n
              · obtain ⟨b1, cap1, x, hs, hx, hc, _, _⟩ := HA.out.place (i := k) (by rw [Hil.out]; exact hlt)
                rw [Hil.out] at hs
                cases hs
                have HX := Lib.hid (found_next hx)
                have Hfl := Lib.hid (found_le l D k)
                clear hx
                have hk1 : (0 : Int) ≤ (k : Int) := by omega
                have hk2 : (k : Int) < (n : Int) := by omega
                cases x with
                | true =>
                  have HX1 : Hid (foundTo l D (k + 1) = foundTo l D k ++ [k]) := Lib.hid HX.out
                  clear HX
                  go_wp2_with (at_builtin; apply Hold.mk)
                  unfold Hold
                  refine mine_app rfl _ _ 52 rfl ok52 (by rfl) (by rfl) HO.out (by repeat (first | exact bel_refl _ | apply bel_alloc | apply bel_drew)) (by exact rd_lit 1 #[.int .i64 (k : Int)] 1 (by simp) one_le rfl) (one_int (k : Int)) (by have := Hfl.out; simp only [maxLen]; omega) (by have := Hfl.out; omega) ?_
                  intro v7 w7 hm7 hg7
                  have HO7 : Hid (Mine 3 1 w w7 v7 (foundTo l D (k + 1)).length (ints (foundTo l D (k + 1)))) := Lib.hid (by rw [HX1.out, ints_snoc, List.length_append]; exact hm7)
                  have HA7 : Hid (Marks w7 (.slice (some ⟨ga, 0, none⟩) n n) (inOf l D)) := Lib.hid (Own.grown (HA.out.next (below_alloc wr (.cells #[.int .i64 (k : Int)] 3))) hg7 (fun b hb e => own_apart (HO.out.below (below_alloc wr (.cells #[.int .i64 (k : Int)] 3))).1 (HA.out.next (below_alloc wr (.cells #[.int .i64 (k : Int)] 3))) (by decide) b e hb))
                  clear hm7 hg7
                  go_wp2_with fail
                  go_roundw
                  case rel => exact ⟨k + 1, by omega, by go_num, HO7, HA7⟩
                  case measure => simp [intOf]; omega
                | false =>
                  have HX1 : Hid (foundTo l D (k + 1) = foundTo l D k) := Lib.hid HX.out
                  clear HX
                  go_wp2_with fail
                  go_roundw
                  case rel => exact ⟨k + 1, by omega, by go_num, Lib.hid (by rw [HX1.out]; exact HO.out), HA⟩
                  case measure => simp [intOf]; omega
              · obtain rfl : n = k := by omega
                obtain ⟨_, oa, oc, rfl, _⟩ := HO.out.rd
                go_wp2_with fail
                refine bodyPost_ret (v := .tuple #[.slice oa (foundTo l D n).length oc, .int .i64 0]) (by simp [results, Try.results19, go_sem, *]) rfl ?_
                refine ⟨_, rfl, ?_⟩
                unfold foundL
                rw [Hn.out]
                exact HO.out
end Go.Proofs.Ytmmilgcbjpbelaa
