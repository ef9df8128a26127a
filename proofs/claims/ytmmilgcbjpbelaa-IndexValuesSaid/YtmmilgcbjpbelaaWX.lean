/- The document's Values (31); IndexValues (7). -/
import Derived.Test.YtmmilgcbjpbelaaWV
namespace Go.Proofs.Ytmmilgcbjpbelaa
open Go.RowKit Go.Kt Go.Ix

/-! ### one value laid among others, place by place -/
def insL {α : Type} (L : List α) (v : α) (at_ k : Nat) : List α := if k ≤ at_ then L.take k else L.take at_ ++ v :: (L.drop at_).take (k - at_)
/-- behind the place's own test -/
def insM {α : Type} (L : List α) (v : α) (at_ k : Nat) : List α := insL L v at_ k ++ (if k = at_ then [v] else [])
theorem insL_zero {α : Type} (L : List α) (v : α) (at_ : Nat) : insL L v at_ 0 = [] := by simp [insL]
theorem insL_end {α : Type} (L : List α) (v : α) {at_ : Nat} (h : at_ ≤ L.length) : insL L v at_ (L.length + 1) = L.take at_ ++ v :: L.drop at_ := by
  unfold insL
  rw [if_neg (by omega), List.take_of_length_le (l := L.drop at_) (by rw [List.length_drop]; omega)]
theorem insL_some {α : Type} {L : List α} {v : α} {at_ k : Nat} {x : α} (h : L[k]? = some x) : insL L v at_ (k + 1) = insM L v at_ k ++ [x] := by
  obtain ⟨hk, rfl⟩ := List.getElem?_eq_some_iff.1 h
  unfold insM insL
  by_cases h1 : k + 1 ≤ at_
  · rw [if_pos h1, if_pos (by omega), if_neg (by omega), List.append_nil, List.take_succ_eq_append_getElem hk]
  · rw [if_neg h1]
    by_cases h2 : k = at_
    · subst h2
      rw [if_pos (Nat.le_refl _), if_pos rfl, Nat.add_sub_cancel_left, List.drop_eq_getElem_cons hk, List.append_assoc]
      rfl
    · rw [if_neg (by omega), if_neg h2, List.append_nil, List.append_assoc]
      congr 1
      rw [List.cons_append]
      congr 1
      have h3 : k - at_ < (L.drop at_).length := by rw [List.length_drop]; omega
      rw [show k + 1 - at_ = k - at_ + 1 by omega, List.take_succ_eq_append_getElem h3]
      congr 1
      rw [List.getElem_drop]
      simp [show at_ + (k - at_) = k by omega]
theorem insL_none {α : Type} {L : List α} {v : α} {at_ k : Nat} (ha : at_ ≤ L.length) (h : L[k]? = none) : insL L v at_ (k + 1) = insM L v at_ k := by
  have hk := List.getElem?_eq_none_iff.1 h
  unfold insM insL
  rw [if_neg (by omega)]
  by_cases h2 : k = at_
  · subst h2
    rw [if_pos (Nat.le_refl _), if_pos rfl, List.drop_of_length_le hk]
    simp
  · rw [if_neg (by omega), if_neg h2, List.append_nil]
    congr 2
    rw [List.take_of_length_le (l := L.drop at_) (by rw [List.length_drop]; omega), List.take_of_length_le (l := L.drop at_) (by rw [List.length_drop]; omega)]
theorem insL_len {α : Type} (L : List α) (v : α) (at_ k : Nat) : (insL L v at_ k).length ≤ L.length + 1 := by
  unfold insL
  split
  · rw [List.length_take]; omega
  · simp only [List.length_append, List.length_take, List.length_cons, List.length_drop]; omega
theorem insM_len {α : Type} (L : List α) (v : α) (at_ k : Nat) : (insM L v at_ k).length ≤ L.length + 2 := by
  unfold insM
  have := insL_len L v at_ k
  rw [List.length_append]
  split <;> simp <;> omega

theorem mine_other {e1 e2 : TypeId} {s1 s2 n1 n2 m1 : Nat} {w0 w w' : World} {v1 v1' v2 : Value} {x1 x1' x2 : List Value} (h1 : Mine e1 s1 w0 w v1 n1 x1) (h2 : Mine e2 s2 w0 w v2 n2 x2) (hne : e2 ≠ e1) (hg : w.grownBy w' v1.ownBlock) (h1' : Mine e1 s1 w0 w' v1' m1 x1') : Mine e2 s2 w0 w' v2 n2 x2 :=
  ⟨Own.grown h2.1 hg (fun b hb e => own_apart h2.1 h1.1 hne b hb e), h2.2.1, h1'.2.2⟩
theorem at_end {L : List ByteArray} {v : ByteArray} {k : Nat} (hk : k ≤ L.length) (h : ∀ (j : Nat) s, j < k → L[j]? = some s → Less s v) (he : ∀ s, L[k]? = some s → ¬ Less s v) : PlaceOf L v k := ⟨hk, h, he⟩
set_option maxRecDepth 8000 in
set_option maxHeartbeats 4000000 in
theorem refvalues_any (iv : Value) (nm : ByteArray) (D : List (List Pr)) (w : World) (hi : RdSets w iv D) (hok : ∀ d ∈ D, RightP d) (hl : D.length ≤ 61) :
    Calls Try.prog 31 #[.agg #[iv], .string nm] w fun e w' => ∃ v1 v2 L, e = .returned (.tuple #[v1, v2]) ∧ ValsOK nm D L ∧ Own 9 1 w' v1 L.length (strs L) ∧ Own 3 1 w' v2 L.length (ints (cnts nm D L)) ∧ Below w.heap.size w w' := by
  obtain ⟨ia, ic, rfl, hic, hbig, hcell⟩ := hi.open
  have Hcell := Lib.hid hcell
  have HOK := Lib.hid hok
  clear hi hcell hok
  go_enter Try.func31, Try.ntmps31
  go_wp2_with fail
  have HX0 := Lib.hid (Blk.new w #[.slice ia D.length ic] 48)
  have HA0 : Hid (Mine 9 1 w (w.alloc (.cells #[.slice ia D.length ic] 48)) (.slice none 0 0) ([] : List ByteArray).length (strs [])) := Lib.hid ((mine_nil 9 1 w).below (below_alloc _ _))
  have HB0 : Hid (Mine 3 1 w (w.alloc (.cells #[.slice ia D.length ic] 48)) (.slice none 0 0) ([] : List ByteArray).length (ints (cnts nm (D.take 0) []))) := Lib.hid ((mine_nil 3 1 w).below (below_alloc _ _))
  have HL0 : Hid (ValsOK nm (D.take 0) []) := Lib.hid (vals_nil nm)
  go_loopw [6, 7, 8, 9, 10, 11, 12, 13] (fun av bv i _ _ _ _ _ wr => ∃ (k : Nat) (L : List ByteArray), k ≤ D.length ∧ i = .int .i64 k ∧ L.length ≤ k ∧ Hid (ValsOK nm (D.take k) L) ∧ Hid (Mine 9 1 w wr av L.length (strs L)) ∧ Hid (Mine 3 1 w wr bv L.length (ints (cnts nm (D.take k) L))) ∧ Hid (Blk wr w.heap.size #[.slice ia D.length ic] 48)) (fun _ _ i _ _ _ _ _ _ => D.length - (intOf i).toNat)
  case atStart => exact ⟨0, [], by omega, rfl, by simp, HL0, HA0, HB0, HX0⟩
  case round =>
    clear HX0 HA0 HB0 HL0
    obtain ⟨k, L, hk, rfl, hLk, HL, HA, HB, HX⟩ := hrel
    obtain ⟨wo, rfl⟩ : ∃ x, x = wr := ⟨_, rfl⟩
    have x0 : wo.cell? ⟨w.heap.size, 0, none⟩ = some (.slice ia D.length ic) := HX.out.cell 0
    have hxl := HX.out.lt
    obtain ⟨hcl1, aa, ac, rfl, hcl2⟩ := HA.out.rd
    obtain ⟨hcl3, ba, bc, rfl, hcl4⟩ := HB.out.rd
    clear hcl1 hcl2 hcl3 hcl4
    by_cases hlt : k < D.length
    · obtain ⟨d, hd⟩ : ∃ x, D[k]? = some x := ⟨D[k], List.getElem?_eq_getElem hlt⟩
      obtain ⟨b, o, u, rfl, lb, c0, hu⟩ := Hcell.out k d hd
      obtain ⟨ua, uc, rfl, _⟩ := hu.open
      have c0' : wo.cell? ⟨b, o + k, none⟩ = some (.slice ua d.length uc) := (HA.out.2.2.cell (p := ⟨b, o + k, none⟩) lb).trans c0
      have HU := Lib.hid (hu.below HA.out.2.2)
      have hk1 : (0 : Int) ≤ (k : Int) := by omega
      have hk2 : (k : Int) < (D.length : Int) := by omega
      have HT : Hid (D.take (k + 1) = D.take k ++ [d]) := Lib.hid (by
        obtain ⟨hk', e⟩ := List.getElem?_eq_some_iff.1 hd
        rw [List.take_succ_eq_append_getElem hk', e])
      clear c0 hu hd
      obtain ⟨v, hv⟩ : ∃ v, getL d nm = v := ⟨_, rfl⟩
      have HV := Lib.hid hv
      clear hv
      rcases size_cases v with ⟨hz, he⟩ | ⟨hz, he⟩
      · have HS1 : Hid (ValsOK nm (D.take (k + 1)) L) := Lib.hid (by rw [HT.out]; exact (vals_skip HL.out (by rw [HV.out]; exact hz)).1)
        have HS2 : Hid (cnts nm (D.take (k + 1)) L = cnts nm (D.take k) L) := Lib.hid (by rw [HT.out]; exact cnts_skip HL.out (by rw [HV.out]; exact hz))
        clear hz
        go_wp2_with (first | (go_at_call 48; refine (get_any (.slice ua d.length uc) d nm _ HU.out).mono ?_; rintro e w2 ⟨rfl, rfl⟩; rw [HV.out]) | fail)
        go_roundw
        case rel => exact ⟨k + 1, L, by omega, by go_num, by omega, HS1, HA, Lib.hid (by rw [HS2.out]; exact HB.out), HX⟩
        case measure => simp [intOf]; omega
      · have HZ := Lib.hid hz
        clear hz
        go_wp2_with (first | (go_at_call 48; refine (get_any (.slice ua d.length uc) d nm _ HU.out).mono ?_; rintro e w2 ⟨rfl, rfl⟩; rw [HV.out]) | fail)
        have HcL : Hid (∀ (j : Nat) s, L[j]? = some s → ∃ b o, aa = some ⟨b, o, none⟩ ∧ wo.cell? ⟨b, o + j, none⟩ = some (.string s)) := Lib.hid (fun j s hj => by
          obtain ⟨_, a', c', e, _, _, _, hcell⟩ := HA.out.rd
          cases e
          exact hcell j _ (by simp [strs, hj]))
        go_loop [10] (fun i => ∃ j : Nat, j ≤ L.length ∧ i = .int .i64 j ∧ Hid (∀ (i : Nat) s, i < j → L[i]? = some s → Less s v)) (fun i => L.length - (intOf i).toNat)
        case atStart => exact ⟨0, by omega, rfl, Lib.hid (fun i s h => by omega)⟩
        case round =>
          obtain ⟨j, hj, rfl, HJ⟩ := hrel
          have hj1 : (0 : Int) ≤ (j : Int) := by omega
          have dlt : ∀ h : j < L.length, (j : Int) < (L.length : Int) := fun h => by omega
          have hcase : (∃ s, L[j]? = some s ∧ Less s v) ∨ (∃ s, L[j]? = some s ∧ ¬ Less s v ∧ s = v) ∨ (PlaceOf L v j ∧ (∀ s, L[j]? = some s → s ≠ v) ∧ ((∃ s, L[j]? = some s ∧ ¬ Less s v ∧ s ≠ v) ∨ j = L.length)) := by
            cases hs : L[j]? with
            | none =>
              have := List.getElem?_eq_none_iff.1 hs
              exact .inr (.inr ⟨⟨hj, HJ.out, fun s h => by rw [hs] at h; cases h⟩, (fun s h => by cases h), .inr (by omega)⟩)
            | some s =>
              by_cases h1 : Less s v
              · exact .inl ⟨s, rfl, h1⟩
              · by_cases h2 : s = v
                · exact .inr (.inl ⟨s, rfl, h1, h2⟩)
                · exact .inr (.inr ⟨⟨hj, HJ.out, fun s' h => by rw [hs] at h; cases h; exact h1⟩, (fun s' h => by cases h; exact h2), .inl ⟨s, rfl, h1, h2⟩⟩)
          have HD0 : Hid (∀ s, L[j]? = some s → (j : Int) < (L.length : Int) ∧ j < L.length) := Lib.hid (fun s h => by have := (List.getElem?_eq_some_iff.1 h).1; omega)
          clear dlt
          rcases hcase with ⟨s, hs, h1⟩ | ⟨s, hs, h1, rfl⟩ | ⟨hp, hne, hwhich⟩
          · obtain ⟨b2, o2, rfl, c2⟩ := HcL.out j s hs
            have hb : Op.bytesLess s.toList v.toList = true := h1
            obtain ⟨hj2, hj3⟩ := HD0.out s hs
            have HJ1 : Hid (∀ (i : Nat) t, i < j + 1 → L[i]? = some t → Less t v) := Lib.hid (fun i t hi ht => by
              by_cases e : i = j
              · subst e
                rw [hs] at ht
                cases ht
                exact h1
              · exact HJ.out i t (by omega) ht)
            clear hs h1
            go_wp2_with fail
            go_round
            case rel => exact ⟨j + 1, by omega, by go_num, HJ1⟩
            case measure => simp [intOf]; omega
          · obtain ⟨b2, o2, rfl, c2⟩ := HcL.out j s hs
            have hb : Op.bytesLess s.toList s.toList = false := by
              cases hx : Op.bytesLess s.toList s.toList with
              | false => rfl
              | true => exact absurd hx h1
            obtain ⟨hj2, hj3⟩ := HD0.out s hs
            have HS1 : Hid (ValsOK nm (D.take (k + 1)) L) := Lib.hid (by rw [HT.out]; exact vals_old HL.out (by rw [HV.out]; exact List.mem_of_getElem? hs))
            have HS2 : Hid (cnts nm (D.take (k + 1)) L = (cnts nm (D.take k) L).set j (cntV nm (D.take k) s + 1)) := Lib.hid (by rw [HT.out]; have := cnts_old HL.out (d := d) (at_ := j) (by rw [HV.out]; exact hs); rw [HV.out] at this; exact this)
            have hcj : (cnts nm (D.take k) L)[j]? = some (cntV nm (D.take k) s) := by unfold cnts; rw [List.getElem?_map, hs]; rfl
            have hcle : cntV nm (D.take k) s ≤ 61 := by
              have h1 := List.length_filter_le (fun d => decide (getL d nm = s)) (D.take k)
              have h2 : (D.take k).length ≤ 61 := by rw [List.length_take]; omega
              exact Nat.le_trans h1 h2
            obtain ⟨b3, cap3, e3, hc3, hf3, hset3⟩ := own_place HB.out.1 (j := j) (by omega)
            cases e3
            have hc4 : wo.cell? ⟨b3, j, none⟩ = some (.int .i64 (cntV nm (D.take k) s : Int)) := by rw [hc3]; simp [ints, hcj]
            have HB2 : Hid (Mine 3 1 w (wo.setCell ⟨b3, j, none⟩ (.int .i64 ((cntV nm (D.take k) s : Int) + 1))) (.slice (some ⟨b3, 0, none⟩) L.length bc) L.length (ints (cnts nm (D.take (k + 1)) L))) := Lib.hid ⟨by
                have h5 := hset3 (.int .i64 ((cntV nm (D.take k) s : Int) + 1))
                rw [HS2.out]
                unfold ints at h5 ⊢
                rw [List.map_set]
                exact h5, HB.out.2.1, bel_set HB.out.2.2 (HB.out.2.1 _ rfl)⟩
            have HA2 : Hid (Mine 9 1 w (wo.setCell ⟨b3, j, none⟩ (.int .i64 ((cntV nm (D.take k) s : Int) + 1))) (.slice (some ⟨b2, o2, none⟩) L.length ac) L.length (strs L)) := Lib.hid ⟨own_set HA.out.1 (fun b' hb' e => own_apart HA.out.1 HB.out.1 (by decide) b' hb' (by rw [e]; rfl)) _, HA.out.2.1, HB2.out.2.2⟩
            have HX2 : Hid (Blk (wo.setCell ⟨b3, j, none⟩ (.int .i64 ((cntV nm (D.take k) s : Int) + 1))) w.heap.size #[.slice (some ⟨b, o, none⟩) D.length ic] 48) := Lib.hid (HX.out.other (fun e => own_no_blk HB.out.1 HX.out (by decide) (by rw [e]; rfl)) _)
            clear hs h1 hset3 hc3 hcj
            generalize cntV nm (D.take k) s = cv at *
            go_wp2_with fail
            go_roundw
            case rel => exact ⟨k + 1, L, by omega, by go_num, by omega, HS1, HA2, HB2, HX2⟩
            case measure => simp [intOf]; omega
          · have HS := vals_new HL.out (d := d) (by rw [HV.out]; exact HZ.out) (at_ := j) (by rw [HV.out]; exact hp) (by rw [HV.out]; exact hne)
            rw [HV.out] at HS
            have HS1 : Hid (ValsOK nm (D.take (k + 1)) (L.take j ++ v :: L.drop j)) := Lib.hid (by rw [HT.out]; exact HS.1)
            have HS2 : Hid (cnts nm (D.take (k + 1)) (L.take j ++ v :: L.drop j) = (cnts nm (D.take k) L).take j ++ 1 :: (cnts nm (D.take k) L).drop j) := Lib.hid (by rw [HT.out]; have := cnts_new HL.out (d := d) (at_ := j) (by rw [HV.out]; exact HZ.out) (by rw [HV.out]; exact HS.2); rw [HV.out] at this; exact this)
            have HC0 : Hid ((cnts nm (D.take k) L).length = L.length) := Lib.hid (cnts_len _ _ _)
            generalize cnts nm (D.take k) L = C at *
            have HcC : Hid (∀ (i : Nat) c, C[i]? = some c → ∃ b o, ba = some ⟨b, o, none⟩ ∧ wo.cell? ⟨b, o + i, none⟩ = some (.int .i64 (c : Int))) := Lib.hid (fun i c hi => by
              obtain ⟨_, a', c', e, _, _, _, hcell⟩ := HB.out.rd
              cases e
              exact hcell i _ (by simp [ints, hi]))
            have HLen : Hid (∀ q, (insM L v j q).length ≤ 63 ∧ (insM C 1 j q).length ≤ 63 ∧ (insL L v j q).length ≤ 62 ∧ (insL C 1 j q).length ≤ 62) := Lib.hid (fun q => by
              have h1 := insM_len L v j q
              have h2 := insM_len C 1 j q
              have h3 := insL_len L v j q
              have h4 := insL_len C 1 j q
              have := HC0.out
              omega)
            clear HS hp hne
            have HP0 : Hid (Mine 9 1 wo wo (.slice none 0 0) (insL L v j 0).length (strs (insL L v j 0))) := Lib.hid (by rw [insL_zero]; exact mine_nil 9 1 wo)
            have HQ0 : Hid (Mine 3 1 wo wo (.slice none 0 0) (insL C 1 j 0).length (ints (insL C 1 j 0))) := Lib.hid (by rw [insL_zero]; exact mine_nil 3 1 wo)
            rcases hwhich with ⟨s, hs, h1, h2⟩ | hjl
            · obtain ⟨b2, o2, rfl, c2⟩ := HcL.out j s hs
              obtain ⟨hj2, hj3⟩ := HD0.out s hs
              have hb : Op.bytesLess s.toList v.toList = false := by
                cases hx : Op.bytesLess s.toList v.toList with
                | false => rfl
                | true => exact absurd hx h1
              have hb2 : (s.toList == v.toList) = false := by
                rw [beq_eq_false_iff_ne]
                exact fun e => h2 (toList_inj e)
              clear hs h1 h2
              go_wp2_with fail
              go_loopw [11, 12, 13] (fun lv mv i wr => ∃ q : Nat, q ≤ L.length + 1 ∧ i = .int .i64 q ∧ Hid (Mine 9 1 wo wr lv (insL L v j q).length (strs (insL L v j q))) ∧ Hid (Mine 3 1 wo wr mv (insL C 1 j q).length (ints (insL C 1 j q)))) (fun _ _ i _ => L.length + 1 - (intOf i).toNat)
              case atStart => exact ⟨0, by omega, rfl, HP0, HQ0⟩
              case round =>
                clear HP0 HQ0
                obtain ⟨q, hq, rfl, HP, HQ⟩ := hrel
                by_cases hql : q ≤ L.length
                · have hq1 : (0 : Int) ≤ (q : Int) := by omega
                  by_cases hqj : q = j
                  · have HQJ := Lib.hid hqj
                    have ej : ((q : Int) == (j : Int)) = true := by rw [beq_iff_eq]; omega
                    clear hqj
                    by_cases hql2 : q < L.length
                    · obtain ⟨x, hx⟩ : ∃ x, L[q]? = some x := ⟨L[q], List.getElem?_eq_getElem hql2⟩
                      obtain ⟨c, hc⟩ : ∃ x, C[q]? = some x := ⟨C[q]'(by have := HC0.out; omega), List.getElem?_eq_getElem (by have := HC0.out; omega)⟩
                      obtain ⟨b5, o5, e5, c5⟩ := HcL.out q x hx
                      obtain ⟨b6, o6, e6, c6⟩ := HcC.out q c hc
                      have FL : Hid (insL L v j (q + 1) = insL L v j q ++ [v] ++ [x]) := Lib.hid (by rw [insL_some hx]; unfold insM; rw [if_pos HQJ.out])
                      have FM : Hid (insL C 1 j (q + 1) = insL C 1 j q ++ [1] ++ [c]) := Lib.hid (by rw [insL_some hc]; unfold insM; rw [if_pos HQJ.out])
                      have hq2 : (q : Int) < (L.length : Int) := by omega
                      have HK5 : Hid (∀ W, Below wo.heap.size wo W → W.cell? ⟨b5, o5 + q, none⟩ = some (.string x) ∧ W.cell? ⟨b6, o6 + q, none⟩ = some (.int .i64 (c : Int))) := Lib.hid (fun W h => ⟨(h.cell (p := ⟨b5, o5 + q, none⟩) (World.block_lt_of_cell? wo _ c5)).trans c5, (h.cell (p := ⟨b6, o6 + q, none⟩) (World.block_lt_of_cell? wo _ c6)).trans c6⟩)
                      cases e5
                      cases e6
                      clear hx hc c5 c6
                      go_wp2_with (at_builtin; apply Hold.mk)
                      unfold Hold
                      refine mine_app rfl _ _ 77 rfl ok77 (by rfl) (by rfl) HP.out (by repeat (first | exact bel_refl _ | apply bel_alloc | apply bel_drew)) (by exact rd_lit 1 #[.string v] 1 (by simp) one_le rfl) (one_str v) (by have := HLen.out q; simp only [maxLen]; omega) (by have := HLen.out q; omega) ?_
                      intro v1 w1 hm1 hg1
                      have HM1 := Lib.hid (mine_other (e2 := 3) (HP.out.below (below_alloc _ (.cells #[.string v] 9))) (HQ.out.below (below_alloc _ (.cells #[.string v] 9))) (by decide) hg1 hm1)
                      have HL1 := Lib.hid hm1
                      clear hm1 hg1
                      go_wp2_with (at_builtin; apply Hold.mk)
                      unfold Hold
                      refine mine_app rfl _ _ 52 rfl ok52 (by rfl) (by rfl) HM1.out (by repeat (first | exact bel_refl _ | apply bel_alloc | apply bel_drew)) (by exact rd_lit 1 #[.int .i64 (1 : Int)] 1 (by simp) one_le rfl) (one_int (1 : Int)) (by have := HLen.out q; simp only [maxLen]; omega) (by have := HLen.out q; omega) ?_
                      intro v2 w2 hm2 hg2
                      have HL2 := Lib.hid (mine_other (e2 := 9) (HM1.out.below (below_alloc _ (.cells #[.int .i64 (1 : Int)] 3))) (HL1.out.below (below_alloc _ (.cells #[.int .i64 (1 : Int)] 3))) (by decide) hg2 hm2)
                      have HM2 := Lib.hid hm2
                      clear hm2 hg2
                      obtain ⟨kx3, kc3⟩ := HK5.out _ HL2.out.2.2
                      go_wp2_with (at_builtin; apply Hold.mk)
                      unfold Hold
                      refine mine_app rfl _ _ 77 rfl ok77 (by rfl) (by rfl) HL2.out (by repeat (first | exact bel_refl _ | apply bel_alloc | apply bel_drew)) (by exact rd_lit 1 #[.string x] 1 (by simp) one_le rfl) (one_str x) (by have := HLen.out q; simp only [maxLen]; omega) (by have := HLen.out q; omega) ?_
                      intro v3 w3 hm3 hg3
                      have HM3 := Lib.hid (mine_other (e2 := 3) (HL2.out.below (below_alloc _ (.cells #[.string x] 9))) (HM2.out.below (below_alloc _ (.cells #[.string x] 9))) (by decide) hg3 hm3)
                      have HL3 := Lib.hid hm3
                      clear hm3 hg3
                      obtain ⟨kx4, kc4⟩ := HK5.out _ HL3.out.2.2
                      go_wp2_with (at_builtin; apply Hold.mk)
                      unfold Hold
                      refine mine_app rfl _ _ 52 rfl ok52 (by rfl) (by rfl) HM3.out (by repeat (first | exact bel_refl _ | apply bel_alloc | apply bel_drew)) (by exact rd_lit 1 #[.int .i64 (c : Int)] 1 (by simp) one_le rfl) (one_int (c : Int)) (by have := HLen.out q; simp only [maxLen]; omega) (by have := HLen.out q; omega) ?_
                      intro v4 w4 hm4 hg4
                      have HL4 := Lib.hid (mine_other (e2 := 9) (HM3.out.below (below_alloc _ (.cells #[.int .i64 (c : Int)] 3))) (HL3.out.below (below_alloc _ (.cells #[.int .i64 (c : Int)] 3))) (by decide) hg4 hm4)
                      have HM4 := Lib.hid hm4
                      clear hm4 hg4
                      go_wp2_with fail
                      go_roundw
                      case rel => exact ⟨q + 1, by omega, by go_num, Lib.hid (by rw [FL.out, strs_snoc, strs_snoc, List.length_append, List.length_append]; exact HL4.out), Lib.hid (by rw [FM.out, ints_snoc, ints_snoc, List.length_append, List.length_append]; exact HM4.out)⟩
                      case measure => simp [intOf]; omega
                    · have hq2 : decide ((q : Int) < (L.length : Int)) = false := by simp only [decide_eq_false_iff_not]; omega
                      have hq3 : decide (q < L.length) = false := by simp only [decide_eq_false_iff_not]; omega
                      have FL : Hid (insL L v j (q + 1) = insL L v j q ++ [v]) := Lib.hid (by rw [insL_none (by omega) (List.getElem?_eq_none (by omega))]; unfold insM; rw [if_pos HQJ.out])
                      have FM : Hid (insL C 1 j (q + 1) = insL C 1 j q ++ [1]) := Lib.hid (by rw [insL_none (by have := HC0.out; omega) (List.getElem?_eq_none (by have := HC0.out; omega))]; unfold insM; rw [if_pos HQJ.out])
                      go_wp2_with (at_builtin; apply Hold.mk)
                      unfold Hold
                      refine mine_app rfl _ _ 77 rfl ok77 (by rfl) (by rfl) HP.out (by repeat (first | exact bel_refl _ | apply bel_alloc | apply bel_drew)) (by exact rd_lit 1 #[.string v] 1 (by simp) one_le rfl) (one_str v) (by have := HLen.out q; simp only [maxLen]; omega) (by have := HLen.out q; omega) ?_
                      intro v1 w1 hm1 hg1
                      have HM1 := Lib.hid (mine_other (e2 := 3) (HP.out.below (below_alloc _ (.cells #[.string v] 9))) (HQ.out.below (below_alloc _ (.cells #[.string v] 9))) (by decide) hg1 hm1)
                      have HL1 := Lib.hid hm1
                      clear hm1 hg1
                      go_wp2_with (at_builtin; apply Hold.mk)
                      unfold Hold
                      refine mine_app rfl _ _ 52 rfl ok52 (by rfl) (by rfl) HM1.out (by repeat (first | exact bel_refl _ | apply bel_alloc | apply bel_drew)) (by exact rd_lit 1 #[.int .i64 (1 : Int)] 1 (by simp) one_le rfl) (one_int (1 : Int)) (by have := HLen.out q; simp only [maxLen]; omega) (by have := HLen.out q; omega) ?_
                      intro v2 w2 hm2 hg2
                      have HL2 := Lib.hid (mine_other (e2 := 9) (HM1.out.below (below_alloc _ (.cells #[.int .i64 (1 : Int)] 3))) (HL1.out.below (below_alloc _ (.cells #[.int .i64 (1 : Int)] 3))) (by decide) hg2 hm2)
                      have HM2 := Lib.hid hm2
                      clear hm2 hg2
                      go_wp2_with fail
                      go_roundw
                      case rel => exact ⟨q + 1, by omega, by go_num, Lib.hid (by rw [FL.out, strs_snoc, List.length_append]; exact HL2.out), Lib.hid (by rw [FM.out, ints_snoc, List.length_append]; exact HM2.out)⟩
                      case measure => simp [intOf]; omega
                  · have ej : ((q : Int) == (j : Int)) = false := by rw [beq_eq_false_iff_ne]; omega
                    have HQJ := Lib.hid hqj
                    clear hqj
                    by_cases hql2 : q < L.length
                    · obtain ⟨x, hx⟩ : ∃ x, L[q]? = some x := ⟨L[q], List.getElem?_eq_getElem hql2⟩
                      obtain ⟨c, hc⟩ : ∃ x, C[q]? = some x := ⟨C[q]'(by have := HC0.out; omega), List.getElem?_eq_getElem (by have := HC0.out; omega)⟩
                      obtain ⟨b5, o5, e5, c5⟩ := HcL.out q x hx
                      obtain ⟨b6, o6, e6, c6⟩ := HcC.out q c hc
                      have FL : Hid (insL L v j (q + 1) = insL L v j q ++ [x]) := Lib.hid (by rw [insL_some hx]; unfold insM; rw [if_neg HQJ.out, List.append_nil])
                      have FM : Hid (insL C 1 j (q + 1) = insL C 1 j q ++ [c]) := Lib.hid (by rw [insL_some hc]; unfold insM; rw [if_neg HQJ.out, List.append_nil])
                      have hq2 : (q : Int) < (L.length : Int) := by omega
                      have HK5 : Hid (∀ W, Below wo.heap.size wo W → W.cell? ⟨b5, o5 + q, none⟩ = some (.string x) ∧ W.cell? ⟨b6, o6 + q, none⟩ = some (.int .i64 (c : Int))) := Lib.hid (fun W h => ⟨(h.cell (p := ⟨b5, o5 + q, none⟩) (World.block_lt_of_cell? wo _ c5)).trans c5, (h.cell (p := ⟨b6, o6 + q, none⟩) (World.block_lt_of_cell? wo _ c6)).trans c6⟩)
                      cases e5
                      cases e6
                      clear hx hc c5 c6
                      obtain ⟨kx1, kc1⟩ := HK5.out _ HP.out.2.2
                      go_wp2_with (at_builtin; apply Hold.mk)
                      unfold Hold
                      refine mine_app rfl _ _ 77 rfl ok77 (by rfl) (by rfl) HP.out (by repeat (first | exact bel_refl _ | apply bel_alloc | apply bel_drew)) (by exact rd_lit 1 #[.string x] 1 (by simp) one_le rfl) (one_str x) (by have := HLen.out q; simp only [maxLen]; omega) (by have := HLen.out q; omega) ?_
                      intro v1 w1 hm1 hg1
                      have HM1 := Lib.hid (mine_other (e2 := 3) (HP.out.below (below_alloc _ (.cells #[.string x] 9))) (HQ.out.below (below_alloc _ (.cells #[.string x] 9))) (by decide) hg1 hm1)
                      have HL1 := Lib.hid hm1
                      clear hm1 hg1
                      obtain ⟨kx2, kc2⟩ := HK5.out _ HL1.out.2.2
                      go_wp2_with (at_builtin; apply Hold.mk)
                      unfold Hold
                      refine mine_app rfl _ _ 52 rfl ok52 (by rfl) (by rfl) HM1.out (by repeat (first | exact bel_refl _ | apply bel_alloc | apply bel_drew)) (by exact rd_lit 1 #[.int .i64 (c : Int)] 1 (by simp) one_le rfl) (one_int (c : Int)) (by have := HLen.out q; simp only [maxLen]; omega) (by have := HLen.out q; omega) ?_
                      intro v2 w2 hm2 hg2
                      have HL2 := Lib.hid (mine_other (e2 := 9) (HM1.out.below (below_alloc _ (.cells #[.int .i64 (c : Int)] 3))) (HL1.out.below (below_alloc _ (.cells #[.int .i64 (c : Int)] 3))) (by decide) hg2 hm2)
                      have HM2 := Lib.hid hm2
                      clear hm2 hg2
                      go_wp2_with fail
                      go_roundw
                      case rel => exact ⟨q + 1, by omega, by go_num, Lib.hid (by rw [FL.out, strs_snoc, List.length_append]; exact HL2.out), Lib.hid (by rw [FM.out, ints_snoc, List.length_append]; exact HM2.out)⟩
                      case measure => simp [intOf]; omega
                    · have hq2 : decide ((q : Int) < (L.length : Int)) = false := by simp only [decide_eq_false_iff_not]; omega
                      have hq3 : decide (q < L.length) = false := by simp only [decide_eq_false_iff_not]; omega
                      have FL : Hid (insL L v j (q + 1) = insL L v j q) := Lib.hid (by rw [insL_none (by omega) (List.getElem?_eq_none (by omega))]; unfold insM; rw [if_neg HQJ.out, List.append_nil])
                      have FM : Hid (insL C 1 j (q + 1) = insL C 1 j q) := Lib.hid (by rw [insL_none (by have := HC0.out; omega) (List.getElem?_eq_none (by have := HC0.out; omega))]; unfold insM; rw [if_neg HQJ.out, List.append_nil])
                      go_wp2_with fail
                      go_roundw
                      case rel => exact ⟨q + 1, by omega, by go_num, Lib.hid (by rw [FL.out]; exact HP.out), Lib.hid (by rw [FM.out]; exact HQ.out)⟩
                      case measure => simp [intOf]; omega
                · obtain rfl : q = L.length + 1 := by omega
                  have GL : Hid (insL L v j (L.length + 1) = L.take j ++ v :: L.drop j) := Lib.hid (insL_end L v hj)
                  have GM : Hid (insL C 1 j (L.length + 1) = C.take j ++ 1 :: C.drop j) := Lib.hid (by rw [← HC0.out]; exact insL_end C 1 (by have := HC0.out; omega))
                  have GN : Hid ((L.take j ++ v :: L.drop j).length = L.length + 1) := Lib.hid (by simp; omega)
                  have HPw : Hid (Mine 9 1 w wr u11 (L.take j ++ v :: L.drop j).length (strs (L.take j ++ v :: L.drop j))) := Lib.hid (by
                    have := HP.out
                    rw [GL.out] at this
                    exact ⟨this.1, fun b hb => Nat.le_trans HA.out.2.2.size (this.2.1 b hb), bel_trans HA.out.2.2 this.2.2⟩)
                  have HQw : Hid (Mine 3 1 w wr u12 (L.take j ++ v :: L.drop j).length (ints (cnts nm (D.take (k + 1)) (L.take j ++ v :: L.drop j)))) := Lib.hid (by
                    have := HQ.out
                    rw [GM.out] at this
                    rw [HS2.out]
                    have e : (C.take j ++ 1 :: C.drop j).length = (L.take j ++ v :: L.drop j).length := by
                      have := HC0.out
                      simp; omega
                    rw [← e]
                    exact ⟨this.1, fun b hb => Nat.le_trans HA.out.2.2.size (this.2.1 b hb), bel_trans HA.out.2.2 this.2.2⟩)
                  have HXw := Lib.hid (HX.out.next HP.out.2.2)
                  have hgn : (L.take j ++ v :: L.drop j).length ≤ k + 1 := by have := GN.out; omega
                  go_wp2_with fail
                  go_roundw
                  case rel => exact ⟨k + 1, _, by omega, by go_num, hgn, HS1, HPw, HQw, HXw⟩
                  case measure => simp [intOf]; omega
            · have hd1 : decide ((j : Int) < (L.length : Int)) = false := by simp only [decide_eq_false_iff_not]; omega
              have hd2 : decide (j < L.length) = false := by simp only [decide_eq_false_iff_not]; omega
              have Hjl := Lib.hid hjl
              clear hjl
              go_wp2_with fail
              go_loopw [11, 12, 13] (fun lv mv i wr => ∃ q : Nat, q ≤ L.length + 1 ∧ i = .int .i64 q ∧ Hid (Mine 9 1 wo wr lv (insL L v j q).length (strs (insL L v j q))) ∧ Hid (Mine 3 1 wo wr mv (insL C 1 j q).length (ints (insL C 1 j q)))) (fun _ _ i _ => L.length + 1 - (intOf i).toNat)
              case atStart => exact ⟨0, by omega, rfl, HP0, HQ0⟩
              case round =>
                clear HP0 HQ0
                obtain ⟨q, hq, rfl, HP, HQ⟩ := hrel
                by_cases hql : q ≤ L.length
                · have hq1 : (0 : Int) ≤ (q : Int) := by omega
                  by_cases hqj : q = j
                  · have HQJ := Lib.hid hqj
                    have ej : ((q : Int) == (j : Int)) = true := by rw [beq_iff_eq]; omega
                    clear hqj
                    by_cases hql2 : q < L.length
                    · obtain ⟨x, hx⟩ : ∃ x, L[q]? = some x := ⟨L[q], List.getElem?_eq_getElem hql2⟩
                      obtain ⟨c, hc⟩ : ∃ x, C[q]? = some x := ⟨C[q]'(by have := HC0.out; omega), List.getElem?_eq_getElem (by have := HC0.out; omega)⟩
                      obtain ⟨b5, o5, e5, c5⟩ := HcL.out q x hx
                      obtain ⟨b6, o6, e6, c6⟩ := HcC.out q c hc
                      have FL : Hid (insL L v j (q + 1) = insL L v j q ++ [v] ++ [x]) := Lib.hid (by rw [insL_some hx]; unfold insM; rw [if_pos HQJ.out])
                      have FM : Hid (insL C 1 j (q + 1) = insL C 1 j q ++ [1] ++ [c]) := Lib.hid (by rw [insL_some hc]; unfold insM; rw [if_pos HQJ.out])
                      have hq2 : (q : Int) < (L.length : Int) := by omega
                      have HK5 : Hid (∀ W, Below wo.heap.size wo W → W.cell? ⟨b5, o5 + q, none⟩ = some (.string x) ∧ W.cell? ⟨b6, o6 + q, none⟩ = some (.int .i64 (c : Int))) := Lib.hid (fun W h => ⟨(h.cell (p := ⟨b5, o5 + q, none⟩) (World.block_lt_of_cell? wo _ c5)).trans c5, (h.cell (p := ⟨b6, o6 + q, none⟩) (World.block_lt_of_cell? wo _ c6)).trans c6⟩)
                      cases e5
                      cases e6
                      clear hx hc c5 c6
                      go_wp2_with (at_builtin; apply Hold.mk)
                      unfold Hold
                      refine mine_app rfl _ _ 77 rfl ok77 (by rfl) (by rfl) HP.out (by repeat (first | exact bel_refl _ | apply bel_alloc | apply bel_drew)) (by exact rd_lit 1 #[.string v] 1 (by simp) one_le rfl) (one_str v) (by have := HLen.out q; simp only [maxLen]; omega) (by have := HLen.out q; omega) ?_
                      intro v1 w1 hm1 hg1
                      have HM1 := Lib.hid (mine_other (e2 := 3) (HP.out.below (below_alloc _ (.cells #[.string v] 9))) (HQ.out.below (below_alloc _ (.cells #[.string v] 9))) (by decide) hg1 hm1)
                      have HL1 := Lib.hid hm1
                      clear hm1 hg1
                      go_wp2_with (at_builtin; apply Hold.mk)
                      unfold Hold
                      refine mine_app rfl _ _ 52 rfl ok52 (by rfl) (by rfl) HM1.out (by repeat (first | exact bel_refl _ | apply bel_alloc | apply bel_drew)) (by exact rd_lit 1 #[.int .i64 (1 : Int)] 1 (by simp) one_le rfl) (one_int (1 : Int)) (by have := HLen.out q; simp only [maxLen]; omega) (by have := HLen.out q; omega) ?_
                      intro v2 w2 hm2 hg2
                      have HL2 := Lib.hid (mine_other (e2 := 9) (HM1.out.below (below_alloc _ (.cells #[.int .i64 (1 : Int)] 3))) (HL1.out.below (below_alloc _ (.cells #[.int .i64 (1 : Int)] 3))) (by decide) hg2 hm2)
                      have HM2 := Lib.hid hm2
                      clear hm2 hg2
                      obtain ⟨kx3, kc3⟩ := HK5.out _ HL2.out.2.2
                      go_wp2_with (at_builtin; apply Hold.mk)
                      unfold Hold
                      refine mine_app rfl _ _ 77 rfl ok77 (by rfl) (by rfl) HL2.out (by repeat (first | exact bel_refl _ | apply bel_alloc | apply bel_drew)) (by exact rd_lit 1 #[.string x] 1 (by simp) one_le rfl) (one_str x) (by have := HLen.out q; simp only [maxLen]; omega) (by have := HLen.out q; omega) ?_
                      intro v3 w3 hm3 hg3
                      have HM3 := Lib.hid (mine_other (e2 := 3) (HL2.out.below (below_alloc _ (.cells #[.string x] 9))) (HM2.out.below (below_alloc _ (.cells #[.string x] 9))) (by decide) hg3 hm3)
                      have HL3 := Lib.hid hm3
                      clear hm3 hg3
                      obtain ⟨kx4, kc4⟩ := HK5.out _ HL3.out.2.2
                      go_wp2_with (at_builtin; apply Hold.mk)
                      unfold Hold
                      refine mine_app rfl _ _ 52 rfl ok52 (by rfl) (by rfl) HM3.out (by repeat (first | exact bel_refl _ | apply bel_alloc | apply bel_drew)) (by exact rd_lit 1 #[.int .i64 (c : Int)] 1 (by simp) one_le rfl) (one_int (c : Int)) (by have := HLen.out q; simp only [maxLen]; omega) (by have := HLen.out q; omega) ?_
                      intro v4 w4 hm4 hg4
                      have HL4 := Lib.hid (mine_other (e2 := 9) (HM3.out.below (below_alloc _ (.cells #[.int .i64 (c : Int)] 3))) (HL3.out.below (below_alloc _ (.cells #[.int .i64 (c : Int)] 3))) (by decide) hg4 hm4)
                      have HM4 := Lib.hid hm4
                      clear hm4 hg4
                      go_wp2_with fail
                      go_roundw
                      case rel => exact ⟨q + 1, by omega, by go_num, Lib.hid (by rw [FL.out, strs_snoc, strs_snoc, List.length_append, List.length_append]; exact HL4.out), Lib.hid (by rw [FM.out, ints_snoc, ints_snoc, List.length_append, List.length_append]; exact HM4.out)⟩
                      case measure => simp [intOf]; omega
                    · have hq2 : decide ((q : Int) < (L.length : Int)) = false := by simp only [decide_eq_false_iff_not]; omega
                      have hq3 : decide (q < L.length) = false := by simp only [decide_eq_false_iff_not]; omega
                      have FL : Hid (insL L v j (q + 1) = insL L v j q ++ [v]) := Lib.hid (by rw [insL_none (by omega) (List.getElem?_eq_none (by omega))]; unfold insM; rw [if_pos HQJ.out])
                      have FM : Hid (insL C 1 j (q + 1) = insL C 1 j q ++ [1]) := Lib.hid (by rw [insL_none (by have := HC0.out; omega) (List.getElem?_eq_none (by have := HC0.out; omega))]; unfold insM; rw [if_pos HQJ.out])
                      go_wp2_with (at_builtin; apply Hold.mk)
                      unfold Hold
                      refine mine_app rfl _ _ 77 rfl ok77 (by rfl) (by rfl) HP.out (by repeat (first | exact bel_refl _ | apply bel_alloc | apply bel_drew)) (by exact rd_lit 1 #[.string v] 1 (by simp) one_le rfl) (one_str v) (by have := HLen.out q; simp only [maxLen]; omega) (by have := HLen.out q; omega) ?_
                      intro v1 w1 hm1 hg1
                      have HM1 := Lib.hid (mine_other (e2 := 3) (HP.out.below (below_alloc _ (.cells #[.string v] 9))) (HQ.out.below (below_alloc _ (.cells #[.string v] 9))) (by decide) hg1 hm1)
                      have HL1 := Lib.hid hm1
                      clear hm1 hg1
                      go_wp2_with (at_builtin; apply Hold.mk)
                      unfold Hold
                      refine mine_app rfl _ _ 52 rfl ok52 (by rfl) (by rfl) HM1.out (by repeat (first | exact bel_refl _ | apply bel_alloc | apply bel_drew)) (by exact rd_lit 1 #[.int .i64 (1 : Int)] 1 (by simp) one_le rfl) (one_int (1 : Int)) (by have := HLen.out q; simp only [maxLen]; omega) (by have := HLen.out q; omega) ?_
                      intro v2 w2 hm2 hg2
                      have HL2 := Lib.hid (mine_other (e2 := 9) (HM1.out.below (below_alloc _ (.cells #[.int .i64 (1 : Int)] 3))) (HL1.out.below (below_alloc _ (.cells #[.int .i64 (1 : Int)] 3))) (by decide) hg2 hm2)
                      have HM2 := Lib.hid hm2
                      clear hm2 hg2
                      go_wp2_with fail
                      go_roundw
                      case rel => exact ⟨q + 1, by omega, by go_num, Lib.hid (by rw [FL.out, strs_snoc, List.length_append]; exact HL2.out), Lib.hid (by rw [FM.out, ints_snoc, List.length_append]; exact HM2.out)⟩
                      case measure => simp [intOf]; omega
                  · have ej : ((q : Int) == (j : Int)) = false := by rw [beq_eq_false_iff_ne]; omega
                    have HQJ := Lib.hid hqj
                    clear hqj
                    by_cases hql2 : q < L.length
                    · obtain ⟨x, hx⟩ : ∃ x, L[q]? = some x := ⟨L[q], List.getElem?_eq_getElem hql2⟩
                      obtain ⟨c, hc⟩ : ∃ x, C[q]? = some x := ⟨C[q]'(by have := HC0.out; omega), List.getElem?_eq_getElem (by have := HC0.out; omega)⟩
                      obtain ⟨b5, o5, e5, c5⟩ := HcL.out q x hx
                      obtain ⟨b6, o6, e6, c6⟩ := HcC.out q c hc
                      have FL : Hid (insL L v j (q + 1) = insL L v j q ++ [x]) := Lib.hid (by rw [insL_some hx]; unfold insM; rw [if_neg HQJ.out, List.append_nil])
                      have FM : Hid (insL C 1 j (q + 1) = insL C 1 j q ++ [c]) := Lib.hid (by rw [insL_some hc]; unfold insM; rw [if_neg HQJ.out, List.append_nil])
                      have hq2 : (q : Int) < (L.length : Int) := by omega
                      have HK5 : Hid (∀ W, Below wo.heap.size wo W → W.cell? ⟨b5, o5 + q, none⟩ = some (.string x) ∧ W.cell? ⟨b6, o6 + q, none⟩ = some (.int .i64 (c : Int))) := Lib.hid (fun W h => ⟨(h.cell (p := ⟨b5, o5 + q, none⟩) (World.block_lt_of_cell? wo _ c5)).trans c5, (h.cell (p := ⟨b6, o6 + q, none⟩) (World.block_lt_of_cell? wo _ c6)).trans c6⟩)
                      cases e5
                      cases e6
                      clear hx hc c5 c6
                      obtain ⟨kx1, kc1⟩ := HK5.out _ HP.out.2.2
                      go_wp2_with (at_builtin; apply Hold.mk)
                      unfold Hold
                      refine mine_app rfl _ _ 77 rfl ok77 (by rfl) (by rfl) HP.out (by repeat (first | exact bel_refl _ | apply bel_alloc | apply bel_drew)) (by exact rd_lit 1 #[.string x] 1 (by simp) one_le rfl) (one_str x) (by have := HLen.out q; simp only [maxLen]; omega) (by have := HLen.out q; omega) ?_
                      intro v1 w1 hm1 hg1
                      have HM1 := Lib.hid (mine_other (e2 := 3) (HP.out.below (below_alloc _ (.cells #[.string x] 9))) (HQ.out.below (below_alloc _ (.cells #[.string x] 9))) (by decide) hg1 hm1)
                      have HL1 := Lib.hid hm1
                      clear hm1 hg1
                      obtain ⟨kx2, kc2⟩ := HK5.out _ HL1.out.2.2
                      go_wp2_with (at_builtin; apply Hold.mk)
                      unfold Hold
                      refine mine_app rfl _ _ 52 rfl ok52 (by rfl) (by rfl) HM1.out (by repeat (first | exact bel_refl _ | apply bel_alloc | apply bel_drew)) (by exact rd_lit 1 #[.int .i64 (c : Int)] 1 (by simp) one_le rfl) (one_int (c : Int)) (by have := HLen.out q; simp only [maxLen]; omega) (by have := HLen.out q; omega) ?_
                      intro v2 w2 hm2 hg2
                      have HL2 := Lib.hid (mine_other (e2 := 9) (HM1.out.below (below_alloc _ (.cells #[.int .i64 (c : Int)] 3))) (HL1.out.below (below_alloc _ (.cells #[.int .i64 (c : Int)] 3))) (by decide) hg2 hm2)
                      have HM2 := Lib.hid hm2
                      clear hm2 hg2
                      go_wp2_with fail
                      go_roundw
                      case rel => exact ⟨q + 1, by omega, by go_num, Lib.hid (by rw [FL.out, strs_snoc, List.length_append]; exact HL2.out), Lib.hid (by rw [FM.out, ints_snoc, List.length_append]; exact HM2.out)⟩
                      case measure => simp [intOf]; omega
                    · have hq2 : decide ((q : Int) < (L.length : Int)) = false := by simp only [decide_eq_false_iff_not]; omega
                      have hq3 : decide (q < L.length) = false := by simp only [decide_eq_false_iff_not]; omega
                      have FL : Hid (insL L v j (q + 1) = insL L v j q) := Lib.hid (by rw [insL_none (by omega) (List.getElem?_eq_none (by omega))]; unfold insM; rw [if_neg HQJ.out, List.append_nil])
                      have FM : Hid (insL C 1 j (q + 1) = insL C 1 j q) := Lib.hid (by rw [insL_none (by have := HC0.out; omega) (List.getElem?_eq_none (by have := HC0.out; omega))]; unfold insM; rw [if_neg HQJ.out, List.append_nil])
                      go_wp2_with fail
                      go_roundw
                      case rel => exact ⟨q + 1, by omega, by go_num, Lib.hid (by rw [FL.out]; exact HP.out), Lib.hid (by rw [FM.out]; exact HQ.out)⟩
                      case measure => simp [intOf]; omega
                · obtain rfl : q = L.length + 1 := by omega
                  have GL : Hid (insL L v j (L.length + 1) = L.take j ++ v :: L.drop j) := Lib.hid (insL_end L v hj)
                  have GM : Hid (insL C 1 j (L.length + 1) = C.take j ++ 1 :: C.drop j) := Lib.hid (by rw [← HC0.out]; exact insL_end C 1 (by have := HC0.out; omega))
                  have GN : Hid ((L.take j ++ v :: L.drop j).length = L.length + 1) := Lib.hid (by simp; omega)
                  have HPw : Hid (Mine 9 1 w wr u11 (L.take j ++ v :: L.drop j).length (strs (L.take j ++ v :: L.drop j))) := Lib.hid (by
                    have := HP.out
                    rw [GL.out] at this
                    exact ⟨this.1, fun b hb => Nat.le_trans HA.out.2.2.size (this.2.1 b hb), bel_trans HA.out.2.2 this.2.2⟩)
                  have HQw : Hid (Mine 3 1 w wr u12 (L.take j ++ v :: L.drop j).length (ints (cnts nm (D.take (k + 1)) (L.take j ++ v :: L.drop j)))) := Lib.hid (by
                    have := HQ.out
                    rw [GM.out] at this
                    rw [HS2.out]
                    have e : (C.take j ++ 1 :: C.drop j).length = (L.take j ++ v :: L.drop j).length := by
                      have := HC0.out
                      simp; omega
                    rw [← e]
                    exact ⟨this.1, fun b hb => Nat.le_trans HA.out.2.2.size (this.2.1 b hb), bel_trans HA.out.2.2 this.2.2⟩)
                  have HXw := Lib.hid (HX.out.next HP.out.2.2)
                  have hgn : (L.take j ++ v :: L.drop j).length ≤ k + 1 := by have := GN.out; omega
                  go_wp2_with fail
                  go_roundw
                  case rel => exact ⟨k + 1, _, by omega, by go_num, hgn, HS1, HPw, HQw, HXw⟩
                  case measure => simp [intOf]; omega
    · obtain rfl : D.length = k := by omega
      rw [List.take_length] at HL HB
      go_wp2_with fail
      refine bodyPost_ret (v := .tuple #[.slice aa L.length ac, .slice ba L.length bc]) (by simp [results, Try.results31, go_sem, *]) rfl ?_
      exact ⟨_, _, L, rfl, HL.out, HA.out.1, HB.out.1, HA.out.2.2⟩
end Go.Proofs.Ytmmilgcbjpbelaa
