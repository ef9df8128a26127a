/- Which texts are names, and values: label.IsName (53), label.IsValue (54), the document's (42, 43). -/
import Derived.Test.YtplieoalfbpniaaGreatS1
import Derived.Test.YtplieoalfbpniaaGreatPL
import Derived.WalkLawsBesides
namespace Go.Proofs.YtplieoalfbpniaaGreat
open Go.RowKit Go.Kt Go.Ix
set_option maxRecDepth 100000

theorem bl_get (s : ByteArray) (k : Nat) (h : k < s.size) : (bl s).take (k + 1) = (bl s).take k ++ [s[k]'h] := by
  have hk : k < (bl s).length := by rw [bl_len]; exact h
  rw [List.take_succ_eq_append_getElem hk]
  rfl
/-- a call that says whether P -/
def Says (P : Prop) (e : Ending) : Prop := ∃ b, e = .returned (.bool b) ∧ (b = true ↔ P)
theorem says_yes {P : Prop} (h : P) : Says P (.returned (.bool true)) := ⟨true, rfl, by simp [h]⟩
theorem says_no {P : Prop} (h : ¬ P) : Says P (.returned (.bool false)) := ⟨false, rfl, by simp [h]⟩
theorem isv_go {s : ByteArray} {P : Nat → UInt8 → Prop} {k : Nat} (h : Hid (∀ i (h : i < (bl s).length), i < k → P i (bl s)[i])) (hlt : k < s.size) (hp : P k (s[k]'hlt)) : Hid (∀ i (h : i < (bl s).length), i < k + 1 → P i (bl s)[i]) :=
  Lib.hid fun i hi hk => by
    by_cases e : i = k
    · subst e; exact hp
    · exact h.out i hi (by omega)
theorem bytes_nil {s : ByteArray} (h : s.size = 0) : s.toList.isEmpty = true := by
  rw [ByteArray.toList_eq, List.isEmpty_iff]
  exact List.eq_nil_of_length_eq_zero (by rw [← bl_len s] at h; exact h)
theorem bytes_some {s : ByteArray} (h : 0 < s.size) : s.toList.isEmpty = false := by
  rw [ByteArray.toList_eq]
  have := bl_len s
  unfold bl at this
  cases hl : s.data.toList with
  | nil => rw [hl] at this; simp at this; omega
  | cons _ _ => rfl

set_option maxHeartbeats 400000 in
theorem isValue_any (s : ByteArray) (w : World) (hs : s.size ≤ maxLen) :
    Calls Tryz.prog 72 #[.string s] w fun e w' => Says (ValP (bl s)) e ∧ w = w' := by
  unfold maxLen at hs
  by_cases h0 : s.size = 0
  · have e0 := bytes_nil h0
    go_enter Tryz.func72, Tryz.ntmps72
    go_wp2
    go_ret
    exact ⟨says_no (fun h => by have := bl_len s; have := h.1; have := h.2.1; omega), rfl⟩
  have h1 := bytes_some (show 0 < s.size by omega)
  by_cases h2 : 64 < s.size
  · go_enter Tryz.func72, Tryz.ntmps72
    go_wp2
    go_ret
    exact ⟨says_no (fun h => by have := bl_len s; have := h.1; have := h.2.1; omega), rfl⟩
  go_enter Tryz.func72, Tryz.ntmps72
  go_wp2
  go_loop [3, 13] (fun _ i => ∃ k : Nat, k ≤ s.size ∧ i = .int .i64 k ∧ Hid (∀ i (h : i < (bl s).length), i < k → valAt (bl s)[i])) (fun _ i => s.size - (intOf i).toNat)
  case atStart => exact ⟨0, by omega, rfl, Lib.hid (fun i h hk => by omega)⟩
  case round =>
    obtain ⟨k, hk, rfl, HK⟩ := hrel
    by_cases hlt : k < s.size
    · have hg := @isv_go s (fun _ c => valAt c) k HK hlt
      have hx := (s[k]'hlt).toNat_lt
      have hbx : (bl s)[k]'(by rw [bl_len]; exact hlt) = s[k]'hlt := rfl
      have Hno : ¬ valAt (s[k]'hlt) → ¬ ValP (bl s) := fun h hv => h (hbx ▸ hv.2.2 k (by rw [bl_len]; exact hlt))
      have HG := Lib.hid hg
      have HN := Lib.hid Hno
      clear hg hbx Hno
      generalize hxx : (s[k]'hlt) = x at hx HG HN
      by_cases hv : valAt x
      · have HV := HG.out hv
        unfold valAt at hv
        obtain ⟨v1, v2⟩ := hv
        clear HG HN
        go_wp2
        go_round
        case rel => exact ⟨k + 1, by omega, by go_num, HV⟩
        case measure => simp [intOf]; omega
      · have HV := Lib.hid (HN.out hv)
        unfold valAt at hv
        clear HG HN
        have hv' : ((x.toNat : Int) < 32) ∨ ((x.toNat : Int) ≥ 32 ∧ 126 < (x.toNat : Int)) := by omega
        clear hv
        rcases hv' with hv | ⟨hv1, hv2⟩
        · go_wp2
          go_ret
          exact ⟨says_no HV.out, rfl⟩
        · go_wp2
          go_ret
          exact ⟨says_no HV.out, rfl⟩
    · obtain rfl : k = s.size := by omega
      go_wp2
      go_ret
      have := bl_len s
      exact ⟨says_yes ⟨by omega, by omega, fun i hi => HK.out i hi (by omega)⟩, rfl⟩

set_option maxHeartbeats 400000 in
theorem refIsValue_any (s : ByteArray) (w : World) (hs : s.size ≤ maxLen) :
    Calls Tryz.prog 75 #[.string s] w fun e w' => Says (ValP (bl s)) e ∧ w = w' := by
  unfold maxLen at hs
  go_enter Tryz.func75, Tryz.ntmps75
  go_wp2
  go_loop [3] (fun i => ∃ k : Nat, k ≤ s.size ∧ i = .int .i64 k ∧ Hid (∀ i (h : i < (bl s).length), i < k → valAt (bl s)[i])) (fun i => s.size - (intOf i).toNat)
  case atStart => exact ⟨0, by omega, rfl, Lib.hid (fun i h hk => by omega)⟩
  case round =>
    obtain ⟨k, hk, rfl, HK⟩ := hrel
    by_cases hlt : k < s.size
    · have hg := @isv_go s (fun _ c => valAt c) k HK hlt
      have hx := (s[k]'hlt).toNat_lt
      have hbx : (bl s)[k]'(by rw [bl_len]; exact hlt) = s[k]'hlt := rfl
      have Hno : ¬ valAt (s[k]'hlt) → ¬ ValP (bl s) := fun h hv => h (hbx ▸ hv.2.2 k (by rw [bl_len]; exact hlt))
      have HG := Lib.hid hg
      have HN := Lib.hid Hno
      clear hg hbx Hno
      generalize hxx : (s[k]'hlt) = x at hx HG HN
      by_cases hv : valAt x
      · have HV := HG.out hv
        unfold valAt at hv
        obtain ⟨v1, v2⟩ := hv
        clear HG HN
        go_wp2
        go_round
        case rel => exact ⟨k + 1, by omega, by go_num, HV⟩
        case measure => simp [intOf]; omega
      · have HV := Lib.hid (HN.out hv)
        unfold valAt at hv
        clear HG HN
        have hv' : ((x.toNat : Int) < 32) ∨ ((x.toNat : Int) ≥ 32 ∧ 126 < (x.toNat : Int)) := by omega
        clear hv
        rcases hv' with hv | ⟨hv1, hv2⟩
        · go_wp2
          go_ret
          exact ⟨says_no HV.out, rfl⟩
        · go_wp2
          go_ret
          exact ⟨says_no HV.out, rfl⟩
    · obtain rfl : k = s.size := by omega
      have hl := bl_len s
      by_cases h1 : 1 ≤ s.size
      · by_cases h2 : s.size ≤ 64
        · have hd : decide ((s.size : Int) ≤ 64) = true := by simp only [decide_eq_true_eq]; omega
          go_wp2
          go_ret
          exact ⟨says_yes ⟨by omega, by omega, fun i hi => HK.out i hi (by omega)⟩, rfl⟩
        · have hd : decide ((s.size : Int) ≤ 64) = false := by simp only [decide_eq_false_iff_not]; omega
          go_wp2
          go_ret
          exact ⟨says_no (fun h => by have := h.1; have := h.2.1; omega), rfl⟩
      · go_wp2
        go_ret
        exact ⟨says_no (fun h => by have := h.1; have := h.2.1; omega), rfl⟩

theorem nameAt_class (k : Nat) (x : UInt8) : (nameAt k x ∧ ((97 ≤ (x.toNat : Int) ∧ (x.toNat : Int) ≤ 122) ∨ ((x.toNat : Int) < 97 ∧ 65 ≤ (x.toNat : Int) ∧ (x.toNat : Int) ≤ 90) ∨ ((x.toNat : Int) = 95) ∨ (((x.toNat : Int) < 97 ∧ (x.toNat : Int) < 65 ∧ ((x.toNat : Int) == 95) = false) ∧ (((k : Int) == 0) = false ∧ 0 < (k : Int)) ∧ 48 ≤ (x.toNat : Int) ∧ (x.toNat : Int) ≤ 57))) ∨
    (¬ nameAt k x ∧ ((k = 0 ∧ (x.toNat : Int) < 97 ∧ (x.toNat : Int) < 65 ∧ ((x.toNat : Int) == 95) = false) ∨ (k = 0 ∧ (x.toNat : Int) < 97 ∧ 65 ≤ (x.toNat : Int) ∧ 90 < (x.toNat : Int) ∧ ((x.toNat : Int) == 95) = false) ∨ (k = 0 ∧ 97 ≤ (x.toNat : Int) ∧ 122 < (x.toNat : Int) ∧ 65 ≤ (x.toNat : Int) ∧ 90 < (x.toNat : Int) ∧ ((x.toNat : Int) == 95) = false) ∨ ((((k : Int) == 0) = false ∧ 0 < (k : Int)) ∧ ((x.toNat : Int) < 97 ∧ (x.toNat : Int) < 65 ∧ ((x.toNat : Int) == 95) = false) ∧ (x.toNat : Int) < 48) ∨ ((((k : Int) == 0) = false ∧ 0 < (k : Int)) ∧ ((x.toNat : Int) < 97 ∧ (x.toNat : Int) < 65 ∧ ((x.toNat : Int) == 95) = false) ∧ 48 ≤ (x.toNat : Int) ∧ 57 < (x.toNat : Int)) ∨ ((((k : Int) == 0) = false ∧ 0 < (k : Int)) ∧ ((x.toNat : Int) < 97 ∧ 65 ≤ (x.toNat : Int) ∧ 90 < (x.toNat : Int) ∧ ((x.toNat : Int) == 95) = false) ∧ 48 ≤ (x.toNat : Int) ∧ 57 < (x.toNat : Int)) ∨ ((((k : Int) == 0) = false ∧ 0 < (k : Int)) ∧ (97 ≤ (x.toNat : Int) ∧ 122 < (x.toNat : Int) ∧ 65 ≤ (x.toNat : Int) ∧ 90 < (x.toNat : Int) ∧ ((x.toNat : Int) == 95) = false) ∧ 48 ≤ (x.toNat : Int) ∧ 57 < (x.toNat : Int)))) := by
  have e : nameAt k x ↔ ((97 ≤ x.toNat ∧ x.toNat ≤ 122) ∨ (65 ≤ x.toNat ∧ x.toNat ≤ 90) ∨ x.toNat = 95) ∨ (0 < k ∧ 48 ≤ x.toNat ∧ x.toNat ≤ 57) := by
    unfold nameAt letter digit
    simp only [Bool.or_eq_true, Bool.and_eq_true, decide_eq_true_eq, or_assoc]
  rw [e]
  simp only [beq_eq_false_iff_ne, ne_eq]
  clear e
  by_cases h1 : 97 ≤ x.toNat
  · by_cases h2 : x.toNat ≤ 122
    · exact .inl ⟨by omega, (.inl (by omega))⟩
    · by_cases hk : k = 0
      · exact .inr ⟨by omega, (.inr (.inr (.inl (by omega))))⟩
      · exact .inr ⟨by omega, (.inr (.inr (.inr (.inr (.inr (.inr (by omega)))))))⟩
  · by_cases h2 : 65 ≤ x.toNat
    · by_cases h3 : x.toNat ≤ 90
      · exact .inl ⟨by omega, (.inr (.inl (by omega)))⟩
      · by_cases h4 : x.toNat = 95
        · exact .inl ⟨by omega, (.inr (.inr (.inl (by omega))))⟩
        · by_cases hk : k = 0
          · exact .inr ⟨by omega, (.inr (.inl (by omega)))⟩
          · exact .inr ⟨by omega, (.inr (.inr (.inr (.inr (.inr (.inl (by omega)))))))⟩
    · by_cases hk : k = 0
      · exact .inr ⟨by omega, (.inl (by omega))⟩
      · by_cases h3 : 48 ≤ x.toNat
        · by_cases h4 : x.toNat ≤ 57
          · exact .inl ⟨by omega, (.inr (.inr (.inr (by omega))))⟩
          · exact .inr ⟨by omega, (.inr (.inr (.inr (.inr (.inl (by omega))))))⟩
        · exact .inr ⟨by omega, (.inr (.inr (.inr (.inl (by omega)))))⟩
set_option maxHeartbeats 1000000 in
theorem isName_any (s : ByteArray) (w : World) (hs : s.size ≤ maxLen) :
    Calls Tryz.prog 71 #[.string s] w fun e w' => Says (NameP (bl s)) e ∧ w = w' := by
  unfold maxLen at hs
  by_cases h0 : s.size = 0
  · have e0 := bytes_nil h0
    go_enter Tryz.func71, Tryz.ntmps71
    go_wp2
    go_ret
    exact ⟨says_no (fun h => by have := bl_len s; have := h.1; have := h.2.1; omega), rfl⟩
  have h1 := bytes_some (show 0 < s.size by omega)
  by_cases h2 : 32 < s.size
  · go_enter Tryz.func71, Tryz.ntmps71
    go_wp2
    go_ret
    exact ⟨says_no (fun h => by have := bl_len s; have := h.1; have := h.2.1; omega), rfl⟩
  go_enter Tryz.func71, Tryz.ntmps71
  go_wp2
  go_loop [3, 4, 5, 15] (fun _ _ _ i => ∃ k : Nat, k ≤ s.size ∧ i = .int .i64 k ∧ Hid (∀ i (h : i < (bl s).length), i < k → nameAt i (bl s)[i])) (fun _ _ _ i => s.size - (intOf i).toNat)
  case atStart => exact ⟨0, by omega, rfl, Lib.hid (fun i h hk => by omega)⟩
  case round =>
    obtain ⟨k, hk, rfl, HK⟩ := hrel
    by_cases hlt : k < s.size
    · have hg := @isv_go s nameAt k HK hlt
      have hx := (s[k]'hlt).toNat_lt
      have hbx : (bl s)[k]'(by rw [bl_len]; exact hlt) = s[k]'hlt := rfl
      have Hno : ¬ nameAt k (s[k]'hlt) → ¬ NameP (bl s) := fun h hv => h (hbx ▸ hv.2.2 k (by rw [bl_len]; exact hlt))
      have HG := Lib.hid hg
      have HN := Lib.hid Hno
      clear hg hbx Hno
      generalize hxx : (s[k]'hlt) = x at hx HG HN
      have hcl := nameAt_class k x
      rcases hcl with ⟨hv, hc⟩ | ⟨hv, hc⟩
      · have HV := HG.out hv
        clear HG HN hv
        rcases hc with ⟨c1, c2⟩ | ⟨c1, c2, c3⟩ | c1 | ⟨⟨c1, c2, c3⟩, ⟨c4, c5⟩, c6, c7⟩
        all_goals
          go_wp2
          go_round
          case rel => exact ⟨k + 1, by omega, by go_num, HV⟩
          case measure => simp [intOf]; omega
      · have HV := Lib.hid (HN.out hv)
        clear HG HN hv
        rcases hc with ⟨rfl, c1, c2, c3⟩ | ⟨rfl, c1, c2, c3, c4⟩ | ⟨rfl, c1, c2, c3, c4, c5⟩ | ⟨⟨c0, c6⟩, ⟨c1, c2, c3⟩, c7⟩ | ⟨⟨c0, c6⟩, ⟨c1, c2, c3⟩, c7, c8⟩ | ⟨⟨c0, c6⟩, ⟨c1, c2, c3, c4⟩, c7, c8⟩ | ⟨⟨c0, c6⟩, ⟨c1, c2, c3, c4, c5⟩, c7, c8⟩
        all_goals
          try have d0 : decide ((x.toNat : Int) ≤ 90) = false := by simp only [decide_eq_false_iff_not]; omega
          try have d0 : decide ((x.toNat : Int) ≤ 90) = true := by simp only [decide_eq_true_eq]; omega
          try have d1 : decide ((x.toNat : Int) ≤ 122) = false := by simp only [decide_eq_false_iff_not]; omega
          try have d1 : decide ((x.toNat : Int) ≤ 122) = true := by simp only [decide_eq_true_eq]; omega
          try have d2 : decide (97 ≤ (x.toNat : Int)) = false := by simp only [decide_eq_false_iff_not]; omega
          try have d2 : decide (97 ≤ (x.toNat : Int)) = true := by simp only [decide_eq_true_eq]; omega
          try have d3 : decide (65 ≤ (x.toNat : Int)) = false := by simp only [decide_eq_false_iff_not]; omega
          try have d3 : decide (65 ≤ (x.toNat : Int)) = true := by simp only [decide_eq_true_eq]; omega
          try have d4 : decide (57 < (x.toNat : Int)) = false := by simp only [decide_eq_false_iff_not]; omega
          try have d4 : decide (57 < (x.toNat : Int)) = true := by simp only [decide_eq_true_eq]; omega
          try have d5 : decide ((x.toNat : Int) < 48) = false := by simp only [decide_eq_false_iff_not]; omega
          try have d5 : decide ((x.toNat : Int) < 48) = true := by simp only [decide_eq_true_eq]; omega
          try have d6 : decide (48 ≤ (x.toNat : Int)) = false := by simp only [decide_eq_false_iff_not]; omega
          try have d6 : decide (48 ≤ (x.toNat : Int)) = true := by simp only [decide_eq_true_eq]; omega
          try have d7 : decide ((x.toNat : Int) ≤ 57) = false := by simp only [decide_eq_false_iff_not]; omega
          try have d7 : decide ((x.toNat : Int) ≤ 57) = true := by simp only [decide_eq_true_eq]; omega
          go_wp2
          go_ret
          exact ⟨says_no HV.out, rfl⟩
    · obtain rfl : k = s.size := by omega
      go_wp2
      go_ret
      have := bl_len s
      exact ⟨says_yes ⟨by omega, by omega, fun i hi => HK.out i hi (by omega)⟩, rfl⟩

set_option maxHeartbeats 1000000 in
theorem refIsName_any (s : ByteArray) (w : World) (hs : s.size ≤ maxLen) :
    Calls Tryz.prog 74 #[.string s] w fun e w' => Says (NameP (bl s)) e ∧ w = w' := by
  unfold maxLen at hs
  go_enter Tryz.func74, Tryz.ntmps74
  go_wp2
  go_loop [3, 4, 5] (fun i _ _ => ∃ k : Nat, k ≤ s.size ∧ i = .int .i64 k ∧ Hid (∀ i (h : i < (bl s).length), i < k → nameAt i (bl s)[i])) (fun i _ _ => s.size - (intOf i).toNat)
  case atStart => exact ⟨0, by omega, rfl, Lib.hid (fun i h hk => by omega)⟩
  case round =>
    obtain ⟨k, hk, rfl, HK⟩ := hrel
    by_cases hlt : k < s.size
    · have hg := @isv_go s nameAt k HK hlt
      have hx := (s[k]'hlt).toNat_lt
      have hbx : (bl s)[k]'(by rw [bl_len]; exact hlt) = s[k]'hlt := rfl
      have Hno : ¬ nameAt k (s[k]'hlt) → ¬ NameP (bl s) := fun h hv => h (hbx ▸ hv.2.2 k (by rw [bl_len]; exact hlt))
      have HG := Lib.hid hg
      have HN := Lib.hid Hno
      clear hg hbx Hno
      generalize hxx : (s[k]'hlt) = x at hx HG HN
      have hcl := nameAt_class k x
      rcases hcl with ⟨hv, hc⟩ | ⟨hv, hc⟩
      · have HV := HG.out hv
        clear HG HN hv
        rcases hc with ⟨c1, c2⟩ | ⟨c1, c2, c3⟩ | c1 | ⟨⟨c1, c2, c3⟩, ⟨c4, c5⟩, c6, c7⟩
        all_goals
          try have d0 : decide ((x.toNat : Int) ≤ 90) = false := by simp only [decide_eq_false_iff_not]; omega
          try have d0 : decide ((x.toNat : Int) ≤ 90) = true := by simp only [decide_eq_true_eq]; omega
          try have d1 : decide ((x.toNat : Int) ≤ 122) = false := by simp only [decide_eq_false_iff_not]; omega
          try have d1 : decide ((x.toNat : Int) ≤ 122) = true := by simp only [decide_eq_true_eq]; omega
          try have d2 : decide (97 ≤ (x.toNat : Int)) = false := by simp only [decide_eq_false_iff_not]; omega
          try have d2 : decide (97 ≤ (x.toNat : Int)) = true := by simp only [decide_eq_true_eq]; omega
          try have d3 : decide (65 ≤ (x.toNat : Int)) = false := by simp only [decide_eq_false_iff_not]; omega
          try have d3 : decide (65 ≤ (x.toNat : Int)) = true := by simp only [decide_eq_true_eq]; omega
          try have d4 : decide (57 < (x.toNat : Int)) = false := by simp only [decide_eq_false_iff_not]; omega
          try have d4 : decide (57 < (x.toNat : Int)) = true := by simp only [decide_eq_true_eq]; omega
          try have d5 : decide ((x.toNat : Int) < 48) = false := by simp only [decide_eq_false_iff_not]; omega
          try have d5 : decide ((x.toNat : Int) < 48) = true := by simp only [decide_eq_true_eq]; omega
          try have d6 : decide (48 ≤ (x.toNat : Int)) = false := by simp only [decide_eq_false_iff_not]; omega
          try have d6 : decide (48 ≤ (x.toNat : Int)) = true := by simp only [decide_eq_true_eq]; omega
          try have d7 : decide ((x.toNat : Int) ≤ 57) = false := by simp only [decide_eq_false_iff_not]; omega
          try have d7 : decide ((x.toNat : Int) ≤ 57) = true := by simp only [decide_eq_true_eq]; omega
          go_wp2
          go_round
          case rel => exact ⟨k + 1, by omega, by go_num, HV⟩
          case measure => simp [intOf]; omega
      · have HV := Lib.hid (HN.out hv)
        clear HG HN hv
        rcases hc with ⟨rfl, c1, c2, c3⟩ | ⟨rfl, c1, c2, c3, c4⟩ | ⟨rfl, c1, c2, c3, c4, c5⟩ | ⟨⟨c0, c6⟩, ⟨c1, c2, c3⟩, c7⟩ | ⟨⟨c0, c6⟩, ⟨c1, c2, c3⟩, c7, c8⟩ | ⟨⟨c0, c6⟩, ⟨c1, c2, c3, c4⟩, c7, c8⟩ | ⟨⟨c0, c6⟩, ⟨c1, c2, c3, c4, c5⟩, c7, c8⟩
        all_goals
          try have d0 : decide ((x.toNat : Int) ≤ 90) = false := by simp only [decide_eq_false_iff_not]; omega
          try have d0 : decide ((x.toNat : Int) ≤ 90) = true := by simp only [decide_eq_true_eq]; omega
          try have d1 : decide ((x.toNat : Int) ≤ 122) = false := by simp only [decide_eq_false_iff_not]; omega
          try have d1 : decide ((x.toNat : Int) ≤ 122) = true := by simp only [decide_eq_true_eq]; omega
          try have d2 : decide (97 ≤ (x.toNat : Int)) = false := by simp only [decide_eq_false_iff_not]; omega
          try have d2 : decide (97 ≤ (x.toNat : Int)) = true := by simp only [decide_eq_true_eq]; omega
          try have d3 : decide (65 ≤ (x.toNat : Int)) = false := by simp only [decide_eq_false_iff_not]; omega
          try have d3 : decide (65 ≤ (x.toNat : Int)) = true := by simp only [decide_eq_true_eq]; omega
          try have d4 : decide (57 < (x.toNat : Int)) = false := by simp only [decide_eq_false_iff_not]; omega
          try have d4 : decide (57 < (x.toNat : Int)) = true := by simp only [decide_eq_true_eq]; omega
          try have d5 : decide ((x.toNat : Int) < 48) = false := by simp only [decide_eq_false_iff_not]; omega
          try have d5 : decide ((x.toNat : Int) < 48) = true := by simp only [decide_eq_true_eq]; omega
          try have d6 : decide (48 ≤ (x.toNat : Int)) = false := by simp only [decide_eq_false_iff_not]; omega
          try have d6 : decide (48 ≤ (x.toNat : Int)) = true := by simp only [decide_eq_true_eq]; omega
          try have d7 : decide ((x.toNat : Int) ≤ 57) = false := by simp only [decide_eq_false_iff_not]; omega
          try have d7 : decide ((x.toNat : Int) ≤ 57) = true := by simp only [decide_eq_true_eq]; omega
          go_wp2
          go_ret
          exact ⟨says_no HV.out, rfl⟩
    · obtain rfl : k = s.size := by omega
      have hl := bl_len s
      by_cases h1 : 1 ≤ s.size
      · by_cases h2 : s.size ≤ 32
        · have hd : decide ((s.size : Int) ≤ 32) = true := by simp only [decide_eq_true_eq]; omega
          go_wp2
          go_ret
          exact ⟨says_yes ⟨by omega, by omega, fun i hi => HK.out i hi (by omega)⟩, rfl⟩
        · have hd : decide ((s.size : Int) ≤ 32) = false := by simp only [decide_eq_false_iff_not]; omega
          go_wp2
          go_ret
          exact ⟨says_no (fun h => by have := h.1; have := h.2.1; omega), rfl⟩
      · go_wp2
        go_ret
        exact ⟨says_no (fun h => by have := h.1; have := h.2.1; omega), rfl⟩
end Go.Proofs.YtplieoalfbpniaaGreat
