/- Which texts are names, and values: label.IsName (53), label.IsValue (54), the document's (42, 43). Slices of labels; whether labels are a set: label.Right (44), the document's (52). A text in quotes: label.Quote (49), the document's (51). Rows that a call makes; the text of labels: label.Text (32), the document's (36). Lists of labels as the program's, as the document's: law05.To (26), From (29); equal lists: Compare (46), Same (28). -/
import Derived.Test.YtbaflgddpciadaaGreatS2
import Derived.Test.YtbaflgddpciadaaGreatDG
import Derived.WalkLawsBesides
import Derived.Test.YtbaflgddpciadaaGreatKtU
import Derived.BigQuiet
import Derived.Deep.QuietTactic
import Derived.Deep.RegionHeld3
import Derived.Deep.DeepFit
import Derived.Deep.CutBlock
import Derived.Deep.DeepCutAuto
import Derived.Test.YtbaflgddpciadaaGreatKtS
set_option linter.unusedVariables false
set_option linter.unusedSimpArgs false
namespace Go.Proofs.YtbaflgddpciadaaGreat
open Go.RowKit Go.Kt Go.Ix
set_option maxRecDepth 100000

/-- a call that says whether P -/
def Says (P : Prop) (e : Ending) : Prop := ∃ b, e = .returned (.bool b) ∧ (b = true ↔ P)
theorem says_yes {P : Prop} (h : P) : Says P (.returned (.bool true)) := ⟨true, rfl, by simp [h]⟩
theorem says_no {P : Prop} (h : ¬ P) : Says P (.returned (.bool false)) := ⟨false, rfl, by simp [h]⟩
theorem isv_go {s : ByteArray} {P : Nat → UInt8 → Prop} {k : Nat} (h : Hid (∀ i (h : i < (bl s).length), i < k → P i (bl s)[i])) (hlt : k < s.size) (hp : P k (s[k]'hlt)) : Hid (∀ i (h : i < (bl s).length), i < k + 1 → P i (bl s)[i]) :=
  Lib.hid fun i hi hk => by
    by_cases e : i = k
    · subst e; exact hp
    · exact h.out i hi (by omega)
theorem bytes_nil {s : ByteArray} (h : s.size = 0) : s.toList.isEmpty = true := by
  rw [ByteArray.toList_eq, List.isEmpty_iff]
  exact List.eq_nil_of_length_eq_zero (by rw [← bl_len s] at h; exact h)
theorem bytes_some {s : ByteArray} (h : 0 < s.size) : s.toList.isEmpty = false := by
  rw [ByteArray.toList_eq]
  have := bl_len s
  unfold bl at this
  cases hl : s.data.toList with
  | nil => rw [hl] at this; simp at this; omega
  | cons _ _ => rfl

set_option maxHeartbeats 400000 in
theorem isValue_any (s : ByteArray) (w : World) (hs : s.size ≤ maxLen) :
    Calls Tryz.prog 147 #[.string s] w fun e w' => Says (ValP (bl s)) e ∧ w = w' := by
  unfold maxLen at hs
  by_cases h0 : s.size = 0
  · have e0 := bytes_nil h0
    go_enter Tryz.func147, Tryz.ntmps147
    go_wp2
    go_ret
    exact ⟨says_no (fun h => by have := bl_len s; have := h.1; have := h.2.1; omega), rfl⟩
  have h1 := bytes_some (show 0 < s.size by omega)
  by_cases h2 : 64 < s.size
  · go_enter Tryz.func147, Tryz.ntmps147
    go_wp2
    go_ret
    exact ⟨says_no (fun h => by have := bl_len s; have := h.1; have := h.2.1; omega), rfl⟩
  go_enter Tryz.func147, Tryz.ntmps147
  go_wp2
  go_loop [3, 13] (fun _ i => ∃ k : Nat, k ≤ s.size ∧ i = .int .i64 k ∧ Hid (∀ i (h : i < (bl s).length), i < k → valAt (bl s)[i])) (fun _ i => s.size - (intOf i).toNat)
  case atStart => exact ⟨0, by omega, rfl, Lib.hid (fun i h hk => by omega)⟩
  case round =>
    obtain ⟨k, hk, rfl, HK⟩ := hrel
    by_cases hlt : k < s.size
    · have hg := @isv_go s (fun _ c => valAt c) k HK hlt
      have hx := (s[k]'hlt).toNat_lt
      have hbx : (bl s)[k]'(by rw [bl_len]; exact hlt) = s[k]'hlt := rfl
      have Hno : ¬ valAt (s[k]'hlt) → ¬ ValP (bl s) := fun h hv => h (hbx ▸ hv.2.2 k (by rw [bl_len]; exact hlt))
      have HG := Lib.hid hg
      have HN := Lib.hid Hno
      clear hg hbx Hno
      generalize hxx : (s[k]'hlt) = x at hx HG HN
      by_cases hv : valAt x
      · have HV := HG.out hv
        unfold valAt at hv
        obtain ⟨v1, v2⟩ := hv
        clear HG HN
        go_wp2
        go_round
        case rel => exact ⟨k + 1, by omega, by go_num, HV⟩
        case measure => simp [intOf]; omega
      · have HV := Lib.hid (HN.out hv)
        unfold valAt at hv
        clear HG HN
        have hv' : ((x.toNat : Int) < 32) ∨ ((x.toNat : Int) ≥ 32 ∧ 126 < (x.toNat : Int)) := by omega
        clear hv
        rcases hv' with hv | ⟨hv1, hv2⟩
        · go_wp2
          go_ret
          exact ⟨says_no HV.out, rfl⟩
        · go_wp2
          go_ret
          exact ⟨says_no HV.out, rfl⟩
    · obtain rfl : k = s.size := by omega
      go_wp2
      go_ret
      have := bl_len s
      exact ⟨says_yes ⟨by omega, by omega, fun i hi => HK.out i hi (by omega)⟩, rfl⟩

set_option maxHeartbeats 400000 in
theorem refIsValue_any (s : ByteArray) (w : World) (hs : s.size ≤ maxLen) :
    Calls Tryz.prog 155 #[.string s] w fun e w' => Says (ValP (bl s)) e ∧ w = w' := by
  unfold maxLen at hs
  go_enter Tryz.func155, Tryz.ntmps155
  go_wp2
  go_loop [3] (fun i => ∃ k : Nat, k ≤ s.size ∧ i = .int .i64 k ∧ Hid (∀ i (h : i < (bl s).length), i < k → valAt (bl s)[i])) (fun i => s.size - (intOf i).toNat)
  case atStart => exact ⟨0, by omega, rfl, Lib.hid (fun i h hk => by omega)⟩
  case round =>
    obtain ⟨k, hk, rfl, HK⟩ := hrel
    by_cases hlt : k < s.size
    · have hg := @isv_go s (fun _ c => valAt c) k HK hlt
      have hx := (s[k]'hlt).toNat_lt
      have hbx : (bl s)[k]'(by rw [bl_len]; exact hlt) = s[k]'hlt := rfl
      have Hno : ¬ valAt (s[k]'hlt) → ¬ ValP (bl s) := fun h hv => h (hbx ▸ hv.2.2 k (by rw [bl_len]; exact hlt))
      have HG := Lib.hid hg
      have HN := Lib.hid Hno
      clear hg hbx Hno
      generalize hxx : (s[k]'hlt) = x at hx HG HN
      by_cases hv : valAt x
      · have HV := HG.out hv
        unfold valAt at hv
        obtain ⟨v1, v2⟩ := hv
        clear HG HN
        go_wp2
        go_round
        case rel => exact ⟨k + 1, by omega, by go_num, HV⟩
        case measure => simp [intOf]; omega
      · have HV := Lib.hid (HN.out hv)
        unfold valAt at hv
        clear HG HN
        have hv' : ((x.toNat : Int) < 32) ∨ ((x.toNat : Int) ≥ 32 ∧ 126 < (x.toNat : Int)) := by omega
        clear hv
        rcases hv' with hv | ⟨hv1, hv2⟩
        · go_wp2
          go_ret
          exact ⟨says_no HV.out, rfl⟩
        · go_wp2
          go_ret
          exact ⟨says_no HV.out, rfl⟩
    · obtain rfl : k = s.size := by omega
      have hl := bl_len s
      by_cases h1 : 1 ≤ s.size
      · by_cases h2 : s.size ≤ 64
        · have hd : decide ((s.size : Int) ≤ 64) = true := by simp only [decide_eq_true_eq]; omega
          go_wp2
          go_ret
          exact ⟨says_yes ⟨by omega, by omega, fun i hi => HK.out i hi (by omega)⟩, rfl⟩
        · have hd : decide ((s.size : Int) ≤ 64) = false := by simp only [decide_eq_false_iff_not]; omega
          go_wp2
          go_ret
          exact ⟨says_no (fun h => by have := h.1; have := h.2.1; omega), rfl⟩
      · go_wp2
        go_ret
        exact ⟨says_no (fun h => by have := h.1; have := h.2.1; omega), rfl⟩

theorem nameAt_class (k : Nat) (x : UInt8) : (nameAt k x ∧ ((97 ≤ (x.toNat : Int) ∧ (x.toNat : Int) ≤ 122) ∨ ((x.toNat : Int) < 97 ∧ 65 ≤ (x.toNat : Int) ∧ (x.toNat : Int) ≤ 90) ∨ ((x.toNat : Int) = 95) ∨ (((x.toNat : Int) < 97 ∧ (x.toNat : Int) < 65 ∧ ((x.toNat : Int) == 95) = false) ∧ (((k : Int) == 0) = false ∧ 0 < (k : Int)) ∧ 48 ≤ (x.toNat : Int) ∧ (x.toNat : Int) ≤ 57))) ∨
    (¬ nameAt k x ∧ ((k = 0 ∧ (x.toNat : Int) < 97 ∧ (x.toNat : Int) < 65 ∧ ((x.toNat : Int) == 95) = false) ∨ (k = 0 ∧ (x.toNat : Int) < 97 ∧ 65 ≤ (x.toNat : Int) ∧ 90 < (x.toNat : Int) ∧ ((x.toNat : Int) == 95) = false) ∨ (k = 0 ∧ 97 ≤ (x.toNat : Int) ∧ 122 < (x.toNat : Int) ∧ 65 ≤ (x.toNat : Int) ∧ 90 < (x.toNat : Int) ∧ ((x.toNat : Int) == 95) = false) ∨ ((((k : Int) == 0) = false ∧ 0 < (k : Int)) ∧ ((x.toNat : Int) < 97 ∧ (x.toNat : Int) < 65 ∧ ((x.toNat : Int) == 95) = false) ∧ (x.toNat : Int) < 48) ∨ ((((k : Int) == 0) = false ∧ 0 < (k : Int)) ∧ ((x.toNat : Int) < 97 ∧ (x.toNat : Int) < 65 ∧ ((x.toNat : Int) == 95) = false) ∧ 48 ≤ (x.toNat : Int) ∧ 57 < (x.toNat : Int)) ∨ ((((k : Int) == 0) = false ∧ 0 < (k : Int)) ∧ ((x.toNat : Int) < 97 ∧ 65 ≤ (x.toNat : Int) ∧ 90 < (x.toNat : Int) ∧ ((x.toNat : Int) == 95) = false) ∧ 48 ≤ (x.toNat : Int) ∧ 57 < (x.toNat : Int)) ∨ ((((k : Int) == 0) = false ∧ 0 < (k : Int)) ∧ (97 ≤ (x.toNat : Int) ∧ 122 < (x.toNat : Int) ∧ 65 ≤ (x.toNat : Int) ∧ 90 < (x.toNat : Int) ∧ ((x.toNat : Int) == 95) = false) ∧ 48 ≤ (x.toNat : Int) ∧ 57 < (x.toNat : Int)))) := by
  have e : nameAt k x ↔ ((97 ≤ x.toNat ∧ x.toNat ≤ 122) ∨ (65 ≤ x.toNat ∧ x.toNat ≤ 90) ∨ x.toNat = 95) ∨ (0 < k ∧ 48 ≤ x.toNat ∧ x.toNat ≤ 57) := by
    unfold nameAt letter digit
    simp only [Bool.or_eq_true, Bool.and_eq_true, decide_eq_true_eq, or_assoc]
  rw [e]
  simp only [beq_eq_false_iff_ne, ne_eq]
  clear e
  by_cases h1 : 97 ≤ x.toNat
  · by_cases h2 : x.toNat ≤ 122
    · exact .inl ⟨by omega, (.inl (by omega))⟩
    · by_cases hk : k = 0
      · exact .inr ⟨by omega, (.inr (.inr (.inl (by omega))))⟩
      · exact .inr ⟨by omega, (.inr (.inr (.inr (.inr (.inr (.inr (by omega)))))))⟩
  · by_cases h2 : 65 ≤ x.toNat
    · by_cases h3 : x.toNat ≤ 90
      · exact .inl ⟨by omega, (.inr (.inl (by omega)))⟩
      · by_cases h4 : x.toNat = 95
        · exact .inl ⟨by omega, (.inr (.inr (.inl (by omega))))⟩
        · by_cases hk : k = 0
          · exact .inr ⟨by omega, (.inr (.inl (by omega)))⟩
          · exact .inr ⟨by omega, (.inr (.inr (.inr (.inr (.inr (.inl (by omega)))))))⟩
    · by_cases hk : k = 0
      · exact .inr ⟨by omega, (.inl (by omega))⟩
      · by_cases h3 : 48 ≤ x.toNat
        · by_cases h4 : x.toNat ≤ 57
          · exact .inl ⟨by omega, (.inr (.inr (.inr (by omega))))⟩
          · exact .inr ⟨by omega, (.inr (.inr (.inr (.inr (.inl (by omega))))))⟩
        · exact .inr ⟨by omega, (.inr (.inr (.inr (.inl (by omega)))))⟩
set_option maxHeartbeats 1000000 in
theorem isName_any (s : ByteArray) (w : World) (hs : s.size ≤ maxLen) :
    Calls Tryz.prog 146 #[.string s] w fun e w' => Says (NameP (bl s)) e ∧ w = w' := by
  unfold maxLen at hs
  by_cases h0 : s.size = 0
  · have e0 := bytes_nil h0
    go_enter Tryz.func146, Tryz.ntmps146
    go_wp2
    go_ret
    exact ⟨says_no (fun h => by have := bl_len s; have := h.1; have := h.2.1; omega), rfl⟩
  have h1 := bytes_some (show 0 < s.size by omega)
  by_cases h2 : 32 < s.size
  · go_enter Tryz.func146, Tryz.ntmps146
    go_wp2
    go_ret
    exact ⟨says_no (fun h => by have := bl_len s; have := h.1; have := h.2.1; omega), rfl⟩
  go_enter Tryz.func146, Tryz.ntmps146
  go_wp2
  go_loop [3, 4, 5, 15] (fun _ _ _ i => ∃ k : Nat, k ≤ s.size ∧ i = .int .i64 k ∧ Hid (∀ i (h : i < (bl s).length), i < k → nameAt i (bl s)[i])) (fun _ _ _ i => s.size - (intOf i).toNat)
  case atStart => exact ⟨0, by omega, rfl, Lib.hid (fun i h hk => by omega)⟩
  case round =>
    obtain ⟨k, hk, rfl, HK⟩ := hrel
    by_cases hlt : k < s.size
    · have hg := @isv_go s nameAt k HK hlt
      have hx := (s[k]'hlt).toNat_lt
      have hbx : (bl s)[k]'(by rw [bl_len]; exact hlt) = s[k]'hlt := rfl
      have Hno : ¬ nameAt k (s[k]'hlt) → ¬ NameP (bl s) := fun h hv => h (hbx ▸ hv.2.2 k (by rw [bl_len]; exact hlt))
      have HG := Lib.hid hg
      have HN := Lib.hid Hno
      clear hg hbx Hno
      generalize hxx : (s[k]'hlt) = x at hx HG HN
      have hcl := nameAt_class k x
      rcases hcl with ⟨hv, hc⟩ | ⟨hv, hc⟩
      · have HV := HG.out hv
        clear HG HN hv
        rcases hc with ⟨c1, c2⟩ | ⟨c1, c2, c3⟩ | c1 | ⟨⟨c1, c2, c3⟩, ⟨c4, c5⟩, c6, c7⟩
        all_goals
          go_wp2
          go_round
          case rel => exact ⟨k + 1, by omega, by go_num, HV⟩
          case measure => simp [intOf]; omega
      · have HV := Lib.hid (HN.out hv)
        clear HG HN hv
        rcases hc with ⟨rfl, c1, c2, c3⟩ | ⟨rfl, c1, c2, c3, c4⟩ | ⟨rfl, c1, c2, c3, c4, c5⟩ | ⟨⟨c0, c6⟩, ⟨c1, c2, c3⟩, c7⟩ | ⟨⟨c0, c6⟩, ⟨c1, c2, c3⟩, c7, c8⟩ | ⟨⟨c0, c6⟩, ⟨c1, c2, c3, c4⟩, c7, c8⟩ | ⟨⟨c0, c6⟩, ⟨c1, c2, c3, c4, c5⟩, c7, c8⟩
        all_goals
          try have d0 : decide ((x.toNat : Int) ≤ 90) = false := by simp only [decide_eq_false_iff_not]; omega
          try have d0 : decide ((x.toNat : Int) ≤ 90) = true := by simp only [decide_eq_true_eq]; omega
          try have d1 : decide ((x.toNat : Int) ≤ 122) = false := by simp only [decide_eq_false_iff_not]; omega
          try have d1 : decide ((x.toNat : Int) ≤ 122) = true := by simp only [decide_eq_true_eq]; omega
          try have d2 : decide (97 ≤ (x.toNat : Int)) = false := by simp only [decide_eq_false_iff_not]; omega
          try have d2 : decide (97 ≤ (x.toNat : Int)) = true := by simp only [decide_eq_true_eq]; omega
          try have d3 : decide (65 ≤ (x.toNat : Int)) = false := by simp only [decide_eq_false_iff_not]; omega
          try have d3 : decide (65 ≤ (x.toNat : Int)) = true := by simp only [decide_eq_true_eq]; omega
          try have d4 : decide (57 < (x.toNat : Int)) = false := by simp only [decide_eq_false_iff_not]; omega
          try have d4 : decide (57 < (x.toNat : Int)) = true := by simp only [decide_eq_true_eq]; omega
          try have d5 : decide ((x.toNat : Int) < 48) = false := by simp only [decide_eq_false_iff_not]; omega
          try have d5 : decide ((x.toNat : Int) < 48) = true := by simp only [decide_eq_true_eq]; omega
          try have d6 : decide (48 ≤ (x.toNat : Int)) = false := by simp only [decide_eq_false_iff_not]; omega
          try have d6 : decide (48 ≤ (x.toNat : Int)) = true := by simp only [decide_eq_true_eq]; omega
          try have d7 : decide ((x.toNat : Int) ≤ 57) = false := by simp only [decide_eq_false_iff_not]; omega
          try have d7 : decide ((x.toNat : Int) ≤ 57) = true := by simp only [decide_eq_true_eq]; omega
          go_wp2
          go_ret
          exact ⟨says_no HV.out, rfl⟩
    · obtain rfl : k = s.size := by omega
      go_wp2
      go_ret
      have := bl_len s
      exact ⟨says_yes ⟨by omega, by omega, fun i hi => HK.out i hi (by omega)⟩, rfl⟩

set_option maxHeartbeats 1000000 in
theorem refIsName_any (s : ByteArray) (w : World) (hs : s.size ≤ maxLen) :
    Calls Tryz.prog 154 #[.string s] w fun e w' => Says (NameP (bl s)) e ∧ w = w' := by
  unfold maxLen at hs
  go_enter Tryz.func154, Tryz.ntmps154
  go_wp2
  go_loop [3, 4, 5] (fun i _ _ => ∃ k : Nat, k ≤ s.size ∧ i = .int .i64 k ∧ Hid (∀ i (h : i < (bl s).length), i < k → nameAt i (bl s)[i])) (fun i _ _ => s.size - (intOf i).toNat)
  case atStart => exact ⟨0, by omega, rfl, Lib.hid (fun i h hk => by omega)⟩
  case round =>
    obtain ⟨k, hk, rfl, HK⟩ := hrel
    by_cases hlt : k < s.size
    · have hg := @isv_go s nameAt k HK hlt
      have hx := (s[k]'hlt).toNat_lt
      have hbx : (bl s)[k]'(by rw [bl_len]; exact hlt) = s[k]'hlt := rfl
      have Hno : ¬ nameAt k (s[k]'hlt) → ¬ NameP (bl s) := fun h hv => h (hbx ▸ hv.2.2 k (by rw [bl_len]; exact hlt))
      have HG := Lib.hid hg
      have HN := Lib.hid Hno
      clear hg hbx Hno
      generalize hxx : (s[k]'hlt) = x at hx HG HN
      have hcl := nameAt_class k x
      rcases hcl with ⟨hv, hc⟩ | ⟨hv, hc⟩
      · have HV := HG.out hv
        clear HG HN hv
        rcases hc with ⟨c1, c2⟩ | ⟨c1, c2, c3⟩ | c1 | ⟨⟨c1, c2, c3⟩, ⟨c4, c5⟩, c6, c7⟩
        all_goals
          try have d0 : decide ((x.toNat : Int) ≤ 90) = false := by simp only [decide_eq_false_iff_not]; omega
          try have d0 : decide ((x.toNat : Int) ≤ 90) = true := by simp only [decide_eq_true_eq]; omega
          try have d1 : decide ((x.toNat : Int) ≤ 122) = false := by simp only [decide_eq_false_iff_not]; omega
          try have d1 : decide ((x.toNat : Int) ≤ 122) = true := by simp only [decide_eq_true_eq]; omega
          try have d2 : decide (97 ≤ (x.toNat : Int)) = false := by simp only [decide_eq_false_iff_not]; omega
          try have d2 : decide (97 ≤ (x.toNat : Int)) = true := by simp only [decide_eq_true_eq]; omega
          try have d3 : decide (65 ≤ (x.toNat : Int)) = false := by simp only [decide_eq_false_iff_not]; omega
          try have d3 : decide (65 ≤ (x.toNat : Int)) = true := by simp only [decide_eq_true_eq]; omega
          try have d4 : decide (57 < (x.toNat : Int)) = false := by simp only [decide_eq_false_iff_not]; omega
          try have d4 : decide (57 < (x.toNat : Int)) = true := by simp only [decide_eq_true_eq]; omega
          try have d5 : decide ((x.toNat : Int) < 48) = false := by simp only [decide_eq_false_iff_not]; omega
          try have d5 : decide ((x.toNat : Int) < 48) = true := by simp only [decide_eq_true_eq]; omega
          try have d6 : decide (48 ≤ (x.toNat : Int)) = false := by simp only [decide_eq_false_iff_not]; omega
          try have d6 : decide (48 ≤ (x.toNat : Int)) = true := by simp only [decide_eq_true_eq]; omega
          try have d7 : decide ((x.toNat : Int) ≤ 57) = false := by simp only [decide_eq_false_iff_not]; omega
          try have d7 : decide ((x.toNat : Int) ≤ 57) = true := by simp only [decide_eq_true_eq]; omega
          go_wp2
          go_round
          case rel => exact ⟨k + 1, by omega, by go_num, HV⟩
          case measure => simp [intOf]; omega
      · have HV := Lib.hid (HN.out hv)
        clear HG HN hv
        rcases hc with ⟨rfl, c1, c2, c3⟩ | ⟨rfl, c1, c2, c3, c4⟩ | ⟨rfl, c1, c2, c3, c4, c5⟩ | ⟨⟨c0, c6⟩, ⟨c1, c2, c3⟩, c7⟩ | ⟨⟨c0, c6⟩, ⟨c1, c2, c3⟩, c7, c8⟩ | ⟨⟨c0, c6⟩, ⟨c1, c2, c3, c4⟩, c7, c8⟩ | ⟨⟨c0, c6⟩, ⟨c1, c2, c3, c4, c5⟩, c7, c8⟩
        all_goals
          try have d0 : decide ((x.toNat : Int) ≤ 90) = false := by simp only [decide_eq_false_iff_not]; omega
          try have d0 : decide ((x.toNat : Int) ≤ 90) = true := by simp only [decide_eq_true_eq]; omega
          try have d1 : decide ((x.toNat : Int) ≤ 122) = false := by simp only [decide_eq_false_iff_not]; omega
          try have d1 : decide ((x.toNat : Int) ≤ 122) = true := by simp only [decide_eq_true_eq]; omega
          try have d2 : decide (97 ≤ (x.toNat : Int)) = false := by simp only [decide_eq_false_iff_not]; omega
          try have d2 : decide (97 ≤ (x.toNat : Int)) = true := by simp only [decide_eq_true_eq]; omega
          try have d3 : decide (65 ≤ (x.toNat : Int)) = false := by simp only [decide_eq_false_iff_not]; omega
          try have d3 : decide (65 ≤ (x.toNat : Int)) = true := by simp only [decide_eq_true_eq]; omega
          try have d4 : decide (57 < (x.toNat : Int)) = false := by simp only [decide_eq_false_iff_not]; omega
          try have d4 : decide (57 < (x.toNat : Int)) = true := by simp only [decide_eq_true_eq]; omega
          try have d5 : decide ((x.toNat : Int) < 48) = false := by simp only [decide_eq_false_iff_not]; omega
          try have d5 : decide ((x.toNat : Int) < 48) = true := by simp only [decide_eq_true_eq]; omega
          try have d6 : decide (48 ≤ (x.toNat : Int)) = false := by simp only [decide_eq_false_iff_not]; omega
          try have d6 : decide (48 ≤ (x.toNat : Int)) = true := by simp only [decide_eq_true_eq]; omega
          try have d7 : decide ((x.toNat : Int) ≤ 57) = false := by simp only [decide_eq_false_iff_not]; omega
          try have d7 : decide ((x.toNat : Int) ≤ 57) = true := by simp only [decide_eq_true_eq]; omega
          go_wp2
          go_ret
          exact ⟨says_no HV.out, rfl⟩
    · obtain rfl : k = s.size := by omega
      have hl := bl_len s
      by_cases h1 : 1 ≤ s.size
      · by_cases h2 : s.size ≤ 32
        · have hd : decide ((s.size : Int) ≤ 32) = true := by simp only [decide_eq_true_eq]; omega
          go_wp2
          go_ret
          exact ⟨says_yes ⟨by omega, by omega, fun i hi => HK.out i hi (by omega)⟩, rfl⟩
        · have hd : decide ((s.size : Int) ≤ 32) = false := by simp only [decide_eq_false_iff_not]; omega
          go_wp2
          go_ret
          exact ⟨says_no (fun h => by have := h.1; have := h.2.1; omega), rfl⟩
      · go_wp2
        go_ret
        exact ⟨says_no (fun h => by have := h.1; have := h.2.1; omega), rfl⟩
end Go.Proofs.YtbaflgddpciadaaGreat
namespace Go.Proofs.YtbaflgddpciadaaGreat
open Go.RowKit Go.Kt Go.Ix
set_option maxRecDepth 100000

theorem ok75 : ElemOk Tryz.prog 85 104 (.agg #[.string ⟨#[]⟩, .string ⟨#[]⟩]) 2 32 := ⟨Tryz.underlying85, info_parts (by kernel_rfl), rfl, by decide⟩
theorem ok112 : ElemOk Tryz.prog 143 219 (.agg #[.string ⟨#[]⟩, .string ⟨#[]⟩]) 2 32 := ⟨Tryz.underlying143, info_parts (by kernel_rfl), rfl, by decide⟩

def flatP : List Pr → List Value
  | [] => []
  | p :: t => .string p.n :: .string p.v :: flatP t
theorem flatP_append (T S : List Pr) : flatP (T ++ S) = flatP T ++ flatP S := by
  induction T with
  | nil => rfl
  | cons x t ih => simp only [List.cons_append, flatP, ih]
theorem flatP_get (T : List Pr) : ∀ (i : Nat) (x : Pr), T[i]? = some x → (flatP T)[i * 2]? = some (.string x.n) ∧ (flatP T)[i * 2 + 1]? = some (.string x.v) := by
  induction T with
  | nil => intro i x h; simp at h
  | cons y t ih =>
    intro i x h
    match i with
    | 0 => simp at h; subst h; exact ⟨rfl, rfl⟩
    | i + 1 =>
      simp only [List.getElem?_cons_succ] at h
      have := ih i x h
      rw [show (i + 1) * 2 = i * 2 + 1 + 1 by omega]
      exact this
theorem flatP_one (T : List Pr) : ∀ u ∈ flatP T, u.oneCell' = true := by
  induction T with
  | nil => intro u hu; simp [flatP] at hu
  | cons y t ih =>
    intro u hu
    simp only [flatP, List.mem_cons] at hu
    rcases hu with rfl | rfl | hu
    · rfl
    · rfl
    · exact ih u hu
theorem flatP_take (T : List Pr) (k : Nat) (x : Pr) (h : T[k]? = some x) : flatP (T.take (k + 1)) = flatP (T.take k) ++ [.string x.n, .string x.v] := by
  obtain ⟨hk, rfl⟩ := List.getElem?_eq_some_iff.1 h
  rw [List.take_succ_eq_append_getElem hk, flatP_append]; rfl

def RdP (w : World) (v : Value) (l : List Pr) : Prop := RdRow 2 w v l.length (flatP l)
def OwnP (e : TypeId) (w : World) (v : Value) (l : List Pr) : Prop := Own e 2 w v l.length (flatP l)
/-- the texts are no longer than texts can be -/
def Fit (l : List Pr) : Prop := ∀ p ∈ l, p.n.size ≤ maxLen ∧ p.v.size ≤ maxLen
theorem RdP.below {w w' : World} {v : Value} {l : List Pr} (h : RdP w v l) (hb : Below w.heap.size w w') : RdP w' v l := RdRow.below h hb
theorem OwnP.rd {e : TypeId} {w : World} {v : Value} {l : List Pr} (h : OwnP e w v l) : RdP w v l := Own.rd h
theorem OwnP.below {e : TypeId} {w w' : World} {v : Value} {l : List Pr} (h : OwnP e w v l) (hb : Below w.heap.size w w') : OwnP e w' v l := Own.below' h hb
theorem RdP.open {w : World} {v : Value} {l : List Pr} (h : RdP w v l) : ∃ a cap, v = .slice a l.length cap ∧ l.length ≤ cap ∧ cap ≤ 9223372036854775807 ∧
    ∀ (i : Nat) (x : Pr), l[i]? = some x → ∃ b o, a = some ⟨b, o, none⟩ ∧ w.cell? ⟨b, o + i * 2, none⟩ = some (.string x.n) ∧ w.cell? ⟨b, o + i * 2 + 1, none⟩ = some (.string x.v) := by
  obtain ⟨_, a, cap, rfl, h1, h2, _, h5⟩ := h
  refine ⟨a, cap, rfl, h1, h2, fun i x hi => ?_⟩
  obtain ⟨c1, c2⟩ := flatP_get l i x hi
  obtain ⟨b, o, rfl, hc⟩ := h5 _ _ c1
  obtain ⟨b', o', e, hc'⟩ := h5 _ _ c2
  cases e
  exact ⟨b, o, rfl, hc, by rw [Nat.add_assoc]; exact hc'⟩

open Classical in
/-- whether P -/
noncomputable def pb (P : Prop) : Bool := decide P
theorem pb_yes {P : Prop} (h : P) : pb P = true := by simp [pb, h]
theorem pb_no {P : Prop} (h : ¬ P) : pb P = false := by simp [pb, h]
theorem of_pb {P : Prop} (h : pb P = true) : P := by simpa [pb] using h
theorem of_not_pb {P : Prop} (h : pb P = false) : ¬ P := by simpa [pb] using h
theorem says_pb {P : Prop} {e : Ending} (h : Says P e) : e = .returned (.bool (pb P)) := by
  obtain ⟨b, rfl, hb⟩ := h
  cases b with
  | true => rw [pb_yes (hb.1 rfl)]
  | false => rw [pb_no (fun h => by cases hb.2 h)]
theorem name_quiet (s : ByteArray) (hs : s.size ≤ maxLen) (W : World) : Calls Tryz.prog 146 #[.string s] W fun e w' => e = .returned (.bool (pb (NameP (bl s)))) ∧ w' = W := (isName_any s W hs).mono fun _ _ h => ⟨says_pb h.1, h.2.symm⟩
theorem value_quiet (s : ByteArray) (hs : s.size ≤ maxLen) (W : World) : Calls Tryz.prog 147 #[.string s] W fun e w' => e = .returned (.bool (pb (ValP (bl s)))) ∧ w' = W := (isValue_any s W hs).mono fun _ _ h => ⟨says_pb h.1, h.2.symm⟩
theorem refname_quiet (s : ByteArray) (hs : s.size ≤ maxLen) (W : World) : Calls Tryz.prog 154 #[.string s] W fun e w' => e = .returned (.bool (pb (NameP (bl s)))) ∧ w' = W := (refIsName_any s W hs).mono fun _ _ h => ⟨says_pb h.1, h.2.symm⟩
theorem refvalue_quiet (s : ByteArray) (hs : s.size ≤ maxLen) (W : World) : Calls Tryz.prog 155 #[.string s] W fun e w' => e = .returned (.bool (pb (ValP (bl s)))) ∧ w' = W := (refIsValue_any s W hs).mono fun _ _ h => ⟨says_pb h.1, h.2.symm⟩

/-- the first k labels are as a set's -/
def RightTo (l : List Pr) (k : Nat) : Prop := ∀ i (h : i < l.length), i < k → PairP l[i] ∧ ∀ j (hj : j < l.length), i = j + 1 → Less l[j].n l[i].n
theorem rightTo_next {l : List Pr} {k : Nat} (h : RightTo l k) {p : Pr} (hp : l[k]? = some p) (h1 : PairP p) (h2 : ∀ q, 0 < k → l[k - 1]? = some q → Less q.n p.n) : RightTo l (k + 1) := by
  intro i hi hk
  by_cases e : i = k
  · subst e
    have e1 : l[i] = p := by rw [List.getElem?_eq_getElem hi] at hp; exact Option.some.inj hp
    rw [e1]
    refine ⟨h1, fun j hj e2 => h2 _ (by omega) ?_⟩
    subst e2
    rw [Nat.add_sub_cancel]
    exact List.getElem?_eq_getElem hj
  · exact h i hi (by omega)
theorem right_not {l : List Pr} {k : Nat} {p : Pr} (hp : l[k]? = some p) (h : ¬ PairP p ∨ ∃ q, 0 < k ∧ l[k - 1]? = some q ∧ ¬ Less q.n p.n) : ¬ RightP l := by
  intro hr
  obtain ⟨hi, e⟩ := List.getElem?_eq_some_iff.1 hp
  obtain ⟨h1, h2⟩ := hr.2 k hi
  rcases h with h | ⟨q, h0, hq, h⟩
  · exact h (e ▸ h1)
  · obtain ⟨hj, e2⟩ := List.getElem?_eq_some_iff.1 hq
    have := h2 (k - 1) hj (by omega)
    rw [e, e2] at this
    exact h this
theorem not_pair1 {p : Pr} (h : ¬ NameP (bl p.n)) : ¬ PairP p := fun h1 => h h1.1
theorem not_pair2 {p : Pr} (h : ¬ ValP (bl p.v)) : ¬ PairP p := fun h1 => h h1.2

set_option maxHeartbeats 1000000 in
theorem right_any (v : Value) (l : List Pr) (w : World) (hv : RdP w v l) (hf : Fit l) :
    Calls Tryz.prog 159 #[v] w fun e w' => Says (RightP l) e ∧ Below w.heap.size w w' := by
  obtain ⟨a, cap, rfl, hcap, hbig, hcell⟩ := hv.open
  have Hcell := Lib.hid hcell
  have Hf := Lib.hid hf
  clear hcell hv hf
  by_cases h16 : 16 < l.length
  · go_enter Tryz.func159, Tryz.ntmps159
    go_wp2_with fail
    go_ret
    exact ⟨says_no (fun h => by have := h.1; omega), bel_refl w⟩
  go_enter Tryz.func159, Tryz.ntmps159
  go_wp2_with fail
  go_loopw [3, 4, 10] (fun _ _ i wr => ∃ k : Nat, k ≤ l.length ∧ i = .int .i64 k ∧ Hid (RightTo l k) ∧ Hid (Below w.heap.size w wr)) (fun _ _ i _ => l.length - (intOf i).toNat)
  case atStart => exact ⟨0, by omega, rfl, Lib.hid (fun i hi hk => by omega), Lib.hid (bel_refl w)⟩
  case round =>
    obtain ⟨k, hk, rfl, HR, Hb⟩ := hrel
    by_cases hlt : k < l.length
    · obtain ⟨p, hp⟩ : ∃ x, l[k]? = some x := ⟨l[k], List.getElem?_eq_getElem hlt⟩
      obtain ⟨b, o, rfl, c1, c2⟩ := Hcell.out k p hp
      have hpf := Hf.out p (List.mem_of_getElem? hp)
      have lb := World.block_lt_of_cell? w _ c1
      have c1' : wr.cell? ⟨b, o + k * 2, none⟩ = some (.string p.n) := (Hb.out.cell (p := ⟨b, o + k * 2, none⟩) lb).trans c1
      have c2' : wr.cell? ⟨b, o + k * 2 + 1, none⟩ = some (.string p.v) := (Hb.out.cell (p := ⟨b, o + k * 2 + 1, none⟩) lb).trans c2
      have hbb : b < wr.heap.size := Nat.lt_of_lt_of_le lb Hb.out.size
      have HN := Lib.hid (fun W => name_quiet p.n hpf.1 W)
      have HV := Lib.hid (fun W => value_quiet p.v hpf.2 W)
      have HP := Lib.hid hp
      clear c1 c2 hp hpf lb
      cases hn : pb (NameP (bl p.n)) with
      | false =>
        have HX := Lib.hid (right_not HP.out (.inl (not_pair1 (of_not_pb hn))))
        rw [hn] at HN
        clear hn
        go_wp2_with fail
        go_quiet (first | (go_at_call 146; exact Calls.quiet_of_same (HN.out _)) | (go_at_call 147; exact Calls.quiet_of_same (HV.out _)))
        go_wp2_with fail
        go_ret
        exact ⟨says_no HX.out, bel_drewN (bel_alloc Hb.out) _⟩
      | true =>
        cases hv : pb (ValP (bl p.v)) with
        | false =>
          have HX := Lib.hid (right_not HP.out (.inl (not_pair2 (of_not_pb hv))))
          rw [hn] at HN
          rw [hv] at HV
          clear hn hv
          go_wp2_with fail
          go_quiet (first | (go_at_call 146; exact Calls.quiet_of_same (HN.out _)) | (go_at_call 147; exact Calls.quiet_of_same (HV.out _)))
          go_wp2_with fail
          go_ret
          exact ⟨says_no HX.out, bel_drewN (bel_alloc Hb.out) _⟩
        | true =>
          have HPP := Lib.hid (show PairP p from ⟨of_pb hn, of_pb hv⟩)
          rw [hn] at HN
          rw [hv] at HV
          clear hn hv
          by_cases hk0 : k = 0
          · have HR' := Lib.hid (rightTo_next HR.out HP.out HPP.out (fun q h => by omega))
            have Hk0 := Lib.hid hk0
            have d0 : decide (0 < (k : Int)) = false := by simp only [decide_eq_false_iff_not]; omega
            have d1 : decide (0 < k) = false := by simp only [decide_eq_false_iff_not]; omega
            clear hk0
            go_wp2_with fail
            go_quiet (first | (go_at_call 146; exact Calls.quiet_of_same (HN.out _)) | (go_at_call 147; exact Calls.quiet_of_same (HV.out _)))
            go_wp2_with fail
            go_roundw
            case rel => exact ⟨k + 1, by omega, by go_num, HR', Lib.hid (bel_drewN (bel_alloc Hb.out) _)⟩
            case measure => simp [intOf]; omega
          · obtain ⟨j, rfl⟩ : ∃ j, k = j + 1 := ⟨k - 1, by omega⟩
            obtain ⟨q, hq⟩ : ∃ x, l[j]? = some x := ⟨l[j], List.getElem?_eq_getElem (by omega)⟩
            obtain ⟨b', o', e, c3, _⟩ := Hcell.out j q hq
            cases e
            have lb := World.block_lt_of_cell? w _ c3
            have c3' : wr.cell? ⟨b, o + j * 2, none⟩ = some (.string q.n) := (Hb.out.cell (p := ⟨b, o + j * 2, none⟩) lb).trans c3
            clear c3 lb
            have HQ := Lib.hid hq
            clear hq
            have hj1 : (0 : Int) ≤ (j : Int) := by omega
            have hj2 : (j : Int) < (l.length : Int) := by omega
            cases hless : Op.bytesLess q.n.toList p.n.toList with
            | true =>
              have HR' := Lib.hid (rightTo_next HR.out HP.out HPP.out (fun q' _ h => by
                rw [Nat.add_sub_cancel, HQ.out] at h
                cases h
                exact hless))
              go_wp2_with fail
              go_quiet (first | (go_at_call 146; exact Calls.quiet_of_same (HN.out _)) | (go_at_call 147; exact Calls.quiet_of_same (HV.out _)))
              go_wp2_with fail
              go_roundw
              case rel => exact ⟨j + 1 + 1, by omega, by go_num, HR', Lib.hid (bel_drewN (bel_alloc Hb.out) _)⟩
              case measure => simp [intOf]; omega
            | false =>
              have HX := Lib.hid (right_not HP.out (.inr ⟨q, by omega, by rw [Nat.add_sub_cancel]; exact HQ.out, by unfold Less; rw [hless]; simp⟩))
              go_wp2_with fail
              go_quiet (first | (go_at_call 146; exact Calls.quiet_of_same (HN.out _)) | (go_at_call 147; exact Calls.quiet_of_same (HV.out _)))
              go_wp2_with fail
              go_ret
              exact ⟨says_no HX.out, bel_drewN (bel_alloc Hb.out) _⟩
    · obtain rfl : k = l.length := by omega
      go_wp2_with fail
      go_ret
      exact ⟨says_yes ⟨by omega, fun i hi => HR.out i hi hi⟩, Hb.out⟩

set_option maxHeartbeats 1000000 in
theorem refright_any (v : Value) (l : List Pr) (w : World) (hv : RdP w v l) (hf : Fit l) :
    Calls Tryz.prog 164 #[v] w fun e w' => Says (RightP l) e ∧ ∃ t, w' = w.drewN t := by
  obtain ⟨a, cap, rfl, hcap, hbig, hcell⟩ := hv.open
  have Hcell := Lib.hid hcell
  have Hf := Lib.hid hf
  clear hcell hv hf
  go_enter Tryz.func164, Tryz.ntmps164
  go_wp2_with fail
  go_loopw [3] (fun i wr => ∃ k : Nat, k ≤ l.length ∧ i = .int .i64 k ∧ Hid (RightTo l k) ∧ Hid (∃ t, wr = w.drewN t)) (fun i _ => l.length - (intOf i).toNat)
  case atStart => exact ⟨0, by omega, rfl, Lib.hid (fun i hi hk => by omega), Lib.hid ⟨0, rfl⟩⟩
  case round =>
    obtain ⟨k, hk, rfl, HR, HT⟩ := hrel
    have Hb : Hid (Below w.heap.size w wr) := Lib.hid (by
      obtain ⟨t, ht⟩ := HT.out
      rw [ht]
      exact bel_drewN (bel_refl w) t)
    by_cases hlt : k < l.length
    · obtain ⟨p, hp⟩ : ∃ x, l[k]? = some x := ⟨l[k], List.getElem?_eq_getElem hlt⟩
      obtain ⟨b, o, rfl, c1, c2⟩ := Hcell.out k p hp
      have hpf := Hf.out p (List.mem_of_getElem? hp)
      have lb := World.block_lt_of_cell? w _ c1
      have c1' : wr.cell? ⟨b, o + k * 2, none⟩ = some (.string p.n) := (Hb.out.cell (p := ⟨b, o + k * 2, none⟩) lb).trans c1
      have c2' : wr.cell? ⟨b, o + k * 2 + 1, none⟩ = some (.string p.v) := (Hb.out.cell (p := ⟨b, o + k * 2 + 1, none⟩) lb).trans c2
      have hk1 : (0 : Int) ≤ (k : Int) := by omega
      have hk2 : (k : Int) < (l.length : Int) := by omega
      have HN := Lib.hid (fun W => refname_quiet p.n hpf.1 W)
      have HV := Lib.hid (fun W => refvalue_quiet p.v hpf.2 W)
      have HP := Lib.hid hp
      clear c1 c2 hp hpf lb
      cases hn : pb (NameP (bl p.n)) with
      | false =>
        have HX := Lib.hid (right_not HP.out (.inl (not_pair1 (of_not_pb hn))))
        rw [hn] at HN
        clear hn
        go_wp2_with (first | (go_at_call 154; refine (HN.out _).mono ?_; rintro e w1 ⟨rfl, rfl⟩) | (go_at_call 155; refine (HV.out _).mono ?_; rintro e w1 ⟨rfl, rfl⟩) | fail)
        go_ret
        exact ⟨says_no HX.out, HT.out⟩
      | true =>
        cases hv : pb (ValP (bl p.v)) with
        | false =>
          have HX := Lib.hid (right_not HP.out (.inl (not_pair2 (of_not_pb hv))))
          rw [hn] at HN
          rw [hv] at HV
          clear hn hv
          go_wp2_with (first | (go_at_call 154; refine (HN.out _).mono ?_; rintro e w1 ⟨rfl, rfl⟩) | (go_at_call 155; refine (HV.out _).mono ?_; rintro e w1 ⟨rfl, rfl⟩) | fail)
          go_ret
          exact ⟨says_no HX.out, HT.out⟩
        | true =>
          have HPP := Lib.hid (show PairP p from ⟨of_pb hn, of_pb hv⟩)
          rw [hn] at HN
          rw [hv] at HV
          clear hn hv
          by_cases hk0 : k = 0
          · have HR' := Lib.hid (rightTo_next HR.out HP.out HPP.out (fun q h => by omega))
            have Hk0 := Lib.hid hk0
            have d0 : decide (0 < (k : Int)) = false := by simp only [decide_eq_false_iff_not]; omega
            have d1 : decide (0 < k) = false := by simp only [decide_eq_false_iff_not]; omega
            clear hk0
            go_wp2_with (first | (go_at_call 154; refine (HN.out _).mono ?_; rintro e w1 ⟨rfl, rfl⟩) | (go_at_call 155; refine (HV.out _).mono ?_; rintro e w1 ⟨rfl, rfl⟩) | fail)
            go_quiet (fail)
            go_wp2_with fail
            go_roundw
            case rel => exact ⟨k + 1, by omega, by go_num, HR', Lib.hid (by
              obtain ⟨t, ht⟩ := HT.out
              rw [ht]
              exact ⟨_, World.drewN_drewN _ _ _⟩)⟩
            case measure => simp [intOf]; omega
          · obtain ⟨j, rfl⟩ : ∃ j, k = j + 1 := ⟨k - 1, by omega⟩
            obtain ⟨q, hq⟩ : ∃ x, l[j]? = some x := ⟨l[j], List.getElem?_eq_getElem (by omega)⟩
            obtain ⟨b', o', e, c3, _⟩ := Hcell.out j q hq
            cases e
            have lb := World.block_lt_of_cell? w _ c3
            have c3' : wr.cell? ⟨b, o + j * 2, none⟩ = some (.string q.n) := (Hb.out.cell (p := ⟨b, o + j * 2, none⟩) lb).trans c3
            clear c3 lb
            have HQ := Lib.hid hq
            clear hq
            have hj1 : (0 : Int) ≤ (j : Int) := by omega
            have hj2 : (j : Int) < (l.length : Int) := by omega
            cases hless : Op.bytesLess q.n.toList p.n.toList with
            | true =>
              have HR' := Lib.hid (rightTo_next HR.out HP.out HPP.out (fun q' _ h => by
                rw [Nat.add_sub_cancel, HQ.out] at h
                cases h
                exact hless))
              go_wp2_with (first | (go_at_call 154; refine (HN.out _).mono ?_; rintro e w1 ⟨rfl, rfl⟩) | (go_at_call 155; refine (HV.out _).mono ?_; rintro e w1 ⟨rfl, rfl⟩) | fail)
              go_quiet (fail)
              go_wp2_with fail
              go_roundw
              case rel => exact ⟨j + 1 + 1, by omega, by go_num, HR', Lib.hid (by
                obtain ⟨t, ht⟩ := HT.out
                rw [ht]
                exact ⟨_, World.drewN_drewN _ _ _⟩)⟩
              case measure => simp [intOf]; omega
            | false =>
              have HX := Lib.hid (right_not HP.out (.inr ⟨q, by omega, by rw [Nat.add_sub_cancel]; exact HQ.out, by unfold Less; rw [hless]; simp⟩))
              go_wp2_with (first | (go_at_call 154; refine (HN.out _).mono ?_; rintro e w1 ⟨rfl, rfl⟩) | (go_at_call 155; refine (HV.out _).mono ?_; rintro e w1 ⟨rfl, rfl⟩) | fail)
              go_quiet (fail)
              go_wp2_with fail
              go_ret
              exact ⟨says_no HX.out, by
                obtain ⟨t, ht⟩ := HT.out
                rw [ht]
                exact ⟨_, World.drewN_drewN _ _ _⟩⟩
    · obtain rfl : k = l.length := by omega
      by_cases h16 : l.length ≤ 16
      · have d : decide ((l.length : Int) ≤ 16) = true := by simp only [decide_eq_true_eq]; omega
        go_wp2_with fail
        go_ret
        exact ⟨says_yes ⟨by omega, fun i hi => HR.out i hi hi⟩, HT.out⟩
      · have d : decide ((l.length : Int) ≤ 16) = false := by simp only [decide_eq_false_iff_not]; omega
        go_wp2_with fail
        go_ret
        exact ⟨says_no (fun h => by have := h.1; omega), HT.out⟩
end Go.Proofs.YtbaflgddpciadaaGreat
namespace Go.Proofs.YtbaflgddpciadaaGreat
open Go.RowKit Go.Kt Go.Ix
set_option maxRecDepth 100000

def Bld (w0 w : World) (b : Nat) (l : List UInt8) : Prop := Lib.IsBuilderF 377 5 w0.heap.size b (Lib.byteCells l) w ∧ Below w0.heap.size w0 w
theorem bld_new (w : World) : Bld w (w.alloc (.cells #[.pointer none, .slice none 0 0] 377)) w.heap.size [] := by
  refine ⟨.inl ⟨Nat.le_refl _, .slice none 0 0, heap_alloc_new w _, ?_, by simp [Value.ownBlock]⟩, bel_alloc (bel_refl w)⟩
  exact ⟨rfl, .inl ⟨rfl, rfl⟩⟩
theorem byteCells_snoc (l : List UInt8) (c : UInt8) : Lib.byteCells (l ++ [c]) = Lib.byteCells l ++ [.int .u8 (c.toNat : Int)] := by simp [Lib.byteCells]
theorem byteCells_len (l : List UInt8) : (Lib.byteCells l).length = l.length := by simp [Lib.byteCells]
theorem bld_byte {w0 w : World} {b : Nat} {l : List UInt8} (h : Bld w0 w b l) (c : UInt8) (hl : l.length + 1 ≤ 140737488355328) :
    Calls Tryz.prog 237 #[.pointer (some ⟨b, 0, none⟩), .int .u8 (c.toNat : Int)] w fun e w' => e = .returned .nilIface ∧ Bld w0 w' b (l ++ [c]) := by
  refine (Tryz.Builder_WriteByte_k w0.heap.size b (Lib.byteCells l) (c.toNat : Int) w h.1 (by rw [byteCells_len]; exact hl) h.2.size).mono ?_
  rintro e w' ⟨rfl, h1, h2, _⟩
  exact ⟨rfl, .inr (by rw [byteCells_snoc]; exact h1), h.2.trans h2⟩
theorem bld_sign {w0 w : World} {b : Nat} {l : List UInt8} (h : Bld w0 w b l) (c : UInt8) (n : Int) (hn : (c.toNat : Int) = n) (hl : l.length + 1 ≤ 140737488355328) :
    Calls Tryz.prog 237 #[.pointer (some ⟨b, 0, none⟩), .int .u8 n] w fun e w' => e = .returned .nilIface ∧ Bld w0 w' b (l ++ [c]) := hn ▸ bld_byte h c hl
theorem bld_string {w0 w : World} {b : Nat} {l : List UInt8} (h : Bld w0 w b l) :
    Calls Tryz.prog 238 #[.pointer (some ⟨b, 0, none⟩)] w fun e w' => e = .returned (.string ⟨l.toArray⟩) ∧ Below w0.heap.size w0 w' := by
  refine (Tryz.Builder_String_any_k w0.heap.size b l w h.1 h.2.size).mono ?_
  rintro e w' ⟨rfl, _, h2, _⟩
  exact ⟨rfl, h.2.trans h2⟩

theorem escL_take (l : List UInt8) (k : Nat) (c : UInt8) (h : l[k]? = some c) : escL (l.take (k + 1)) = escL (l.take k) ++ esc c := by
  obtain ⟨hk, rfl⟩ := List.getElem?_eq_some_iff.1 h
  rw [List.take_succ_eq_append_getElem hk]
  unfold escL
  rw [List.flatMap_append]
  simp [List.flatMap]
theorem escL_take_le (l : List UInt8) (k : Nat) : (escL (l.take k)).length ≤ (escL l).length := by
  have h : (escL l).length = (escL (l.take k)).length + (escL (l.drop k)).length := by
    rw [← List.length_append]
    congr 1
    unfold escL
    rw [← List.flatMap_append, List.take_append_drop]
  omega
def quoteTo (l : List UInt8) (k : Nat) : List UInt8 := 34 :: escL (l.take k)
theorem quoteTo_zero (l : List UInt8) : quoteTo l 0 = [34] := by simp [quoteTo, escL]
theorem quoteTo_len (l : List UInt8) (k : Nat) : (quoteTo l k).length + 1 ≤ (quoteL l).length := by
  have := escL_take_le l k
  simp only [quoteTo, quoteL, List.length_cons, List.length_append, List.length_nil]; omega
theorem quoteTo_two {l : List UInt8} {k : Nat} {c : UInt8} (h : l[k]? = some c) (hc : c = 34 ∨ c = 92) : quoteTo l k ++ [92] ++ [c] = quoteTo l (k + 1) := by
  unfold quoteTo; rw [escL_take l k c h]; simp [esc, hc]
theorem quoteTo_one {l : List UInt8} {k : Nat} {c : UInt8} (h : l[k]? = some c) (hc : ¬ (c = 34 ∨ c = 92)) : quoteTo l k ++ [c] = quoteTo l (k + 1) := by
  unfold quoteTo; rw [escL_take l k c h]; simp [esc, hc]
theorem quoteTo_end (l : List UInt8) : quoteTo l l.length ++ [34] = quoteL l := by simp [quoteTo, quoteL]
theorem sign_of (c : UInt8) : (c = 34 ∧ (c.toNat : Int) = 34) ∨ (c = 92 ∧ ((c.toNat : Int) == 34) = false ∧ (c.toNat : Int) = 92) ∨ (¬ (c = 34 ∨ c = 92) ∧ ((c.toNat : Int) == 34) = false ∧ ((c.toNat : Int) == 92) = false) := by
  have h34 : c = 34 ↔ c.toNat = 34 := ⟨fun h => by rw [h]; rfl, fun h => UInt8.toNat_inj.1 (by rw [h]; rfl)⟩
  have h92 : c = 92 ↔ c.toNat = 92 := ⟨fun h => by rw [h]; rfl, fun h => UInt8.toNat_inj.1 (by rw [h]; rfl)⟩
  rw [h34, h92]
  simp only [beq_eq_false_iff_ne, ne_eq]
  omega

theorem quote_size (s : ByteArray) (hq : (quoteL (bl s)).length ≤ 140737488355328) : s.size ≤ 140737488355328 := by
  have h1 : ∀ l : List UInt8, l.length ≤ (escL l).length := by
    intro l
    induction l with
    | nil => simp [escL]
    | cons c l ih =>
      simp only [escL, List.flatMap_cons, List.length_append, List.length_cons] at ih ⊢
      have : 1 ≤ (esc c).length := by unfold esc; split <;> simp
      omega
  have h2 := h1 (bl s)
  rw [bl_len] at h2
  simp only [quoteL, List.length_cons, List.length_append] at hq
  omega

set_option maxHeartbeats 1000000 in
theorem quote_any (s : ByteArray) (w : World) (hq : (quoteL (bl s)).length ≤ 140737488355328) :
    Calls Tryz.prog 207 #[.string s] w fun e w' => e = .returned (.string ⟨(quoteL (bl s)).toArray⟩) ∧ Below w.heap.size w w' := by
  have hsz : s.size ≤ 140737488355328 := quote_size s hq
  have HQ := Lib.hid hq
  clear hq
  go_enter Tryz.func207, Tryz.ntmps207
  have HB := Lib.hid (bld_new w)
  go_wp2_with (first | (go_at_call 237; refine (bld_sign HB.out 34 34 rfl (by decide)).mono ?_; rintro e w2 ⟨rfl, hb2⟩) | fail)
  clear HB
  replace hb2 := Lib.hid hb2
  go_loopw [4, 8] (fun _ i wr => ∃ k : Nat, k ≤ s.size ∧ i = .int .i64 k ∧ Hid (Bld w wr w.heap.size (quoteTo (bl s) k))) (fun _ i _ => s.size - (intOf i).toNat)
  case atStart => exact ⟨0, by omega, rfl, Lib.hid (by rw [quoteTo_zero]; exact hb2.out)⟩
  case round =>
    obtain ⟨k, hk, rfl, HB⟩ := hrel
    clear hb2
    by_cases hlt : k < s.size
    · have hx := (s[k]'hlt).toNat_lt
      have HG : Hid ((bl s)[k]? = some (s[k]'hlt)) := Lib.hid (List.getElem?_eq_getElem (by rw [bl_len]; exact hlt))
      have HL := Lib.hid (quoteTo_len (bl s) k)
      have HL1 := Lib.hid (quoteTo_len (bl s) (k + 1))
      generalize hxx : (s[k]'hlt) = x at hx HG
      have hk1 : (0 : Int) ≤ (k : Int) := by omega
      rcases sign_of x with ⟨hc, c1⟩ | ⟨hc, c1, c2⟩ | ⟨hc, c1, c2⟩
      · have HC := Lib.hid (quoteTo_two HG.out (.inl hc))
        clear hc
        go_wp2_with (first | (go_at_call 237; refine (bld_sign hb2.out x 34 c1 (by have := HQ.out; have := HL1.out; rw [← HC.out] at this; simp only [List.length_append, List.length_cons, List.length_nil] at this ⊢; omega)).mono ?_; rintro e w3 ⟨rfl, hb3⟩; replace hb3 := Lib.hid hb3; clear hb2) | (go_at_call 237; refine (bld_sign HB.out 92 92 rfl (by have := HQ.out; have := HL.out; omega)).mono ?_; rintro e w2 ⟨rfl, hb2⟩; clear HB; replace hb2 := Lib.hid hb2) | fail)
        go_roundw
        case rel => exact ⟨k + 1, by omega, by go_num, Lib.hid (by rw [← HC.out]; exact hb3.out)⟩
        case measure => simp [intOf]; omega
      · have HC := Lib.hid (quoteTo_two HG.out (.inr hc))
        clear hc
        go_wp2_with (first | (go_at_call 237; refine (bld_sign hb2.out x 92 c2 (by have := HQ.out; have := HL1.out; rw [← HC.out] at this; simp only [List.length_append, List.length_cons, List.length_nil] at this ⊢; omega)).mono ?_; rintro e w3 ⟨rfl, hb3⟩; replace hb3 := Lib.hid hb3; clear hb2) | (go_at_call 237; refine (bld_sign HB.out 92 92 rfl (by have := HQ.out; have := HL.out; omega)).mono ?_; rintro e w2 ⟨rfl, hb2⟩; clear HB; replace hb2 := Lib.hid hb2) | fail)
        go_roundw
        case rel => exact ⟨k + 1, by omega, by go_num, Lib.hid (by rw [← HC.out]; exact hb3.out)⟩
        case measure => simp [intOf]; omega
      · have HC := Lib.hid (quoteTo_one HG.out hc)
        clear hc
        go_wp2_with (first | (go_at_call 237; refine (bld_byte HB.out x (by have := HQ.out; have := HL.out; omega)).mono ?_; rintro e w2 ⟨rfl, hb2⟩) | fail)
        go_roundw
        case rel => exact ⟨k + 1, by omega, by go_num, Lib.hid (by rw [← HC.out]; exact hb2)⟩
        case measure => simp [intOf]; omega
    · obtain rfl : k = s.size := by omega
      have HL := Lib.hid (quoteTo_len (bl s) s.size)
      have HC : Hid (quoteTo (bl s) s.size ++ [34] = quoteL (bl s)) := Lib.hid (by have := quoteTo_end (bl s); rw [bl_len] at this; exact this)
      go_wp2_with (first | (go_at_call 237; refine (bld_sign HB.out 34 34 rfl (by have := HQ.out; have := HL.out; omega)).mono ?_; rintro e w2 ⟨rfl, hb2⟩) | fail)
      clear HB
      rw [HC.out] at hb2
      replace hb2 := Lib.hid hb2
      go_wp2_with (first | (go_at_call 238; refine (bld_string hb2.out).mono ?_; rintro e w3 ⟨rfl, hb3⟩) | fail)
      go_ret
      exact ⟨rfl, hb3⟩

end Go.Proofs.YtbaflgddpciadaaGreat
namespace Go.Proofs.YtbaflgddpciadaaGreat
open Go.RowKit Go.Kt Go.Ix
set_option maxRecDepth 100000

/-! ### rows made since a world w0 -/
def Mine (e : TypeId) (size : Nat) (w0 w : World) (v : Value) (n : Nat) (xs : List Value) : Prop := Own e size w v n xs ∧ (∀ b, v.ownBlock = some b → w0.heap.size ≤ b) ∧ Below w0.heap.size w0 w
theorem mine_nil (e : TypeId) (size : Nat) (w : World) : Mine e size w w (.slice none 0 0) 0 [] := ⟨own_nil w e size, (fun b hb => by cases hb), bel_refl w⟩
theorem Mine.below {e : TypeId} {size : Nat} {w0 w w' : World} {v : Value} {n : Nat} {xs : List Value} (h : Mine e size w0 w v n xs) (hb : Below w.heap.size w w') : Mine e size w0 w' v n xs :=
  ⟨h.1.below' hb, h.2.1, bel_trans h.2.2 hb⟩
theorem Mine.rd {e : TypeId} {size : Nat} {w0 w : World} {v : Value} {n : Nat} {xs : List Value} (h : Mine e size w0 w v n xs) : RdRow size w v n xs := h.1.rd
theorem mine_grown {e : TypeId} {size : Nat} {w0 w w' : World} {v v' : Value} {n m : Nat} {xs ys : List Value} (hm : Mine e size w0 w v n xs) (h2 : Own e size w' v' m ys) (h3 : w.grownBy w' v.ownBlock)
    (h4 : ∀ b, v'.ownBlock = some b → v.ownBlock = some b ∨ w.heap.size ≤ b) : Mine e size w0 w' v' m ys :=
  ⟨h2, fun b hb => (h4 b hb).elim (hm.2.1 b) fun h => Nat.le_trans hm.2.2.size h, hm.2.2.grown h3 hm.2.2.size fun k hk => hm.2.1 k hk⟩
/-- 'append(s, x...)': s made since w0 -/
theorem mine_app {P : Program} {w0 w1 w : World} {ops : Array Oper} {rest : List Oper} {o : Oper} {a : Act} {Q : Exit → Act → World → Prop} (hgd : Region.wanted o (yielded ops a.tmps) = true) (s x : Operand) (t : TypeId)
    (ho : o.op = .call { callee := .builtin .append, args := #[s, x], argTypes := #[t, t] })
    {e : TypeId} {z : Value} {size bytes : Nat} (ok : ElemOk P t e z size bytes)
    {v : Value} {n : Nat} {xs : List Value} {vx : Value} {m : Nat} {news : List Value} (hs : a.eval s = v) (hx : a.eval x = vx)
    (hm : Mine e size w0 w1 v n xs) (hb : Below w1.heap.size w1 w) (hrd : RdRow size w vx m news) (h1 : ∀ u ∈ news, u.oneCell' = true)
    (h63 : n + m ≤ maxLen) (hbytes : (n + m) * bytes ≤ 140737488355328)
    (h : ∀ v' w', Mine e size w0 w' v' (n + m) (xs ++ news) → w.grownBy w' v.ownBlock → wpList P ops Q rest (a.put o.dst v') w') : wpList P ops Q (o :: rest) a w :=
  wpList_app hgd s x t ho ok hs hx (hm.below hb).1 hrd h1 h63 hbytes fun v' w' h2 h3 h4 => h v' w' (mine_grown (hm.below hb) h2 h3 h4) h3
/-- the same in a region that draws its order -/
theorem mine_step {P : Program} {w0 w1 w : World} {ops : Array Oper} {o : Oper} {a : Act} {K : Act → World → Prop} {Q : Exit → Act → World → Prop} {E : Prop} (hgd : o.guard = none) (s x : Operand) (t : TypeId)
    (ho : o.op = .call { callee := .builtin .append, args := #[s, x], argTypes := #[t, t] })
    {e : TypeId} {z : Value} {size bytes : Nat} (ok : ElemOk P t e z size bytes)
    {v : Value} {n : Nat} {xs : List Value} {vx : Value} {m : Nat} {news : List Value} (hs : a.eval s = v) (hx : a.eval x = vx)
    (hm : Mine e size w0 w1 v n xs) (hb : Below w1.heap.size w1 w) (hrd : RdRow size w vx m news) (h1 : ∀ u ∈ news, u.oneCell' = true)
    (h63 : n + m ≤ maxLen) (hbytes : (n + m) * bytes ≤ 140737488355328)
    (h : ∀ v' w', Mine e size w0 w' v' (n + m) (xs ++ news) → w.grownBy w' v.ownBlock → K (a.put o.dst v') w') :
    if Region.wanted o (yielded ops a.tmps) = true then Oper.wp P o a w K Q else E :=
  step_app hgd s x t ho ok hs hx (hm.below hb).1 hrd h1 h63 hbytes fun v' w' h2 h3 h4 => h v' w' (mine_grown (hm.below hb) h2 h3 h4) h3
theorem rd_lit {w : World} {e : TypeId} {g : Nat} (size : Nat) (cs : Array Value) (n : Nat) (hg : g = w.heap.size) (hm : n ≤ maxLen) (hs : cs.size = n * size) :
    RdRow size (w.alloc (.cells cs e)) (.slice (some ⟨g, 0, none⟩) n n) n cs.toList := by subst hg; exact (own_lit w e size cs n hm hs).rd

theorem ok77 : ElemOk Tryz.prog 347 9 (.string ⟨#[]⟩) 1 16 := ⟨Tryz.underlying347, info_parts (by kernel_rfl), rfl, by decide⟩

/-! ### how long the parts of a text are -/
theorem pairL_le {l : List Pr} {k : Nat} {p : Pr} (h : l[k]? = some p) : (headL (l.take k)).length + (pairL p).length ≤ (headL l).length := by
  obtain ⟨hk, rfl⟩ := List.getElem?_eq_some_iff.1 h
  have h1 := headL_take_le l (k + 1)
  rw [List.take_succ_eq_append_getElem hk] at h1
  by_cases h0 : l.take k = []
  · rw [h0] at h1 ⊢
    rw [List.nil_append, headL_first] at h1
    simpa using h1
  · rw [headL_next _ _ h0] at h1
    simp only [List.length_append, List.length_cons] at h1
    omega
theorem quote_le_pair (p : Pr) : (quoteL (bl p.v)).length + 1 ≤ (pairL p).length := by simp only [pairL, List.length_append, List.length_cons]; omega
theorem name_size {l : List Pr} {k : Nat} {p : Pr} (h : (textL l).length ≤ 140737488355328) (hp : l[k]? = some p) : p.n.size ≤ 140737488355328 := by
  have h1 := pairL_le hp
  rw [textL_head] at h
  have h3 : (bl p.n).length ≤ (pairL p).length := by simp only [pairL, List.length_append]; omega
  rw [bl_len] at h3
  simp only [List.length_append, List.length_cons, List.length_nil] at h
  omega
/-! ### texts put together -/
def mkS (l : List UInt8) : ByteArray := ⟨l.toArray⟩
theorem mkS_add (a b : List UInt8) : mkS a ++ mkS b = mkS (a ++ b) := by
  apply bl_inj
  simp [bl, mkS, ByteArray.append_eq]
theorem mkS_bl (s : ByteArray) : mkS (bl s) = s := mk_bl s
theorem pair_text (p : Pr) : p.n ++ (⟨#[61]⟩ : ByteArray) ++ mkS (quoteL (bl p.v)) = mkS (pairL p) := by
  rw [show p.n = mkS (bl p.n) from (mkS_bl _).symm, show (⟨#[61]⟩ : ByteArray) = mkS [61] from rfl, mkS_add, mkS_add]
  simp [pairL, List.append_assoc]

theorem one_str (s : ByteArray) : ∀ u ∈ [Value.string s], u.oneCell' = true := by intro u hu; rw [List.mem_singleton.1 hu]; rfl
theorem one_le : 1 ≤ maxLen := by simp [maxLen]
def strsOf (l : List Pr) : List Value := l.map fun p => .string (mkS (pairL p))
theorem strsOf_take {l : List Pr} {k : Nat} {p : Pr} (h : l[k]? = some p) : strsOf (l.take k) ++ [.string (mkS (pairL p))] = strsOf (l.take (k + 1)) := by
  obtain ⟨hk, rfl⟩ := List.getElem?_eq_some_iff.1 h
  rw [List.take_succ_eq_append_getElem hk, strsOf, strsOf, List.map_append]; rfl

theorem join_any {w0 w : World} {v : Value} {l : List Pr} (h : Mine 9 1 w0 w v l.length (strsOf l)) (hl : l.length ≤ 1048576) (hq : (textL l).length ≤ 140737488355328) :
    Calls Tryz.prog 208 #[v, .string ⟨#[44]⟩] w fun e w' => e = .returned (.string (mkS (Lib.join (l.map pairL) [44]))) ∧ Below w0.heap.size w0 w' := by
  obtain ⟨_, a, cap, rfl, h1, h2, h3, h5⟩ := h.rd
  cases l with
  | nil =>
    refine (Tryz.strings_Join_none a cap ⟨#[44]⟩ w).mono ?_
    rintro e w' ⟨rfl, rfl⟩
    exact ⟨by rw [List.map_nil, Lib.join_nil]; rfl, h.2.2⟩
  | cons p t =>
    obtain ⟨b, o, rfl, hc⟩ := h5 0 (.string (mkS (pairL p))) rfl
    have hbk := World.block_lt_of_cell? w _ hc
    have hx : ((p :: t).map fun q => mkS (pairL q)).map (fun s => s.data.toList) = (p :: t).map pairL := by
      rw [List.map_map]; apply List.map_congr_left; intro q _; rfl
    have hj : (Lib.join ((p :: t).map pairL) [44]).length ≤ 140737488355328 := by
      rw [textL_eq] at hq
      simp only [List.length_cons, List.length_append] at hq ⊢
      omega
    have := Tryz.strings_Join b o cap ((p :: t).map fun q => mkS (pairL q)) ⟨#[44]⟩ w (fun j x hj => by
      simp only [List.getElem?_map, Option.map_eq_some_iff] at hj
      obtain ⟨q, hq, rfl⟩ := hj
      obtain ⟨b', o', e, hc'⟩ := h5 j (.string (mkS (pairL q))) (by simp only [strsOf, List.getElem?_map, hq]; rfl)
      cases e
      exact hc') hbk (by rw [List.length_map]; omega) (by rw [List.length_map]; exact h1) (by rw [hx]; exact hj)
    rw [hx, List.length_map] at this
    refine this.mono ?_
    rintro e w' ⟨rfl, hb⟩
    exact ⟨rfl, bel_trans h.2.2 hb⟩
theorem text_mk (l : List Pr) : (⟨#[123]⟩ : ByteArray) ++ mkS (Lib.join (l.map pairL) [44]) ++ (⟨#[125]⟩ : ByteArray) = mkS (textL l) := by
  rw [show (⟨#[123]⟩ : ByteArray) = mkS [123] from rfl, show (⟨#[125]⟩ : ByteArray) = mkS [125] from rfl, mkS_add, mkS_add, textL_eq]
  rfl
theorem mkS_size (l : List UInt8) : (mkS l).size = l.length := by simp [mkS, ByteArray.size]

set_option maxHeartbeats 1000000 in
theorem text_any (v : Value) (l : List Pr) (w : World) (hv : RdP w v l) (hlen : l.length ≤ 1048576) (hq : (textL l).length ≤ 140737488355328) :
    Calls Tryz.prog 184 #[v] w fun e w' => e = .returned (.string (mkS (textL l))) ∧ Below w.heap.size w w' := by
  obtain ⟨a, cap, rfl, hcap, hbig, hcell⟩ := hv.open
  have Hcell := Lib.hid hcell
  have HQ := Lib.hid hq
  clear hcell hv hq
  go_enter Tryz.func184, Tryz.ntmps184
  go_wp2_with fail
  go_loopw [3, 5, 8] (fun v _ i wr => ∃ k : Nat, k ≤ l.length ∧ i = .int .i64 k ∧ Hid (Mine 9 1 w wr v k (strsOf (l.take k)))) (fun _ _ i _ => l.length - (intOf i).toNat)
  case atStart => exact ⟨0, by omega, rfl, Lib.hid (mine_nil 9 1 w)⟩
  case round =>
    obtain ⟨k, hk, rfl, HM⟩ := hrel
    by_cases hlt : k < l.length
    · obtain ⟨p, hp⟩ : ∃ x, l[k]? = some x := ⟨l[k], List.getElem?_eq_getElem hlt⟩
      obtain ⟨b, o, rfl, c1, c2⟩ := Hcell.out k p hp
      have lb := World.block_lt_of_cell? w _ c1
      have c1' : wr.cell? ⟨b, o + k * 2, none⟩ = some (.string p.n) := (HM.out.2.2.cell (p := ⟨b, o + k * 2, none⟩) lb).trans c1
      have c2' : wr.cell? ⟨b, o + k * 2 + 1, none⟩ = some (.string p.v) := (HM.out.2.2.cell (p := ⟨b, o + k * 2 + 1, none⟩) lb).trans c2
      have HP := Lib.hid hp
      clear c1 c2 hp lb
      have hqp : (quoteL (bl p.v)).length ≤ 140737488355328 := by
        have h1 := pairL_le HP.out
        have h2 := quote_le_pair p
        have h3 := HQ.out
        rw [textL_head] at h3
        simp only [List.length_append, List.length_cons, List.length_nil] at h3
        omega
      have HQP := Lib.hid hqp
      have hnp : p.n.size ≤ 140737488355328 := name_size HQ.out HP.out
      have hn1 : ¬ 9223372036854775807 < p.n.size + 1 := by omega
      have hn2 : ¬ 9223372036854775807 < p.n.size + 1 + (quoteL (bl p.v)).length := by omega
      go_wp2_with fail
      have HX := Lib.hid (Blk.new wr #[.string p.n, .string p.v] 104)
      have HB5 := Lib.hid (below_alloc wr (.cells #[.string p.n, .string p.v] 104))
      generalize wr.alloc (.cells #[.string p.n, .string p.v] 104) = w5 at HX HB5 ⊢
      have HM5 := Lib.hid (HM.out.below HB5.out)
      have HK : Hid (∀ w', Below w5.heap.size w5 w' → w'.cell? ⟨wr.heap.size, 0, none⟩ = some (.string p.n) ∧ w'.cell? ⟨wr.heap.size, 1, none⟩ = some (.string p.v)) := Lib.hid (fun w' h => ⟨(HX.out.next h).cell 0, (HX.out.next h).cell 1⟩)
      have hx5 := bel_refl w5
      obtain ⟨k0, k1⟩ := HK.out _ hx5
      have Hne : Hid (u3.ownBlock ≠ some wr.heap.size) := Lib.hid (fun e => by have := HM.out.1.lt _ e; omega)
      have Hlen : Hid ((strsOf (l.take k)).length = k) := Lib.hid (by simp [strsOf]; omega)
      go_region_held3 (fun w' => w'.cell? ⟨wr.heap.size, 0, none⟩ = some (.string p.n) ∧ w'.cell? ⟨wr.heap.size, 1, none⟩ = some (.string p.v))
        (first | (exact ⟨k0, k1⟩) | (exact ⟨k70, k71⟩) | go_keep | (exact HK.out _ (by repeat (first | assumption | apply bel_alloc | apply bel_drew))))
        (first
          | (refine mine_step (by rfl) _ _ 347 (by rfl) ok77 (by rfl) (by rfl) HM5.out (by repeat (first | assumption | apply bel_alloc | apply bel_drew)) (news := [.string (p.n ++ (⟨#[61]⟩ : ByteArray) ++ ⟨(quoteL (bl p.v)).toArray⟩)]) (m := 1) (by exact rd_lit 1 #[_] 1 rfl one_le rfl) (one_str _) (by simp only [maxLen]; omega) (by omega) ?_; intro v7 w7 hm7 hg7; have k7 := (HX.out.next (by repeat (first | assumption | apply bel_alloc | apply bel_drew))).grown hg7 Hne.out; have k70 : w7.cell? ⟨wr.heap.size, 0, none⟩ = some (.string p.n) := k7.cell 0; have k71 : w7.cell? ⟨wr.heap.size, 1, none⟩ = some (.string p.v) := k7.cell 1; have HM7 := Lib.hid hm7; clear hm7 hg7 k7)
          | (go_simp; go_at_call 207; refine (quote_any p.v _ HQP.out).mono ?_; rintro e w6 ⟨rfl, hb6⟩; have hx6 : Below w5.heap.size w5 w6 := bel_trans (by repeat (first | assumption | apply bel_alloc | apply bel_drew)) hb6; clear hb6))
      go_wp2_with fail
      go_roundw
      case rel => exact ⟨k + 1, by omega, by go_num, Lib.hid (by
        have := HM7.out
        rw [show (⟨(quoteL (bl p.v)).toArray⟩ : ByteArray) = mkS (quoteL (bl p.v)) from rfl, pair_text, strsOf_take HP.out] at this
        exact this)⟩
      case measure => simp [intOf]; omega
    · obtain rfl : k = l.length := by omega
      rw [List.take_length] at HM
      have hj : (mkS (Lib.join (l.map pairL) [44])).size ≤ 140737488355328 := by
        have h := HQ.out
        rw [textL_eq] at h
        simp only [List.length_cons, List.length_append, mkS_size] at h ⊢
        omega
      have hj1 : ¬ 9223372036854775807 < 1 + (mkS (Lib.join (l.map pairL) [44])).size := by omega
      have hj2 : ¬ 9223372036854775807 < 1 + (mkS (Lib.join (l.map pairL) [44])).size + 1 := by omega
      go_wp2_with (first | (go_at_call 208; refine (join_any HM.out hlen HQ.out).mono ?_; rintro e w3 ⟨rfl, hb3⟩; replace hb3 := Lib.hid hb3) | fail)
      go_ret
      refine ⟨?_, hb3.out⟩
      rw [text_mk]
      rfl

end Go.Proofs.YtbaflgddpciadaaGreat
namespace Go.Proofs.YtbaflgddpciadaaGreat
open Go.RowKit Go.Kt Go.Ix
set_option maxRecDepth 100000

theorem ok67 : ElemOk Tryz.prog 85 104 (.agg #[.string ⟨#[]⟩, .string ⟨#[]⟩]) 2 32 := ok75
theorem ok62 : ElemOk Tryz.prog 143 219 (.agg #[.string ⟨#[]⟩, .string ⟨#[]⟩]) 2 32 := ok112
theorem pair_one (p : Pr) : ∀ u ∈ (#[Value.string p.n, Value.string p.v] : Array Value).toList, u.oneCell' = true := by
  intro u hu
  simp only [List.mem_cons, List.not_mem_nil, or_false] at hu
  rcases hu with rfl | rfl <;> rfl
def MineP (e : TypeId) (w0 w : World) (v : Value) (l : List Pr) : Prop := Mine e 2 w0 w v l.length (flatP l)
theorem MineP.rd {e : TypeId} {w0 w : World} {v : Value} {l : List Pr} (h : MineP e w0 w v l) : RdP w v l := h.1.rd
theorem MineP.bel {e : TypeId} {w0 w : World} {v : Value} {l : List Pr} (h : MineP e w0 w v l) : Below w0.heap.size w0 w := h.2.2

set_option maxHeartbeats 1000000 in
theorem to_any (v : Value) (l : List Pr) (w : World) (hv : RdP w v l) (hlen : l.length ≤ 4398046511104) :
    Calls Tryz.prog 136 #[v] w fun e w' => ∃ v', e = .returned v' ∧ MineP 104 w w' v' l := by
  obtain ⟨a, cap, rfl, hcap, hbig, hcell⟩ := hv.open
  have Hcell := Lib.hid hcell
  clear hcell hv
  go_enter Tryz.func136, Tryz.ntmps136
  go_wp2_with fail
  go_loopw [3, 5, 8] (fun v _ i wr => ∃ k : Nat, k ≤ l.length ∧ i = .int .i64 k ∧ Hid (MineP 104 w wr v (l.take k))) (fun _ _ i _ => l.length - (intOf i).toNat)
  case atStart => exact ⟨0, by omega, rfl, Lib.hid (mine_nil 104 2 w)⟩
  case round =>
    obtain ⟨k, hk, rfl, HM⟩ := hrel
    by_cases hlt : k < l.length
    · obtain ⟨p, hp⟩ : ∃ x, l[k]? = some x := ⟨l[k], List.getElem?_eq_getElem hlt⟩
      obtain ⟨b, o, rfl, c1, c2⟩ := Hcell.out k p hp
      have lb := World.block_lt_of_cell? w _ c1
      have c1' : wr.cell? ⟨b, o + k * 2, none⟩ = some (.string p.n) := (HM.out.2.2.cell (p := ⟨b, o + k * 2, none⟩) lb).trans c1
      have c2' : wr.cell? ⟨b, o + k * 2 + 1, none⟩ = some (.string p.v) := (HM.out.2.2.cell (p := ⟨b, o + k * 2 + 1, none⟩) lb).trans c2
      have HT := Lib.hid (flatP_take l k p hp)
      have Hkl : Hid ((l.take k).length = k) := Lib.hid (by rw [List.length_take]; omega)
      clear c1 c2 hp lb
      go_wp2_with (at_builtin; apply Hold.mk)
      unfold Hold
      refine mine_app rfl _ _ 85 rfl ok67 (by rfl) (by rfl) HM.out (by repeat (first | exact bel_refl _ | apply bel_alloc | apply bel_drew)) (by exact rd_lit 2 #[.string p.n, .string p.v] 1 (by simp) one_le rfl) (pair_one p) (by rw [Hkl.out]; simp only [maxLen]; omega) (by rw [Hkl.out]; omega) ?_
      intro v7 w7 hm7 hg7
      rw [Hkl.out, show (#[Value.string p.n, Value.string p.v] : Array Value).toList = [.string p.n, .string p.v] from rfl, ← HT.out] at hm7
      have HM7 : Hid (MineP 104 w w7 v7 (l.take (k + 1))) := Lib.hid (by unfold MineP; rw [List.length_take, Nat.min_eq_left (by omega)]; exact hm7)
      clear hm7 hg7
      go_wp2_with fail
      go_roundw
      case rel => exact ⟨k + 1, by omega, by go_num, HM7⟩
      case measure => simp [intOf]; omega
    · obtain rfl : k = l.length := by omega
      rw [List.take_length] at HM
      go_wp2_with fail
      go_ret
      exact ⟨_, rfl, HM.out⟩

set_option maxHeartbeats 1000000 in
theorem from_any (v : Value) (l : List Pr) (w : World) (hv : RdP w v l) (hlen : l.length ≤ 4398046511104) :
    Calls Tryz.prog 82 #[v] w fun e w' => ∃ v', e = .returned v' ∧ MineP 219 w w' v' l := by
  obtain ⟨a, cap, rfl, hcap, hbig, hcell⟩ := hv.open
  have Hcell := Lib.hid hcell
  clear hcell hv
  go_enter Tryz.func82, Tryz.ntmps82
  go_wp2_with fail
  go_loopw [3, 5, 8] (fun v _ i wr => ∃ k : Nat, k ≤ l.length ∧ i = .int .i64 k ∧ Hid (MineP 219 w wr v (l.take k))) (fun _ _ i _ => l.length - (intOf i).toNat)
  case atStart => exact ⟨0, by omega, rfl, Lib.hid (mine_nil 219 2 w)⟩
  case round =>
    obtain ⟨k, hk, rfl, HM⟩ := hrel
    by_cases hlt : k < l.length
    · obtain ⟨p, hp⟩ : ∃ x, l[k]? = some x := ⟨l[k], List.getElem?_eq_getElem hlt⟩
      obtain ⟨b, o, rfl, c1, c2⟩ := Hcell.out k p hp
      have lb := World.block_lt_of_cell? w _ c1
      have c1' : wr.cell? ⟨b, o + k * 2, none⟩ = some (.string p.n) := (HM.out.2.2.cell (p := ⟨b, o + k * 2, none⟩) lb).trans c1
      have c2' : wr.cell? ⟨b, o + k * 2 + 1, none⟩ = some (.string p.v) := (HM.out.2.2.cell (p := ⟨b, o + k * 2 + 1, none⟩) lb).trans c2
      have HT := Lib.hid (flatP_take l k p hp)
      have Hkl : Hid ((l.take k).length = k) := Lib.hid (by rw [List.length_take]; omega)
      clear c1 c2 hp lb
      go_wp2_with (at_builtin; apply Hold.mk)
      unfold Hold
      refine mine_app rfl _ _ 143 rfl ok62 (by rfl) (by rfl) HM.out (by repeat (first | exact bel_refl _ | apply bel_alloc | apply bel_drew)) (by exact rd_lit 2 #[.string p.n, .string p.v] 1 (by simp) one_le rfl) (pair_one p) (by rw [Hkl.out]; simp only [maxLen]; omega) (by rw [Hkl.out]; omega) ?_
      intro v7 w7 hm7 hg7
      rw [Hkl.out, show (#[Value.string p.n, Value.string p.v] : Array Value).toList = [.string p.n, .string p.v] from rfl, ← HT.out] at hm7
      have HM7 : Hid (MineP 219 w w7 v7 (l.take (k + 1))) := Lib.hid (by unfold MineP; rw [List.length_take, Nat.min_eq_left (by omega)]; exact hm7)
      clear hm7 hg7
      go_wp2_with fail
      go_roundw
      case rel => exact ⟨k + 1, by omega, by go_num, HM7⟩
      case measure => simp [intOf]; omega
    · obtain rfl : k = l.length := by omega
      rw [List.take_length] at HM
      go_wp2_with fail
      go_ret
      exact ⟨_, rfl, HM.out⟩

set_option maxHeartbeats 1000000 in
/-- two lists that say one thing compare equal -/
theorem compare_yes (v u : Value) (l : List Pr) (w : World) (hv : RdP w v l) (hu : RdP w u l) :
    Calls Tryz.prog 158 #[v, u] w fun e w' => e = .returned (.int .i64 0) ∧ ∃ t, w' = w.drewN t := by
  obtain ⟨a, cap, rfl, hcap, hbig, hcell⟩ := hv.open
  obtain ⟨a2, cap2, rfl, hcap2, hbig2, hcell2⟩ := hu.open
  have Hcell := Lib.hid hcell
  have Hcell2 := Lib.hid hcell2
  clear hcell hv hcell2 hu
  go_enter Tryz.func158, Tryz.ntmps158
  go_wp2_with fail
  go_loopw [5] (fun i wr => ∃ k : Nat, k ≤ l.length ∧ i = .int .i64 k ∧ Hid (∃ t, wr = w.drewN t)) (fun i _ => l.length - (intOf i).toNat)
  case atStart => exact ⟨0, by omega, rfl, Lib.hid ⟨0, rfl⟩⟩
  case round =>
    obtain ⟨k, hk, rfl, HT⟩ := hrel
    have Hb : Hid (Below w.heap.size w wr) := Lib.hid (by
      obtain ⟨t, ht⟩ := HT.out
      rw [ht]
      exact bel_drewN (bel_refl w) t)
    by_cases hlt : k < l.length
    · obtain ⟨p, hp⟩ : ∃ x, l[k]? = some x := ⟨l[k], List.getElem?_eq_getElem hlt⟩
      obtain ⟨b, o, rfl, c1, c2⟩ := Hcell.out k p hp
      obtain ⟨b2, o2, rfl, d1, d2⟩ := Hcell2.out k p hp
      have lb := World.block_lt_of_cell? w _ c1
      have ld := World.block_lt_of_cell? w _ d1
      have c1' : wr.cell? ⟨b, o + k * 2, none⟩ = some (.string p.n) := (Hb.out.cell (p := ⟨b, o + k * 2, none⟩) lb).trans c1
      have c2' : wr.cell? ⟨b, o + k * 2 + 1, none⟩ = some (.string p.v) := (Hb.out.cell (p := ⟨b, o + k * 2 + 1, none⟩) lb).trans c2
      have d1' : wr.cell? ⟨b2, o2 + k * 2, none⟩ = some (.string p.n) := (Hb.out.cell (p := ⟨b2, o2 + k * 2, none⟩) ld).trans d1
      have d2' : wr.cell? ⟨b2, o2 + k * 2 + 1, none⟩ = some (.string p.v) := (Hb.out.cell (p := ⟨b2, o2 + k * 2 + 1, none⟩) ld).trans d2
      have hk1 : (0 : Int) ≤ (k : Int) := by omega
      have hk2 : (k : Int) < (l.length : Int) := by omega
      clear c1 c2 d1 d2 lb ld hp
      go_wp2_with fail
      go_quiet (fail)
      go_wp2_with fail
      go_quiet (fail)
      go_wp2_with fail
      go_roundw
      case rel => exact ⟨k + 1, by omega, by go_num, Lib.hid (by
        obtain ⟨t, ht⟩ := HT.out
        rw [ht]
        exact ⟨_, World.drewN_drewN _ _ _⟩)⟩
      case measure => simp [intOf]; omega
    · obtain rfl : k = l.length := by omega
      go_wp2_with fail
      go_ret
      exact ⟨rfl, HT.out⟩
theorem same_yes (v u : Value) (l : List Pr) (w : World) (hv : RdP w v l) (hu : RdP w u l) :
    Calls Tryz.prog 81 #[v, u] w fun e w' => e = .returned (.bool true) ∧ ∃ t, w' = w.drewN t := by
  have HV := Lib.hid hv
  have HU := Lib.hid hu
  clear hv hu
  go_enter Tryz.func81, Tryz.ntmps81
  go_wp2_with (first | (go_at_call 158; refine (compare_yes v u l w HV.out HU.out).mono ?_; rintro e w2 ⟨rfl, ht⟩) | fail)
  go_ret
  exact ⟨rfl, ht⟩
end Go.Proofs.YtbaflgddpciadaaGreat
