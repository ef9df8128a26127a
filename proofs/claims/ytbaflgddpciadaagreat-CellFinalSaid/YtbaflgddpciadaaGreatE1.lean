/- IsToken, the program's and the document's. -/
import Derived.Test.YtbaflgddpciadaaGreatI6
set_option linter.unusedVariables false
set_option linter.unusedSimpArgs false
namespace Go.Cx
open Go.Ix
def tokAt (c : UInt8) : Prop := 33 ≤ c.toNat ∧ c.toNat ≤ 126
def Token (s : ByteArray) : Prop := 1 ≤ s.size ∧ s.size ≤ 32 ∧ ∀ i (h : i < (bl s).length), tokAt (bl s)[i]
end Go.Cx
namespace Go.Proofs.YtbaflgddpciadaaGreat
open Go.RowKit Go.Kt Go.Ix Go.Cx
set_option maxRecDepth 100000
set_option maxHeartbeats 400000 in
theorem isToken_any (s : ByteArray) (w : World) (hs : s.size ≤ maxLen) :
    Calls Tryz.prog 29 #[.string s] w fun e w' => Says (Token s) e ∧ w = w' := by
  unfold maxLen at hs
  by_cases h0 : s.size = 0
  · have e0 := bytes_nil h0
    go_enter Tryz.func29, Tryz.ntmps29
    go_wp2
    go_ret
    exact ⟨says_no (fun h => by have := h.1; omega), rfl⟩
  have h1 := bytes_some (show 0 < s.size by omega)
  by_cases h2 : 32 < s.size
  · go_enter Tryz.func29, Tryz.ntmps29
    go_wp2
    go_ret
    exact ⟨says_no (fun h => by have := h.2.1; omega), rfl⟩
  go_enter Tryz.func29, Tryz.ntmps29
  go_wp2
  go_loop [3, 13] (fun _ i => ∃ k : Nat, k ≤ s.size ∧ i = .int .i64 k ∧ Hid (∀ i (h : i < (bl s).length), i < k → tokAt (bl s)[i])) (fun _ i => s.size - (intOf i).toNat)
  case atStart => exact ⟨0, by omega, rfl, Lib.hid (fun i h hk => by omega)⟩
  case round =>
    obtain ⟨k, hk, rfl, HK⟩ := hrel
    by_cases hlt : k < s.size
    · have hg := @isv_go s (fun _ c => tokAt c) k HK hlt
      have hx := (s[k]'hlt).toNat_lt
      have hbx : (bl s)[k]'(by rw [bl_len]; exact hlt) = s[k]'hlt := rfl
      have Hno : ¬ tokAt (s[k]'hlt) → ¬ Token s := fun h hv => h (hbx ▸ hv.2.2 k (by rw [bl_len]; exact hlt))
      have HG := Lib.hid hg
      have HN := Lib.hid Hno
      clear hg hbx Hno
      generalize hxx : (s[k]'hlt) = x at hx HG HN
      by_cases hv : tokAt x
      · have HV := HG.out hv
        unfold tokAt at hv
        obtain ⟨v1, v2⟩ := hv
        clear HG HN
        go_wp2
        go_round
        case rel => exact ⟨k + 1, by omega, by go_num, HV⟩
        case measure => simp [intOf]; omega
      · have HV := Lib.hid (HN.out hv)
        unfold tokAt at hv
        clear HG HN
        have hv' : ((x.toNat : Int) < 33) ∨ ((x.toNat : Int) ≥ 33 ∧ 126 < (x.toNat : Int)) := by omega
        clear hv
        rcases hv' with hv | ⟨hv1, hv2⟩
        · go_wp2
          go_ret
          exact ⟨says_no HV.out, rfl⟩
        · go_wp2
          go_ret
          exact ⟨says_no HV.out, rfl⟩
    · obtain rfl : k = s.size := by omega
      go_wp2
      go_ret
      have := bl_len s
      exact ⟨says_yes ⟨by omega, by omega, fun i hi => HK.out i hi (by omega)⟩, rfl⟩
end Go.Proofs.YtbaflgddpciadaaGreat
