/- The contracts of awake (function 10) and of FrameCrcs (function 3), the latter for p and q of together at most 2^47 bytes. -/
import Derived.Test.YtkanagmjnndodaaW4
import Derived.Test.YtkanagmjnndodaaKtL
namespace Go.Proofs.Ytkanagmjnndodaa
open Go.RowKit Go.Kt

theorem crc_nine : Fr.crc 0 [49, 50, 51, 52, 53, 54, 55, 56, 57] = 3808858755 := by decide +kernel

set_option maxHeartbeats 400000 in
theorem awake_any (w : World) : Calls Try.prog 10 #[] w fun e w' => e = .returned (.bool true) ∧ Below w.heap.size w w' := by
  have kc := fun (w : World) (C : Array Value) (n c : Nat) => Lib.run_convert_bytes_const (P := Try.prog) w 23 5 C n c Try.underlying23 Try.underlying5
  go_enter Try.func10, Try.ntmps10
  go_wp2_with fail
  have hr : Rd8 (w.alloc (.cells #[.int .u8 97] 5 (1, 2))) (.slice (some ⟨w.heap.size, 0, none⟩) 1 1) [97] := rd8_new [97] (by simp [maxLen]) rfl rfl rfl
  refine (seal_ok 1 _ [97] _ hr (by simp)).mono ?_
  rintro e w1 ⟨v1, rfl, hm, hb⟩
  have Hb := Lib.hid ((below_alloc w _).trans (hb.mono (by simp)))
  have Hm := Lib.hid hm.rd
  obtain ⟨a, cap, rfl, hcap, hbig, hn, hc⟩ := hm.rd.open
  unfold maxLen at hbig
  have hlen : (Fr.sealed 1 [97]).length = 10 := rfl
  rw [hlen] at hcap ⊢
  clear hm hb hc hn hlen hr
  go_wp2_with fail
  have hr : Rd8 (w1.alloc (.cells #[.int .u8 49, .int .u8 50, .int .u8 51, .int .u8 52, .int .u8 53, .int .u8 54, .int .u8 55, .int .u8 56, .int .u8 57] 5 (9, 10))) (.slice (some ⟨w1.heap.size, 0, none⟩) 9 9) [49, 50, 51, 52, 53, 54, 55, 56, 57] := rd8_new _ (by simp [maxLen]) rfl rfl rfl
  refine (crc_any 0 _ _ _ (by omega) (by omega) hr).mono ?_
  rintro e w2 ⟨rfl, rfl⟩
  have e0 : Int.toNat 0 = 0 := rfl
  rw [e0, crc_nine]
  have Hb2 := Lib.hid (Hb.out.alloc Hb.out.size (.cells #[.int .u8 49, .int .u8 50, .int .u8 51, .int .u8 52, .int .u8 53, .int .u8 54, .int .u8 55, .int .u8 56, .int .u8 57] 5 (9, 10)))
  clear hr
  go_wp2_with fail
  go_ret
  exact ⟨rfl, Hb2.out⟩

set_option maxHeartbeats 400000 in
theorem crcs_any (s : Int) (v1 v2 : Value) (p q : List UInt8) (w : World) (h0 : 0 ≤ s) (h1 : s < 4294967296) (hv1 : Rd8 w v1 p) (hv2 : Rd8 w v2 q) (hpq : p.length + q.length ≤ 140737488355328) :
    Calls Try.prog 3 #[.int .u32 s, v1, v2] w fun e w' => e = .returned (.bool true) ∧ Below w.heap.size w w' := by
  have H1 := Lib.hid hv1
  have H2 := Lib.hid hv2
  clear hv1 hv2
  go_enter Try.func3, Try.ntmps3
  go_wp2_with (at_builtin; apply Hold.mk)
  unfold Hold
  refine wpList_app8_mine rfl _ _ 23 rfl ok23 [] p rfl rfl w (below_alloc w _) (mine8_at [] (by simp [maxLen]) rfl rfl (Nat.le_refl _) rfl) (H1.out.below (below_alloc w _)) (by simp; omega) ?_
  intro va wa hma hba _ _
  have Hma := Lib.hid hma
  have Hba := Lib.hid hba
  clear hma hba
  go_wp2_with (at_builtin; apply Hold.mk)
  unfold Hold
  refine wpList_app8_mine rfl _ _ 23 rfl ok23 _ q rfl rfl w Hba.out Hma.out (H2.out.below Hba.out) (by simp; omega) ?_
  intro vb wb hmb hbb _ _
  have Hmb : Hid (Rd8 wb vb (p ++ q)) := Lib.hid (by simpa using hmb.rd)
  have Hbb := Lib.hid hbb
  clear hmb hbb Hma Hba
  go_wp2_with fail
  refine (awake_any _).mono ?_
  rintro e wc ⟨rfl, hbc⟩
  have Hbc := Lib.hid (Hbb.out.trans (hbc.mono Hbb.out.size))
  have Hmc := Lib.hid (Hmb.out.below hbc)
  clear hbc
  go_wp2_with fail
  refine (crc_any s _ p _ h0 h1 (H1.out.below Hbc.out)).mono ?_
  rintro e w2 ⟨rfl, rfl⟩
  have hc := Fr.crc_lt s.toNat p
  have Hca := Lib.hid (Fr.crc_append s.toNat p q)
  generalize hcc : Fr.crc s.toNat p = c at *
  have Hcc := Lib.hid hcc
  clear hcc
  have ht : ((c : Int) == (c : Int)) = true := by simp
  go_wp2_with fail
  refine (refcrc_any s _ p _ h0 h1 (H1.out.below Hbc.out)).mono ?_
  rintro e w2 ⟨rfl, rfl⟩
  rw [Hcc.out]
  go_wp2_with fail
  refine (crc_any s _ p _ h0 h1 (H1.out.below Hbc.out)).mono ?_
  rintro e w2 ⟨rfl, rfl⟩
  rw [Hcc.out]
  go_wp2_with fail
  refine (crc_any c _ q _ (by omega) (by omega) (H2.out.below Hbc.out)).mono ?_
  rintro e w2 ⟨rfl, rfl⟩
  rw [Int.toNat_natCast, ← Hca.out]
  generalize hdd : Fr.crc s.toNat (p ++ q) = d
  have Hdd := Lib.hid hdd
  clear hdd
  have ht2 : ((d : Int) == (d : Int)) = true := by simp
  go_wp2_with fail
  refine (crc_any s _ (p ++ q) _ h0 h1 Hmc.out).mono ?_
  rintro e w2 ⟨rfl, rfl⟩
  rw [Hdd.out]
  go_wp2_with fail
  go_ret
  exact ⟨rfl, Hbc.out⟩
end Go.Proofs.Ytkanagmjnndodaa
