/- The contract of FrameScans (function 7). -/
import Derived.Test.YtkanagmjnndodaaWA
namespace Go.Proofs.Ytkanagmjnndodaa
open Go.RowKit Go.Kt

theorem scan_len (b : List UInt8) : (Fr.scan b).1.length * 9 ≤ (Fr.scan b).2 ∧ (Fr.scan b).2 ≤ b.length := by
  generalize hn : b.length = n
  induction n using Nat.strongRecOn generalizing b with
  | _ n ih =>
    by_cases h : (Fr.opened b).err = 0
    · obtain ⟨h1, h2, _⟩ := Fr.opened_used b h
      rw [Fr.scan_ok b h]
      have := ih (b.drop (Fr.opened b).used).length (by simp; omega) _ rfl
      simp only [List.length_cons, List.length_drop] at this ⊢
      omega
    · rw [Fr.scan_bad b h]
      simp

set_option maxHeartbeats 1000000 in
theorem scans_any (v : Value) (b : List UInt8) (w : World) (hv : Rd8 w v b) (hb : b.length ≤ 1000000000) :
    Calls Try.prog 7 #[v] w fun e w' => e = .returned (.bool true) ∧ Below w.heap.size w w' := by
  have H0 := Lib.hid hv
  clear hv
  have hps := scan_len b
  go_enter Try.func7, Try.ntmps7
  go_wp2_with fail
  refine (scan_any _ _ _ H0.out hb).mono ?_
  rintro e w1 ⟨v1, rfl, hp1, hb1⟩
  have Hp1 := Lib.hid hp1.rd
  have Hb1 := Lib.hid hb1
  clear hp1 hb1
  go_wp2_with fail
  refine (refscan_any _ _ _ (H0.out.below Hb1.out) hb).mono ?_
  rintro e w2 ⟨v2, rfl, hp2, hb2⟩
  generalize Fr.scan b = sc at *
  have Hp2 := Lib.hid hp2.rd
  have Hq2 := Lib.hid (Hp1.out.below hb2)
  have Hb2 := Lib.hid (Hb1.out.trans (hb2.mono Hb1.out.size))
  clear hp2 hb2 Hp1 Hb1
  have ht : (((sc.2 : Nat) : Int) == ((sc.2 : Nat) : Int)) = true := by simp
  go_wp2_with fail
  refine (awake_any _).mono ?_
  rintro e w3 ⟨rfl, hb3⟩
  have Hp3 := Lib.hid (Hp2.out.below hb3)
  have Hq3 := Lib.hid (Hq2.out.below hb3)
  have Hb3 := Lib.hid (Hb2.out.trans (hb3.mono Hb2.out.size))
  clear hb3 Hp2 Hq2 Hb2
  go_wp2_with fail
  refine (from_any _ _ _ Hq3.out (by omega)).mono ?_
  rintro e w4 ⟨v4, rfl, hp4, hb4⟩
  have Hp4 := Lib.hid hp4
  have Hq4 := Lib.hid (Hp3.out.below hb4)
  have Hb4 := Lib.hid (Hb3.out.trans (hb4.mono Hb3.out.size))
  clear hp4 hb4 Hp3 Hq3 Hb3
  go_wp2_with fail
  refine (same_any _ _ _ _ _ Hp4.out Hq4.out).mono ?_
  rw [decide_eq_true rfl]
  rintro e w5 ⟨rfl, hb5⟩
  have Hb5 := Lib.hid (Hb4.out.trans (hb5.mono Hb4.out.size))
  clear hb5
  go_wp2_with fail
  go_ret
  exact ⟨rfl, Hb5.out⟩
end Go.Proofs.Ytkanagmjnndodaa
