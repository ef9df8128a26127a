/- The contract of FrameOpens (function 5). -/
import Derived.Test.YtkanagmjnndodaaW7
namespace Go.Proofs.Ytkanagmjnndodaa
open Go.RowKit Go.Kt

theorem xor255 (x : UInt8) : bits .xor .u8 (x.toNat : Int) 255 = ((x ^^^ 255).toNat : Int) := by
  have := u8_xor_nat x.toNat 255 (by have := x.toNat_lt; omega) (by omega)
  rw [UInt8.toNat_xor]
  exact this

set_option maxHeartbeats 1000000 in
theorem opens_any (v : Value) (b : List UInt8) (w : World) (hv : Rd8 w v b) :
    Calls Try.prog 5 #[v] w fun e w' => e = .returned (.bool true) ∧ Below w.heap.size w w' := by
  have H0 := Lib.hid hv
  clear hv
  go_enter Try.func5, Try.ntmps5
  go_wp2_with (with_reducible refine hold_conv 23 9 ?_)
  unfold Hold
  refine wpList_str8 rfl Try.underlying23 Try.underlying5 Try.underlying9 rfl H0.out ?_
  generalize hss : (⟨b.toArray⟩ : ByteArray) = ss
  have Hss := Lib.hid hss
  clear hss
  go_wp2_with fail
  refine (open_any _ _ _ H0.out).mono ?_
  generalize hr : Fr.opened b = r
  have Hr := Lib.hid hr
  clear hr
  rintro e w1 ⟨p, rfl, hm, hb⟩
  obtain ⟨ap, cp, rfl, hp1, hp2, -, -⟩ := hm.rd.open
  unfold maxLen at hp2
  have Hm1 := Lib.hid hm
  have Hb1 := Lib.hid hb
  clear hm hb
  go_wp2_with fail
  refine (refopen_any _ _ _ (H0.out.below Hb1.out)).mono ?_
  rw [Hr.out]
  rintro e w2 ⟨q, rfl, hm, hb⟩
  have Hm2 := Lib.hid hm
  have Hb2 := Lib.hid (Hb1.out.trans (hb.mono Hb1.out.size))
  have Hp2 := Lib.hid (Hm1.out.below hb)
  clear hm hb Hm1 Hb1
  unfold by8
  go_wp2_with (with_reducible refine hold_conv 23 9 ?_)
  unfold Hold
  refine wpList_str8 rfl Try.underlying23 Try.underlying5 Try.underlying9 rfl Hp2.out.rd ?_
  go_wp2_with (with_reducible refine hold_conv 23 9 ?_)
  unfold Hold
  refine wpList_str8 rfl Try.underlying23 Try.underlying5 Try.underlying9 rfl Hm2.out.rd ?_
  go_wp2_with fail
  go_loopw [13, 52] (fun _ i wr => ∃ k : Nat, k ≤ r.body.length ∧ i = .int .i64 k ∧ (∃ l, l.length = r.body.length ∧ Hid (Mine8 5 w wr (.slice ap r.body.length cp) l)) ∧ Hid (Below w.heap.size w wr)) (fun _ i _ => r.body.length - (intOf i).toNat)
  case atStart => exact ⟨0, by omega, rfl, ⟨_, rfl, Hp2⟩, Hb2⟩
  case round =>
    obtain ⟨k, hk, rfl, ⟨l, hl, Hl⟩, Hb⟩ := hrel
    by_cases hlt : k < r.body.length
    · obtain ⟨g, rfl, hgz, hcell, hfr, hst⟩ := Hl.out.place k (by omega)
      have Hx := Lib.hid (xor255 l[k])
      have Hst := Lib.hid (hst (l[k] ^^^ 255))
      clear hst
      go_wp2_with fail
      go_roundw
      case rel =>
        rw [Hx.out]
        exact ⟨k + 1, by omega, by go_num, ⟨_, by simpa using hl, Hst⟩, Lib.hid (Hb.out.setCell hgz _)⟩
      case measure => simp [intOf]; omega
    · obtain rfl : k = r.body.length := by omega
      go_wp2_with fail
      refine (awake_any _).mono ?_
      rintro e w3 ⟨rfl, hb⟩
      have Hb3 := Lib.hid (Hb.out.trans (hb.mono Hb.out.size))
      clear hb
      go_wp2_with (with_reducible refine hold_conv 23 9 ?_)
      unfold Hold
      refine wpList_str8 rfl Try.underlying23 Try.underlying5 Try.underlying9 rfl (H0.out.below Hb3.out) ?_
      rw [Hss.out]
      go_wp2_with fail
      go_ret
      exact ⟨by simp, Hb3.out⟩
end Go.Proofs.Ytkanagmjnndodaa
