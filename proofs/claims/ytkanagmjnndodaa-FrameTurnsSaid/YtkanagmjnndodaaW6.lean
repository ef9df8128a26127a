/- The contracts of FrameSeals (function 4) and FrameLong (function 6). -/
import Derived.Test.YtkanagmjnndodaaW5
namespace Go.Proofs.Ytkanagmjnndodaa
open Go.RowKit Go.Kt

namespace Fr
theorem num_head (n : Nat) (h : n < 16777216) : num (UInt8.ofNat (n / 65536)) (UInt8.ofNat (n / 256)) (UInt8.ofNat n) = n := by
  unfold num
  simp only [UInt8.toNat_ofNat']
  omega
theorem num4_le (c : Nat) (h : c < 4294967296) : num4 (UInt8.ofNat c) (UInt8.ofNat (c / 256)) (UInt8.ofNat (c / 65536)) (UInt8.ofNat (c / 16777216)) = c := by
  unfold num4
  simp only [UInt8.toNat_ofNat']
  omega
theorem opened_sealed (k : UInt8) (l r : List UInt8) (h : l.length ≤ 1048576) : opened (sealed k l ++ r) = ⟨k, l, 9 + l.length, 0⟩ := by
  have hs : sum k l < 4294967296 := crc_lt _ _
  show opened (167 :: k :: UInt8.ofNat (l.length / 65536) :: UInt8.ofNat (l.length / 256) :: UInt8.ofNat l.length :: UInt8.ofNat (sum k l) :: UInt8.ofNat (sum k l / 256) :: UInt8.ofNat (sum k l / 65536) :: UInt8.ofNat (sum k l / 16777216) :: (l ++ r)) = _
  unfold opened
  simp only [ne_eq, not_true_eq_false, if_false]
  rw [num_head _ (by omega), num4_le _ hs, if_neg (by omega), if_neg (by simp), List.take_left]
  unfold fin
  rw [if_pos rfl]
theorem sealed_len (k : UInt8) (l : List UInt8) : (sealed k l).length = 9 + l.length := by
  simp [sealed, head4, le4, Nat.add_comm]; try omega
end Fr

set_option maxHeartbeats 1000000 in
theorem seals_any (k : UInt8) (v1 v2 : Value) (p r : List UInt8) (w : World) (hv1 : Rd8 w v1 p) (hv2 : Rd8 w v2 r) (hr : r.length ≤ 1048576) :
    Calls Try.prog 4 #[by8 k, v1, v2] w fun e w' => e = .returned (.bool true) ∧ Below w.heap.size w w' := by
  have H1 := Lib.hid hv1
  have H2 := Lib.hid hv2
  clear hv1 hv2
  by_cases hlong : 1048576 < p.length
  · go_enter Try.func4, Try.ntmps4
    go_wp2_with fail
    refine (seal_long k _ _ _ H1.out hlong).mono ?_
    rintro e w' ⟨rfl, rfl⟩
    go_wp2_with fail
    refine (refseal_long k _ _ _ H1.out hlong).mono ?_
    rintro e w' ⟨rfl, rfl⟩
    go_wp2_with fail
    refine (awake_any _).mono ?_
    rintro e w1 ⟨rfl, hb⟩
    have Hb := Lib.hid hb
    clear hb
    go_wp2_with (with_reducible refine hold_conv 23 9 ?_)
    unfold Hold
    refine wpList_str8 rfl Try.underlying23 Try.underlying5 Try.underlying9 (l := []) rfl (own_nil _ 5 1 |>.rd) ?_
    go_wp2_with (with_reducible refine hold_conv 23 9 ?_)
    unfold Hold
    refine wpList_str8 rfl Try.underlying23 Try.underlying5 Try.underlying9 (l := []) rfl (own_nil _ 5 1 |>.rd) ?_
    go_wp2_with fail
    go_ret
    exact ⟨rfl, Hb.out⟩
  · have hshort : p.length ≤ 1048576 := by omega
    clear hlong
    have Hop := Lib.hid (Fr.opened_sealed k p r hshort)
    have hlen := Fr.sealed_len k p
    unfold by8
    go_enter Try.func4, Try.ntmps4
    go_wp2_with fail
    refine (seal_ok k _ _ _ H1.out hshort).mono ?_
    rintro e w1 ⟨b, rfl, hm, hb⟩
    obtain ⟨ab, cb, rfl, hb1, hb2, -, -⟩ := hm.rd.open
    rw [hlen] at hm hb1 ⊢
    unfold maxLen at hb2
    have Hm := Lib.hid hm
    have Hb := Lib.hid hb
    clear hm hb
    go_wp2_with fail
    refine (refseal_ok k _ _ _ (H1.out.below Hb.out) hshort).mono ?_
    rintro e w2 ⟨c, rfl, hm, hb⟩
    have Hm2 := Lib.hid hm
    have Hb2 := Lib.hid (Hb.out.trans (hb.mono Hb.out.size))
    have Hm1 := Lib.hid (Hm.out.below hb)
    clear hm hb Hm Hb
    go_wp2_with fail
    refine (awake_any _).mono ?_
    rintro e w3 ⟨rfl, hb⟩
    have Hb3 := Lib.hid (Hb2.out.trans (hb.mono Hb2.out.size))
    have Hm3 := Lib.hid (Hm1.out.below hb)
    have Hc3 := Lib.hid (Hm2.out.below hb)
    clear hb Hm1 Hm2 Hb2
    go_wp2_with (with_reducible refine hold_conv 23 9 ?_)
    unfold Hold
    refine wpList_str8 rfl Try.underlying23 Try.underlying5 Try.underlying9 rfl Hm3.out.rd ?_
    go_wp2_with (with_reducible refine hold_conv 23 9 ?_)
    unfold Hold
    refine wpList_str8 rfl Try.underlying23 Try.underlying5 Try.underlying9 rfl Hc3.out.rd ?_
    generalize hss : (⟨(Fr.sealed k p).toArray⟩ : ByteArray) = ss
    have Hss := Lib.hid hss
    clear hss Hc3
    go_wp2_with (at_builtin; apply Hold.mk)
    unfold Hold
    refine wpList_app8_mine rfl _ _ 23 rfl ok23 [] (Fr.sealed k p) rfl rfl w (Hb3.out.alloc Hb3.out.size _) (mine8_at [] (by simp [maxLen]) rfl (by simp) Hb3.out.size rfl) (Mine8.rd (Hm3.out.alloc _)) (by rw [hlen]; simp only [List.length_nil]; omega) ?_
    intro v4 w4 hm hb hg _
    have Hm4 : Hid (Mine8 5 w w4 v4 (Fr.sealed k p)) := Lib.hid (by simpa using hm)
    have Hb4 := Lib.hid hb
    clear hm hb hg Hm3 Hb3
    go_wp2_with (at_builtin; apply Hold.mk)
    unfold Hold
    refine wpList_app8_mine rfl _ _ 23 rfl ok23 _ r rfl rfl w Hb4.out Hm4.out (H2.out.below Hb4.out) (by rw [hlen]; omega) ?_
    intro v5 w5 hm hb _ _
    have Hm5 := Lib.hid hm
    have Hb5 := Lib.hid hb
    clear hm hb Hm4 Hb4
    go_wp2_with fail
    refine (open_any _ _ _ Hm5.out.rd).mono ?_
    rw [Hop.out]
    rintro e w6 ⟨pv, rfl, hm, hb⟩
    have Hm6 := Lib.hid hm
    have Hb6 := Lib.hid (Hb5.out.trans (hb.mono Hb5.out.size))
    clear hm hb Hm5
    have Hp6 := Lib.hid (H1.out.below Hb6.out)
    have he : ((↑(9 + p.length) : Int) == 9 + ↑p.length) = true := by rw [beq_iff_eq]; omega
    simp only [by8] 
    go_wp2_with (with_reducible refine hold_conv 23 9 ?_)
    unfold Hold
    refine wpList_str8 rfl Try.underlying23 Try.underlying5 Try.underlying9 rfl Hm6.out.rd ?_
    go_wp2_with (with_reducible refine hold_conv 23 9 ?_)
    unfold Hold
    refine wpList_str8 rfl Try.underlying23 Try.underlying5 Try.underlying9 rfl Hp6.out ?_
    go_wp2_with fail
    go_ret
    exact ⟨by simp, Hb6.out⟩

theorem open_sealed (k : UInt8) (p r : List UInt8) (v : Value) (w : World) (hv : Rd8 w v (Fr.sealed k p ++ r)) (hp : p.length ≤ 1048576) {K : Value} (hK : by8 k = K) :
    Calls Try.prog 15 #[v] w fun e w' => ∃ q, e = .returned (.tuple #[K, q, .int .i64 ((9 + p.length : Nat) : Int), .int .i64 0]) ∧ Mine8 5 w w' q p ∧ Below w.heap.size w w' := by
  subst hK
  refine (open_any v _ w hv).mono ?_
  rw [Fr.opened_sealed k p r hp]
  rintro e w' ⟨q, rfl, hm, hb⟩
  exact ⟨q, rfl, hm, hb⟩

def zeros (n : Nat) : List UInt8 := List.replicate n 0
theorem zeros_len (n : Nat) : (zeros n).length = n := by simp [zeros]
theorem rd8_zeros {w' : World} {v : Value} {n : Nat} (h : w'.ownsRow 0 5 1 v n (madeCells (Value.int .u8 0).cells (n * 1)).toList) : Rd8 w' v (zeros n) := by
  have : Rd8 w' v (zeros n) = RdRow 1 w' v n ((zeros n).map by8) := by unfold Rd8; rw [zeros_len]
  rw [this]
  have e : (madeCells (Value.int .u8 0).cells (n * 1)).toList = (zeros n).map by8 := by
    show (madeCells #[Value.int .u8 0] (n * 1)).toList = _
    rw [toList_madeCells_one, Nat.mul_one]
    simp [zeros, by8]
  rw [e] at h
  exact Own.rd (e := 5) h

set_option maxHeartbeats 1000000 in
theorem long_any (w : World) : Calls Try.prog 6 #[] w fun e w' => e = .returned (.bool true) ∧ Below w.heap.size w w' := by
  obtain ⟨i5, hi5, hz5, hs5, hb5⟩ := ok23.info
  obtain ⟨N, hN1, hN2⟩ : ∃ N : Nat, 1048577 ≤ N ∧ N ≤ 1048577 := ⟨1048577, by omega, by omega⟩
  go_enter Try.func6, Try.ntmps6
  go_wp2_with (at_make; apply Hold.mk)
  unfold Hold
  refine wpList_make_full w rfl _ _ 23 rfl 0 5 i5 _ 1 Try.underlying23 hi5 hz5 hs5 .i64 .i64 _ _ N rfl rfl (by omega) (by omega) (by rw [hb5]; omega) (by simp [maxLen]; omega) (by omega) ?_
  intro w1 hown hg
  have Hb1 : Hid (Below w.heap.size w w1) := Lib.hid ((Below.refl _ _).grown hg (Nat.le_refl _) (fun k h => by cases h))
  have H1 := Lib.hid (rd8_zeros hown)
  clear hown hg
  have hlen := zeros_len N
  generalize zeros N = z at *
  go_wp2_with fail
  refine (seal_long 2 _ z _ H1.out (by omega)).mono ?_
  rintro e w' ⟨rfl, rfl⟩
  go_wp2_with (with_reducible refine hold_slice ?_)
  unfold Hold
  refine wpList_cut8_lo ok23 z 1 rfl rfl rfl H1.out (by omega) ?_
  intro v2 hv2
  have H2 := Lib.hid hv2
  clear hv2
  have hlen2 : (z.drop 1).length = 1048576 := by simp; omega
  generalize z.drop 1 = p at *
  go_wp2_with fail
  refine (seal_ok 2 _ p _ H2.out (by omega)).mono ?_
  rintro e w2 ⟨b, rfl, hm, hb⟩
  have hlen3 := Fr.sealed_len 2 p
  have he1 : ((p.length : Int) == 1048576) = true := by rw [beq_iff_eq]; omega
  have hle : p.length ≤ 1048576 := by omega
  clear hlen2
  obtain ⟨ab, cb, rfl, hb1, hb2, -, -⟩ := hm.rd.open
  rw [hlen3] at hm hb1 ⊢
  unfold maxLen at hb2
  have Hm2 := Lib.hid hm
  have Hb2 := Lib.hid (Hb1.out.trans (hb.mono Hb1.out.size))
  clear hm hb
  go_wp2_with fail
  refine (open_sealed 2 p [] _ _ (by rw [List.append_nil]; exact Hm2.out.rd) hle (K := .int .u8 2) rfl).mono ?_
  rintro e w3 ⟨q, rfl, hm, hb⟩
  obtain ⟨aq, cq, rfl, hq1, hq2, -, -⟩ := hm.rd.open
  unfold maxLen at hq2
  have he : ((↑(9 + p.length) : Int) == 9 + ↑p.length) = true := by rw [beq_iff_eq]; omega
  have Hb3 := Lib.hid (Hb2.out.trans (hb.mono Hb2.out.size))
  clear hm hb
  go_wp2_with fail
  refine (awake_any _).mono ?_
  rintro e w4 ⟨rfl, hb⟩
  have Hb4 := Lib.hid (Hb3.out.trans (hb.mono Hb3.out.size))
  clear hb
  go_wp2_with fail
  go_ret
  exact ⟨by simp, Hb4.out⟩
end Go.Proofs.Ytkanagmjnndodaa
