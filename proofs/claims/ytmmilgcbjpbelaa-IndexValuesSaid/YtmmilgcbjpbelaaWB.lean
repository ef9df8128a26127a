/- NodeHomes (3). -/
import Derived.Test.YtmmilgcbjpbelaaWA
namespace Go.Proofs.Ytmmilgcbjpbelaa
open Go.RowKit Go.Kt Go.Ix

theorem u64_mod (x d : Int) (h0 : 0 < d) (h1 : d ≤ 1000000) : ∃ y : Int, 0 ≤ y ∧ y < d ∧ wrap64 ((IntKind.u64.wrap x).tmod d) = y := by
  have h0' := wrap_u64_nonneg x
  have h2 := Int.emod_nonneg (IntKind.u64.wrap x) (b := d) (by omega)
  have h3 := Int.emod_lt_of_pos (IntKind.u64.wrap x) (b := d) (by omega)
  refine ⟨(IntKind.u64.wrap x) % d, h2, h3, ?_⟩
  rw [Int.tmod_eq_emod_of_nonneg h0', IntWalk.wrap64_in _ ⟨by omega, by omega⟩]
theorem field32 (a : Option Addr) (n c : Nat) (w : World) : (Instr.field 32 (cmdv (.slice a n c)) 7).run Try.prog w = .ok (.slice a n c) w := by kernel_rfl
theorem empty_size : (⟨#[]⟩ : ByteArray).size ≤ maxLen := Nat.zero_le _
theorem a_size : (⟨#[97]⟩ : ByteArray).size ≤ maxLen := by simp [ByteArray.size, maxLen]
theorem homeZ_one (s : ByteArray) : homeZ s 1 = 0 := by
  unfold homeZ
  rw [if_neg (by omega)]
  exact Int.emod_one _
theorem partL_bare {L M : List Wr} (h : L.map Wr.bare = M.map Wr.bare) (N S : Int) : (partL L N S).map Wr.bare = (partL M N S).map Wr.bare := by
  have key : ∀ T : List Wr, (partL T N S).map Wr.bare = (T.map Wr.bare).filter (fun m => wHome N m == S) := by
    intro T
    unfold partL
    rw [List.filter_map]
    rfl
  rw [key, key, h]
theorem fitW_bare {L M : List Wr} (h : L.map Wr.bare = M.map Wr.bare) (hf : FitW M) : FitW L := by
  intro m hm
  have : m.bare ∈ M.map Wr.bare := by rw [← h]; exact List.mem_map_of_mem hm
  obtain ⟨q, hq, e⟩ := List.mem_map.1 this
  have := hf q hq
  have e2 : q.bare.st = m.bare.st := by rw [e]
  have e3 : q.st = m.st := e2
  rw [← e3]; exact this

set_option maxRecDepth 20000 in
set_option maxHeartbeats 2000000 in
theorem homes_any (s : ByteArray) (v : Value) (L : List Wr) (sh : Int) (w : World) (hs : s.size ≤ maxLen) (hv : RdW w v L) (hf : FitW L) (hsh : Rng sh) :
    Calls Try.prog 3 #[.string s, v, .int .i64 sh] w fun e w' => e = .returned (.bool true) ∧ Below w.heap.size w w' := by
  obtain ⟨y, hy0, hy1, hy⟩ := u64_mod sh 8 (by omega) (by omega)
  obtain ⟨a, cap, rfl, hcap, hbig, hcell⟩ := hv.open
  have HV := Lib.hid hv
  have HF := Lib.hid hf
  have HS := Lib.hid hs
  have HSH := Lib.hid hsh
  clear hcell hv hf hs hsh
  by_cases h100 : 100 < L.length
  · go_enter Try.func3, Try.ntmps3
    go_wp2_with (first | (go_at_call 10; refine (refhome_any s sh _ HS.out HSH.out).mono ?_; rintro e w4 ⟨rfl, rfl⟩) | (go_at_call_of 9 (Value.string s); refine (home_any s sh _ HS.out HSH.out).mono ?_; rintro e w4 ⟨rfl, rfl⟩) | (go_at_call_of 9 (Value.string ⟨#[]⟩); refine (home_any ⟨#[]⟩ 1 _ empty_size (by omega)).mono ?_; rintro e w4 ⟨rfl, rfl⟩; rw [homeZ_one]) | fail)
    go_ret
    exact ⟨rfl, bel_refl w⟩
  · go_enter Try.func3, Try.ntmps3
    go_wp2_with (first | (go_at_call 10; refine (refhome_any s sh _ HS.out HSH.out).mono ?_; rintro e w4 ⟨rfl, rfl⟩) | (go_at_call_of 9 (Value.string s); refine (home_any s sh _ HS.out HSH.out).mono ?_; rintro e w4 ⟨rfl, rfl⟩) | fail)
    refine (cmdto_any _ L w HV.out (by omega) (fun m hm => by have := (HF.out m hm).1; omega)).mono ?_
    rintro e w1 ⟨v1, L1, rfl, he1, hm1⟩
    have hl1 : L1.length = L.length := by have := congrArg List.length he1; simpa using this
    have HF1 := Lib.hid (fitW_bare he1 HF.out)
    obtain ⟨a1, cap1, rfl, _⟩ := hm1.rd.open
    have HM1 := Lib.hid hm1
    have HE1 := Lib.hid he1
    rw [hl1]
    have hfield := field32 a1 L.length cap1 w1
    unfold cmdv at hfield ⊢
    clear hm1 he1
    have hN1 : 1 ≤ 1 + y ∧ 1 + y ≤ 8 := by omega
    have HL1 := Lib.hid hl1
    clear hl1
    go_wp2_with (first | (go_at_call 11; refine (split_any (.slice a1 L.length cap1) L1 (1 + y) _ (by have := HM1.out.rd; rw [HL1.out] at this; exact this) (by have := HL1.out; omega) HF1.out hN1).mono ?_; rintro e w2 ⟨mb, F, rfl, hb2, hbel2⟩) | fail)
    have HK2 := Lib.hid hb2
    have HB2 := Lib.hid hbel2
    clear hb2 hbel2 hfield
    obtain ⟨wo, rfl⟩ : ∃ x, x = w2 := ⟨_, rfl⟩
    obtain ⟨Y, rfl⟩ : ∃ Y : Nat, y = (Y : Int) := ⟨y.toNat, by omega⟩
    have HY := Lib.hid hy
    clear hy
    go_wp2_with fail
    have HB0 := Lib.hid (bel_trans HM1.out.1.2.2 HB2.out)
    go_loopw [9, 41] (fun _ i wr => ∃ p : Nat, p ≤ Y + 1 ∧ i = .int .i64 p ∧ Hid (Below wo.heap.size wo wr)) (fun _ i _ => Y + 1 - (intOf i).toNat)
    case atStart => exact ⟨0, by omega, rfl, Lib.hid (bel_refl wo)⟩
    case round =>
      obtain ⟨p, hp, rfl, HB⟩ := hrel
      have HKr := Lib.hid (HK2.out.below HB.out)
      have hlen := HKr.out.map.len Try.underlying25 3
      by_cases hlt : p < Y + 1
      · have hlook := HKr.out.map.look1 key3 Try.underlying25 (zero30 wr) (keyOf3 (n := (p : Int)) (by unfold Rng; omega))
        obtain ⟨hrow, _⟩ := HKr.out.look (.int .i64 (p : Int))
        generalize hv0 : (F (.int .i64 (p : Int))).getD (.slice none 0 0) = v0 at *
        have HRow : Hid (RdW wr v0 (partL L1 (1 + (Y : Int)) (p : Int))) := Lib.hid ⟨hrow.rd, fun m hm => (((HM1.out.2 m (partL_mem hm)).rd.below HB2.out).below HB.out)⟩
        have HPl : Hid ((partL L1 (1 + (Y : Int)) (p : Int)).length ≤ 100) := Lib.hid (by
          have h1 : (partL L1 (1 + (Y : Int)) (p : Int)).length ≤ L1.length := List.length_filter_le _ _
          have := HL1.out; omega)
        have Hv0 := Lib.hid hv0
        clear hrow hv0 hlen
        go_wp2_with (first
          | (go_at_call 14; refine (back_any v0 (partL L1 (1 + (Y : Int)) (p : Int)) _ HRow.out (by have := HPl.out; omega) (fun m hm => by have := (HF1.out m (partL_mem hm)).1; omega)).mono ?_; rintro e w3 ⟨v3, L3, rfl, he3, hm3⟩; obtain ⟨a3, c3, rfl, _⟩ := hm3.rd.open; have HM3 := Lib.hid hm3; have HE3 := Lib.hid he3; clear hm3 he3)
          | (go_at_call 15; refine (part_any (.slice a L.length cap) L (1 + (Y : Int)) (p : Int) _ (((HV.out.below HB0.out).below HB.out).below HM3.out.1.2.2) (by omega) HF.out (by omega)).mono ?_; rintro e w4 ⟨v4, rfl, hm4⟩; obtain ⟨_, a4, c4, rfl, _⟩ := hm4.rd; have HM4 := Lib.hid hm4; clear hm4)
          | (go_at_call 13; refine (samewrites_yes _ _ L3 (partL L (1 + (Y : Int)) (p : Int)) _ (HM3.out.rd.below HM4.out.2.2) ⟨HM4.out.rd, fun m hm => ((((HV.out.2 m (partL_mem hm)).below HB0.out).below HB.out).below HM3.out.1.2.2).below HM4.out.2.2⟩ (HE3.out.trans (partL_bare HE1.out _ _))).mono ?_; rintro e w5 ⟨rfl, hb5⟩; have HB5 := Lib.hid hb5; clear hb5)
          | fail)
        go_roundw
        case rel => exact ⟨p + 1, by omega, by go_num, Lib.hid (bel_trans (bel_trans (bel_trans HB.out HM3.out.1.2.2) HM4.out.2.2) HB5.out)⟩
        case measure => simp [intOf]; omega
      · obtain rfl : p = Y + 1 := by omega
        have hcnt := cntF_le F (1 + (Y : Int)).toNat
        generalize hcv : cntF F (1 + (Y : Int)).toNat = cn at *
        have hcn : (cn : Int) ≤ 1 + (Y : Int) := by omega
        have hcd : decide ((cn : Int) ≤ 1 + (Y : Int)) = true := by simp only [decide_eq_true_eq]; exact hcn
        clear hcv hcnt
        have hre := HB.out
        go_wp2_with (first
          | (go_at_call 9; refine (home_any ⟨#[97]⟩ 3 _ a_size (by omega)).mono ?_; rintro e w4 ⟨rfl, rfl⟩)
          | (go_at_call 10; refine (refhome_any ⟨#[97]⟩ 3 _ a_size (by omega)).mono ?_; rintro e w4 ⟨rfl, rfl⟩)
          | (go_at_call 16; refine (config_yes _).mono ?_; rintro e w4 ⟨rfl, hb4⟩)
          | fail)
        go_ret
        exact ⟨rfl, bel_trans (bel_trans HB0.out HB.out) hb4⟩
end Go.Proofs.Ytmmilgcbjpbelaa
