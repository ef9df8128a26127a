/- IndexValues (7). -/
import Derived.Test.YtmmilgcbjpbelaaWX
import Derived.Test.YtmmilgcbjpbelaaWT
namespace Go.Proofs.Ytmmilgcbjpbelaa
open Go.RowKit Go.Kt Go.Ix

theorem values_any {F : Nat → Prop} {g : Nat} {D : List (List Pr)} (nm : ByteArray) (w : World) (h : Idx F w g D) (hn : nm.size ≤ maxLen) :
    Calls Try.prog 30 #[.pointer (some ⟨g, 0, none⟩), .string nm] w fun e w' => ∃ v1 v2 L, e = .returned (.tuple #[v1, v2]) ∧ ValsOK nm D L ∧ Own 9 1 w' v1 L.length (strs L) ∧ Own 3 1 w' v2 L.length (ints (cnts nm D L)) ∧ Below w.heap.size w w' := by
  obtain ⟨sv, us, bm, pm, bf, Q, h, _⟩ := h
  cases hf : Q.f (kl nm) with
  | some u => exact values_some nm w h hn hf
  | none =>
    refine (values_none nm w h hn hf).mono ?_
    rintro e w' ⟨rfl, hb⟩
    refine ⟨_, _, [], rfl, ⟨List.Pairwise.nil, fun s => ?_⟩, own_nil _ 9 1, own_nil _ 3 1, hb⟩
    rw [← keys_iff h.posts h.ok nm s]
    constructor
    · intro h; cases h
    · rintro ⟨r, hr⟩
      rw [h.posts.gn _ hf] at hr
      cases hr

set_option maxRecDepth 8000 in
set_option maxHeartbeats 4000000 in
theorem vals_any (v : Value) (SS : List (List Pr)) (nm : ByteArray) (w : World) (hv : RdSets w v SS) (hf : ∀ d ∈ SS, Fit d ∧ d.length ≤ 4398046511104) (hn : nm.size ≤ maxLen) (hg : Glob w) :
    Calls Try.prog 7 #[v, .string nm] w fun e w' => e = .returned (.bool true) ∧ Below w.heap.size w w' := by
  obtain ⟨a, c, rfl, _⟩ := hv.open
  have HV := Lib.hid hv
  have HF := Lib.hid hf
  have HN := Lib.hid hn
  have HG := Lib.hid hg
  clear hv hf hn hg
  go_enter Try.func7, Try.ntmps7
  go_wp2_with (first
    | (go_at_call 17; refine (made_any (.slice a SS.length c) SS _ HV.out HF.out).mono ?_; intro e w1 h1; obtain ⟨g, F, mv, D, rfl, hm, hD⟩ := h1; have HM := Lib.hid hm; have HDl := Lib.hid hD; obtain ⟨us0, hus1, hus2, hus3⟩ := hm.doc.own; obtain ⟨hcla, ma, mc, rfl, hclb⟩ := hus2.rd; clear hm hD hus1 hus2 hus3 hcla hclb us0)
    | fail)
  refine (awake_any _ ((HM.out.glob HG.out).below (below_alloc w1 _))).mono ?_
  rintro e w2 ⟨rfl, hb2⟩
  have HM2 := Lib.hid ((HM.out.next (below_alloc w1 (.cells #[.slice ma D.length mc] 48))).next hb2)
  have HX2 := Lib.hid ((Blk.new w1 #[.slice ma D.length mc] 48).next hb2)
  clear HM hb2
  generalize w1.heap.size = b6 at *
  go_wp2_with (first
    | (go_at_call 30; refine (values_any nm _ HM2.out.idx HN.out).mono ?_; intro e w3 h3; obtain ⟨v1, v2, L, rfl, hL, ho1, ho2, hb3⟩ := h3; have HL := Lib.hid hL; have HO1 := Lib.hid ho1; have HO2 := Lib.hid ho2; have HM3 := Lib.hid (HM2.out.next hb3); have HX3 := Lib.hid (HX2.out.next hb3); obtain ⟨hcl1, a1, c1, rfl, hcl2⟩ := ho1.rd; obtain ⟨hcl3, a2, c2, rfl, hcl4⟩ := ho2.rd; clear hcl1 hcl2 hcl3 hcl4 hL ho1 ho2 hb3; have x6 : w3.cell? ⟨b6, 0, none⟩ = some (.slice ma D.length mc) := HX3.out.cell 0; have hx6 := HX3.out.lt)
    | (go_at_call 31; refine (refvalues_any (.slice ma D.length mc) nm D _ (HM3.out.doc.rd HM3.out.bel) HM3.out.idx.ok.1 (by have := HDl.out; omega)).mono ?_; intro e w4 h4; obtain ⟨v3, v4, L2, rfl, hL2, ho3, ho4, hb4⟩ := h4; obtain rfl := vals_unique HL.out hL2; have HO3 := Lib.hid ho3; have HO4 := Lib.hid ho4; have HB4 := Lib.hid (bel_trans HM3.out.bel hb4); have HO1b := Lib.hid (HO1.out.below' hb4); have HO2b := Lib.hid (HO2.out.below' hb4); obtain ⟨hcl1, a3, c3, rfl, hcl2⟩ := ho3.rd; obtain ⟨hcl3, a4, c4, rfl, hcl4⟩ := ho4.rd; clear hcl1 hcl2 hcl3 hcl4 hL2 ho3 ho4 hb4)
    | fail)
  have hn2 : RdN w4 (.slice a2 L.length c2) (cnts nm D L) := by unfold RdN; rw [cnts_len]; exact HO2b.out.rd
  have hn4 : RdN w4 (.slice a4 L.length c4) (cnts nm D L) := by unfold RdN; rw [cnts_len]; exact HO4.out.rd
  refine (sameints_yes (.slice a2 L.length c2) (.slice a4 L.length c4) (cnts nm D L) _ hn2 hn4).mono ?_
  rintro e w5 ⟨rfl, t5, rfl⟩
  have hc1 : ∀ (j : Nat) s, L[j]? = some s → ∃ b o, a1 = some ⟨b, o, none⟩ ∧ w4.cell? ⟨b, o + j, none⟩ = some (.string s) := fun j s hj => by
    obtain ⟨_, a', c', e, _, _, _, hcell⟩ := HO1b.out.rd
    cases e
    exact hcell j _ (by simp [strs, hj])
  have hc3 : ∀ (j : Nat) s, L[j]? = some s → ∃ b o, a3 = some ⟨b, o, none⟩ ∧ w4.cell? ⟨b, o + j, none⟩ = some (.string s) := fun j s hj => by
    obtain ⟨_, a', c', e, _, _, _, hcell⟩ := HO3.out.rd
    cases e
    exact hcell j _ (by simp [strs, hj])
  have Hc1 := Lib.hid hc1
  have Hc3 := Lib.hid hc3
  have hlen : L.length ≤ 9223372036854775807 := by
    obtain ⟨_, a', c', e, h1, h2, _⟩ := HO1b.out.rd
    unfold maxLen at h2
    omega
  clear hn2 hn4 hc1 hc3
  go_wp2_with fail
  go_loopw [12, 50] (fun _ i wr => ∃ k t : Nat, k ≤ L.length ∧ i = .int .i64 k ∧ wr = w4.drewN t) (fun _ i _ => L.length - (intOf i).toNat)
  case atStart => exact ⟨0, t5, by omega, rfl, rfl⟩
  case round =>
    obtain ⟨k, t, hk, rfl, rfl⟩ := hrel
    by_cases hlt : k < L.length
    · obtain ⟨s, hs⟩ : ∃ x, L[k]? = some x := ⟨L[k], List.getElem?_eq_getElem hlt⟩
      obtain ⟨b1, o1, rfl, k1⟩ := Hc1.out k s hs
      obtain ⟨b3, o3, rfl, k3⟩ := Hc3.out k s hs
      have hk1 : (0 : Int) ≤ (k : Int) := by omega
      have hk2 : (k : Int) < (L.length : Int) := by omega
      clear hs
      go_wp2_with fail
      go_quiet (fail)
      go_wp2_with fail
      go_roundw
      case rel => exact ⟨k + 1, _, by omega, by go_num, rfl⟩
      case measure => simp [intOf]; omega
    · obtain rfl : k = L.length := by omega
      go_wp2_with fail
      go_ret
      exact ⟨rfl, bel_drewN HB4.out _⟩
end Go.Proofs.Ytmmilgcbjpbelaa
