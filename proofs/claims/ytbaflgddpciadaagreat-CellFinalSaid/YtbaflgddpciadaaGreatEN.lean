/- The document's first example, in plain. Awake (15). Commands that came in. -/
import Derived.Test.YtbaflgddpciadaaGreatEK
import Derived.Test.YtbaflgddpciadaaGreatSQ
import Derived.Test.YtbaflgddpciadaaGreatKtU
import Derived.Lib.SmallJoins
import Derived.HandedShaped
import Derived.Shelf.Vars
import Derived.Deep.SlicePairs
set_option linter.unusedVariables false
set_option linter.unusedSimpArgs false
namespace Go.Proofs.YtbaflgddpciadaaGreat
open Go.RowKit Go.Kt Go.Ix Go.Sx Go.Cx
set_option maxRecDepth 100000
def aww : Wp := ⟨[], 3, 1, 4, ⟨#[]⟩⟩
def awk : ByteArray := ⟨#[116]⟩
theorem aw_right : RightWp aww := ⟨⟨by decide, fun i h => by simp [aww] at h⟩, (by show (0 : Int) ≤ 3; decide), (by show (3 : Int) ≤ 4611686018427387904; decide), by decide⟩
theorem aw_batch : Batch [aww] := ⟨by decide, by decide, fun w hw => by rw [List.mem_singleton.1 hw]; exact aw_right, List.pairwise_singleton _ _⟩
theorem aw_token : Token awk := ⟨by decide, by decide, fun i h => by
  have h1 : i = 0 := by have h' : i < 1 := h; omega
  subst h1
  show tokAt 116
  exact ⟨by decide, by decide⟩⟩
def aw1 : Cl := { newC 0 with book := [⟨awk, 1, 1, t0, [aww]⟩] }
def aw2 : Cl := { aw1 with deeds := [⟨1, 1, ⟨5, 0, 1⟩, [aww]⟩] }
def aw3 : Cl := { aw2 with closed := ⟨9, 0, 4294967295⟩ }
def aw4 : Cl := { aw3 with deeds := [⟨1, 2, ⟨5, 0, 1⟩, []⟩], M := [⟨[], 3, [⟨⟨5, 0, 1⟩, 1, 4, ⟨#[]⟩⟩]⟩] }
def awm1 : Cmd := ⟨1, 0, t0, false, awk, 0, 0, [aww]⟩
def awm2 : Cmd := ⟨3, 1, ⟨5, 0, 0⟩, false, ⟨#[]⟩, 0, 0, [aww]⟩
def awm3 : Cmd := ⟨5, 0, ⟨9, 0, 0⟩, false, ⟨#[]⟩, 0, 0, []⟩
def awm4 : Cmd := ⟨4, 1, ⟨5, 0, 1⟩, true, ⟨#[]⟩, 0, 0, []⟩
theorem aw_do1 : doC (newC 0) awm1 = (⟨0, 1, 1, t0⟩, aw1) := by
  have h := begin_new (C := newC 0) (m := awm1) ⟨aw_token, aw_batch⟩ (fun x hx => by cases hx) (by decide)
  have h2 : doC (newC 0) awm1 = beginC (newC 0) awm1 := by unfold doC; simp [awm1]
  rw [h2, h]
  rfl
theorem aw_do2 : doC aw1 awm2 = (⟨0, 1, 1, ⟨5, 0, 1⟩⟩, aw2) := by
  have h2 : doC aw1 awm2 = prepareC aw1 awm2 := by unfold doC; simp [awm2]
  have hs : stampC aw1 awm2 = some ⟨5, 0, 1⟩ := by
    unfold stampC
    rw [if_pos (.inl (by decide))]
    rfl
  have h := prep_new (C := aw1) (m := awm2) rfl (fun h => by
    rcases h with h | h | h
    · exact absurd h (by decide)
    · exact h aw_batch
    · exact h (by decide)) (by decide) hs
  rw [h2, h]
  rfl
theorem aw_do3 : doC aw2 awm3 = (⟨0, 0, 0, ⟨9, 0, 4294967295⟩⟩, aw3) := by
  have h2 : doC aw2 awm3 = closeC aw2 awm3 := by unfold doC closeC; simp [awm3]
  have hm : mostT aw2.closed (lastT awm3.at_) = ⟨9, 0, 4294967295⟩ := by
    unfold mostT
    rw [if_pos (.inl (by decide))]
    rfl
  rw [h2]
  unfold closeC
  rw [if_neg (fun h => h (by decide)), hm]
  rfl
theorem aw_read1 : readE aw3 true 0 9 ⟨7, 0, 0⟩ = 102 := by decide
theorem aw_put : putP [] aww ⟨5, 0, 1⟩ = (0, [⟨[], 3, [⟨⟨5, 0, 1⟩, 1, 4, ⟨#[]⟩⟩]⟩]) := by
  unfold putP
  rw [if_neg (by rw [pb_yes aw_right]; simp), if_neg (by rw [lenL_nil]; omega)]
  have hc : putC [] ⟨⟨5, 0, 1⟩, aww.k, aww.n, aww.x⟩ = (0, [⟨⟨5, 0, 1⟩, 1, 4, ⟨#[]⟩⟩]) := by
    unfold putC
    rw [if_neg (fun h => h (by decide)), if_neg (by simp [has])]
    rfl
  have ha : atL ([] : Its) aww.st aww.t = [] := rfl
  unfold putL
  rw [ha, hc]
  rfl
theorem aw_do4 : doC aw3 awm4 = (⟨0, 1, 2, ⟨5, 0, 1⟩⟩, aw4) := by
  have h2 : doC aw3 awm4 = resolveC aw3 awm4 := by unfold doC; simp [awm4]
  have h := res_fin (C := aw3) (m := awm4) (d := ⟨1, 1, ⟨5, 0, 1⟩, [aww]⟩) (ok := true) (.inl ⟨rfl, rfl⟩) (fun _ => rfl) (by decide) (fun h => by cases h.1) (fun h => by cases h.1) (fun h => by
    rcases h.2 with h | h
    · exact h ⟨by decide, rfl⟩
    · exact Tm.irr _ h)
  rw [h2, h]
  unfold resZ
  have hl : layC aw3.hor awm4.at_ aw3.M [aww] = [⟨[], 3, [⟨⟨5, 0, 1⟩, 1, 4, ⟨#[]⟩⟩]⟩] := by
    show (if aw3.hor ≤ aww.t then (putP aw3.M aww awm4.at_).2 else aw3.M) = _
    rw [if_pos (by decide)]
    exact congrArg Prod.snd aw_put
  rw [if_pos (show awm4.yes = true from rfl)]
  simp only
  rw [hl]
  rfl
theorem aw_read2 : readE aw4 true 0 9 ⟨7, 0, 0⟩ = 0 := by decide
theorem aw_scan : scanL aw4.M (fun d => allB [] d) 0 9 ⟨7, 0, 0⟩ = [([], 3, ⟨⟨5, 0, 1⟩, 1, 4, ⟨#[]⟩⟩)] := by
  have hg : getC [⟨⟨5, 0, 1⟩, 1, 4, ⟨#[]⟩⟩] ⟨7, 0, 0⟩ = some ⟨⟨5, 0, 1⟩, 1, 4, ⟨#[]⟩⟩ := by simp [getC, upto, Tm.lt]
  simp [scanL, aw4, tell, hg, allB]
end Go.Proofs.YtbaflgddpciadaaGreat
set_option linter.unusedVariables false
set_option linter.unusedSimpArgs false
namespace Go.Proofs.YtbaflgddpciadaaGreat
open Go.RowKit Go.Kt Go.Ix Go.Sx Go.Cx
set_option maxRecDepth 100000
variable {S : Nat → Prop} {w w' : World} {c N : Nat} {C : Cl}
def awx : Wr := ⟨[], 3, 1, 4, ⟨#[]⟩, .slice none 0 0⟩
theorem rdp_nil (W : World) : RdP W (.slice none 0 0) [] := (own_nil W 104 2).rd
theorem rdw_awx {W : World} {v : Value} (h : Kt.Own 87 5 W v 1 (flatW [awx])) : RdW W v [awx] := ⟨h.rd, fun m hm => by rw [List.mem_singleton.1 hm]; exact rdp_nil W⟩
theorem cmdr_awx {W : World} {v : Value} {m : Cmd} (h : Kt.Own 87 5 W v 1 (flatW [awx])) (hw : m.ws = [aww]) (ht : m.token.size ≤ maxLen) (hk : CmdOk m) : CmdR W m v [awx] :=
  ⟨rdw_awx h, by rw [hw]; rfl, by decide, fun x hx => by rw [List.mem_singleton.1 hx]; exact ⟨fun q hq => by simp [awx] at hq, by decide⟩, fun x hx => by rw [List.mem_singleton.1 hx]; decide, ht, hk⟩
theorem cmdr_nil {W : World} {m : Cmd} (hw : m.ws = []) (ht : m.token.size ≤ maxLen) (hk : CmdOk m) : CmdR W m (.slice none 0 0) [] :=
  ⟨⟨(own_nil W 87 5).rd, fun m hm => by cases hm⟩, by rw [hw]; rfl, by decide, (fun x hx => by cases hx), (fun x hx => by cases hx), ht, hk⟩
theorem rdr_nil (W : World) : RdR W (.slice none 0 0) [] := (own_nil W 164 3).rd
theorem aw_ok (m : Cmd) (h : (0 ≤ m.deed ∧ m.deed ≤ 4294967295) ∧ (0 ≤ m.at_.tick ∧ m.at_.tick ≤ 4294967295) ∧ (0 ≤ m.at_.mark ∧ m.at_.mark ≤ 4294967295)) : CmdOk m := ⟨h.1.1, h.1.2, h.2.1.1, h.2.1.2, h.2.2.1, h.2.2.2⟩
/-- a read of a cell that holds S -/
theorem cel_read (h : Cel S w c C N) (hN : N ≤ 1000000) (rv : Value) (rules : List Rl) (hr : RdR w rv rules) (hf : FitR rules) (hg : Glob w) (fr to_ : Int) (t : Tm) :
    Calls Tryz.prog 20 #[.pointer (some ⟨c, 0, none⟩), rv, .int .i64 fr, .int .i64 to_, t.val] w fun e w' => ReadPost w C rules fr to_ t e w' := by
  obtain ⟨p, F, hp, -⟩ := h.at_
  exact read_any w hp hN rv rules hr hf hg fr to_ t
theorem rightR_nil : RightR [] := ⟨by decide, fun r hr => by cases hr⟩
theorem fitR_nil : FitR [] := fun r hr => by cases hr
set_option maxHeartbeats 8000000 in
theorem awake_any (w : World) (hg : Glob w) : Calls Tryz.prog 15 #[] w fun e w' => e = .returned (.bool true) ∧ Below w.heap.size w w' := by
  have HG := Lib.hid hg
  clear hg
  go_enter Tryz.func15, Tryz.ntmps15
  have HNw := Lib.hid (new_cel 0 ⟨by decide, by decide⟩ w)
  go_upto_region 4 with (first
    | (go_at_call 14; refine HNw.out.mono ?_; rintro e w1 ⟨c, S0, rfl, hc, hS, hb⟩; have HC0 := Lib.hid hc; have HS0 := Lib.hid hS; have HB1 := Lib.hid hb; clear hc hS hb)
    | fail)
  go_upto_region 5 with fail
  have HO2 : Hid (Kt.Own 87 5 (w1.alloc (.cells #[.slice none 0 0, .int .i64 3, .int .i64 1, .int .i64 4, .string ⟨#[]⟩] 87)) (.slice (some ⟨w1.heap.size, 0, none⟩) 1 1) 1 (flatW [awx])) := Lib.hid (own_lit w1 87 5 #[.slice none 0 0, .int .i64 3, .int .i64 1, .int .i64 4, .string ⟨#[]⟩] 1 (by decide) rfl)
  have HB2 := Lib.hid (below_alloc w1 (.cells #[.slice none 0 0, .int .i64 3, .int .i64 1, .int .i64 4, .string ⟨#[]⟩] 87))
  have HgS0 : Hid (¬ S0 w1.heap.size) := Lib.hid (fun e => by have := HC0.out.lt _ e; omega)
  generalize w1.alloc (.cells #[.slice none 0 0, .int .i64 3, .int .i64 1, .int .i64 4, .string ⟨#[]⟩] 87) = w2 at HO2 HB2 ⊢
  generalize hv : w1.heap.size = bv at HO2 HgS0 ⊢
  have HC1 := Lib.hid (HC0.out.next HB2.out)
  have HD1 : Hid (Calls Tryz.prog 17 #[.pointer (some ⟨c, 0, none⟩), .agg #[.int .i64 1, .int .u32 0, .int .i64 0, .int .u32 0, .int .u32 0, .bool false, .string ⟨#[116]⟩, .int .i64 0, .int .i64 0, .slice (some ⟨bv, 0, none⟩) 1 1]] w2 fun e w' => e = .returned (.agg #[.int .i64 0, .int .u32 1, .int .i64 1, .int .i64 0, .int .u32 0, .int .u32 0]) ∧ ∃ S', Cel S' w' c (doC (newC 0) awm1).2 (0 + 64) ∧ (∀ x, S' x → S0 x ∨ w2.heap.size ≤ x) ∧ Turn S0 w2 w') := Lib.hid ((do_any awm1 _ _ w2 HC1.out (cmdr_awx HO2.out rfl (by decide) (aw_ok _ (by decide))) (by omega) (by decide) ⟨by decide, by decide⟩).mono (fun e w' h => ⟨by rw [h.1, aw_do1]; rfl, h.2⟩))
  have HO0 := HO2
  have HG0 : Hid (0 < w.heap.size) := Lib.hid (by obtain ⟨m, hm⟩ := HG.out; exact World.block_lt_of_cell? w _ hm)
  have HGe0 : Hid (∀ x, S0 x → w.heap.size ≤ x) := HS0
  have HTT0 : Hid (Turn (fun x => w.heap.size ≤ x) w w2) := Lib.hid (Turn.of (bel_trans HB1.out HB2.out))
  have Hbv0 : Hid (¬ S0 bv ∧ bv < w2.heap.size) := Lib.hid ⟨HgS0.out, by have := HO2.out.lt bv rfl; exact this⟩
  go_upto_region 6 with (first
    | (go_at_call 17; refine (HD1.out).mono ?_; rintro e w3 ⟨rfl, S1, hS1, hSs1, ht1⟩; rw [aw_do1] at hS1; have HS1 := Lib.hid hS1; have HSs1 := Lib.hid hSs1; have HT1 := Lib.hid ht1; clear hS1 hSs1 ht1)
    | fail)
  have HGe1 : Hid (∀ x, S1 x → w.heap.size ≤ x) := Lib.hid (fun x hx => by
    rcases HSs1.out x hx with h | h
    · exact HGe0.out x h
    · exact Nat.le_trans HTT0.out.size h)
  have HTTc1 : Hid (Turn (fun x => w.heap.size ≤ x) w w3) := Lib.hid (HTT0.out.trans HT1.out (fun x hx => .inl (HGe0.out x hx)))
  have HOc1 := Lib.hid (own_keep HT1.out HO0.out (fun b e h2 => Hbv0.out.1 (by have e2 : bv = b := (by simpa [Value.ownBlock] using e); rw [e2]; exact h2)))
  have Hbvc1 : Hid (¬ S1 bv) := Lib.hid (fun e => by
    rcases HSs1.out _ e with h | h
    · exact Hbv0.out.1 h
    · have := Hbv0.out.2; omega)
  have HA1 := Lib.hid (below_alloc w3 (.cells #[.int .i64 0, .int .u32 1, .int .i64 1, .int .i64 0, .int .u32 0, .int .u32 0] 46))
  have HK1b4' := Lib.hid (Blk.new w3 #[.int .i64 0, .int .u32 1, .int .i64 1, .int .i64 0, .int .u32 0, .int .u32 0] 46)
  have HN1b4' : Hid (¬ S1 w3.heap.size) := Lib.hid (fun e => by have := HS1.out.lt _ e; omega)
  generalize w3.alloc (.cells #[.int .i64 0, .int .u32 1, .int .i64 1, .int .i64 0, .int .u32 0, .int .u32 0] 46) = w4 at HA1 HK1b4' ⊢
  generalize w3.heap.size = b4 at HK1b4' HN1b4' ⊢
  have HK1b4 := HK1b4'
  have HN1b4 := HN1b4'
  have HC2 := Lib.hid (HS1.out.next HA1.out)
  have HTT1 := Lib.hid (HTTc1.out.next HA1.out)
  have HO1 := Lib.hid (HOc1.out.below' HA1.out)
  have Hbv1 : Hid (¬ S1 bv ∧ bv < w4.heap.size) := Lib.hid ⟨Hbvc1.out, Nat.lt_of_lt_of_le Hbv0.out.2 (Nat.le_trans HT1.out.size HA1.out.size)⟩
  have HD2 : Hid (Calls Tryz.prog 17 #[.pointer (some ⟨c, 0, none⟩), .agg #[.int .i64 3, .int .u32 1, .int .i64 5, .int .u32 0, .int .u32 0, .bool false, .string ⟨#[]⟩, .int .i64 0, .int .i64 0, .slice (some ⟨bv, 0, none⟩) 1 1]] w4 fun e w' => e = .returned (.agg #[.int .i64 0, .int .u32 1, .int .i64 1, .int .i64 5, .int .u32 0, .int .u32 1]) ∧ ∃ S', Cel S' w' c (doC aw1 awm2).2 ((0 + 64) + 64) ∧ (∀ x, S' x → S1 x ∨ w4.heap.size ≤ x) ∧ Turn S1 w4 w') := Lib.hid ((do_any awm2 _ _ w4 HC2.out (cmdr_awx HO1.out rfl (by decide) (aw_ok _ (by decide))) (by omega) (by decide) ⟨by decide, by decide⟩).mono (fun e w' h => ⟨by rw [h.1, aw_do2]; rfl, h.2⟩))
  go_upto_region 7 with (first
    | (go_at_call 17; refine (HD2.out).mono ?_; rintro e w5 ⟨rfl, S2, hS2, hSs2, ht2⟩; rw [aw_do2] at hS2; have HS2 := Lib.hid hS2; have HSs2 := Lib.hid hSs2; have HT2 := Lib.hid ht2; clear hS2 hSs2 ht2)
    | fail)
  have HGe2 : Hid (∀ x, S2 x → w.heap.size ≤ x) := Lib.hid (fun x hx => by
    rcases HSs2.out x hx with h | h
    · exact HGe1.out x h
    · exact Nat.le_trans HTT1.out.size h)
  have HTTc2 : Hid (Turn (fun x => w.heap.size ≤ x) w w5) := Lib.hid (HTT1.out.trans HT2.out (fun x hx => .inl (HGe1.out x hx)))
  have HOc2 := Lib.hid (own_keep HT2.out HO1.out (fun b e h2 => Hbv1.out.1 (by have e2 : bv = b := (by simpa [Value.ownBlock] using e); rw [e2]; exact h2)))
  have Hbvc2 : Hid (¬ S2 bv) := Lib.hid (fun e => by
    rcases HSs2.out _ e with h | h
    · exact Hbv1.out.1 h
    · have := Hbv1.out.2; omega)
  have HKc2b4 := Lib.hid (blk_keep HT2.out HK1b4.out HN1b4.out)
  have HNc2b4 : Hid (¬ S2 b4) := Lib.hid (fun e => by
    rcases HSs2.out _ e with h | h
    · exact HN1b4.out h
    · have := HK1b4.out.lt; omega)
  have HA2 := Lib.hid (below_alloc w5 (.cells #[.int .i64 0, .int .u32 1, .int .i64 1, .int .i64 5, .int .u32 0, .int .u32 1] 46))
  have HK2b5' := Lib.hid (Blk.new w5 #[.int .i64 0, .int .u32 1, .int .i64 1, .int .i64 5, .int .u32 0, .int .u32 1] 46)
  have HN2b5' : Hid (¬ S2 w5.heap.size) := Lib.hid (fun e => by have := HS2.out.lt _ e; omega)
  generalize w5.alloc (.cells #[.int .i64 0, .int .u32 1, .int .i64 1, .int .i64 5, .int .u32 0, .int .u32 1] 46) = w6 at HA2 HK2b5' ⊢
  generalize w5.heap.size = b5 at HK2b5' HN2b5' ⊢
  have HK2b5 := HK2b5'
  have HN2b5 := HN2b5'
  have HC3 := Lib.hid (HS2.out.next HA2.out)
  have HTT2 := Lib.hid (HTTc2.out.next HA2.out)
  have HO2 := Lib.hid (HOc2.out.below' HA2.out)
  have Hbv2 : Hid (¬ S2 bv ∧ bv < w6.heap.size) := Lib.hid ⟨Hbvc2.out, Nat.lt_of_lt_of_le Hbv1.out.2 (Nat.le_trans HT2.out.size HA2.out.size)⟩
  have HK2b4 := Lib.hid (HKc2b4.out.next HA2.out)
  have HN2b4 := HNc2b4
  have HD3 : Hid (Calls Tryz.prog 17 #[.pointer (some ⟨c, 0, none⟩), .agg #[.int .i64 5, .int .u32 0, .int .i64 9, .int .u32 0, .int .u32 0, .bool false, .string ⟨#[]⟩, .int .i64 0, .int .i64 0, .slice none 0 0]] w6 fun e w' => e = .returned (.agg #[.int .i64 0, .int .u32 0, .int .i64 0, .int .i64 9, .int .u32 0, .int .u32 4294967295]) ∧ ∃ S', Cel S' w' c (doC aw2 awm3).2 ((0 + 64 + 64) + 64) ∧ (∀ x, S' x → S2 x ∨ w6.heap.size ≤ x) ∧ Turn S2 w6 w') := Lib.hid ((do_any awm3 _ _ w6 HC3.out (cmdr_nil rfl (by decide) (aw_ok _ (by decide))) (by omega) (by decide) ⟨by decide, by decide⟩).mono (fun e w' h => ⟨by rw [h.1, aw_do3]; rfl, h.2⟩))
  go_upto_region 8 with (first
    | (go_at_call 17; refine (HD3.out).mono ?_; rintro e w7 ⟨rfl, S3, hS3, hSs3, ht3⟩; rw [aw_do3] at hS3; have HS3 := Lib.hid hS3; have HSs3 := Lib.hid hSs3; have HT3 := Lib.hid ht3; clear hS3 hSs3 ht3)
    | fail)
  have HGe3 : Hid (∀ x, S3 x → w.heap.size ≤ x) := Lib.hid (fun x hx => by
    rcases HSs3.out x hx with h | h
    · exact HGe2.out x h
    · exact Nat.le_trans HTT2.out.size h)
  have HTTc3 : Hid (Turn (fun x => w.heap.size ≤ x) w w7) := Lib.hid (HTT2.out.trans HT3.out (fun x hx => .inl (HGe2.out x hx)))
  have HKc3b4 := Lib.hid (blk_keep HT3.out HK2b4.out HN2b4.out)
  have HNc3b4 : Hid (¬ S3 b4) := Lib.hid (fun e => by
    rcases HSs3.out _ e with h | h
    · exact HN2b4.out h
    · have := HK2b4.out.lt; omega)
  have HKc3b5 := Lib.hid (blk_keep HT3.out HK2b5.out HN2b5.out)
  have HNc3b5 : Hid (¬ S3 b5) := Lib.hid (fun e => by
    rcases HSs3.out _ e with h | h
    · exact HN2b5.out h
    · have := HK2b5.out.lt; omega)
  have HC4 := HS3
  have HTT3 := HTTc3
  have HK3b4 := HKc3b4
  have HN3b4 := HNc3b4
  have HK3b5 := HKc3b5
  have HN3b5 := HNc3b5
  have HR1 : Hid (Calls Tryz.prog 20 #[.pointer (some ⟨c, 0, none⟩), .slice none 0 0, .int .i64 0, .int .i64 9, .agg #[.int .i64 7, .int .u32 0, .int .u32 0]] w7 fun e w' => ∃ v Q, e = .returned (.tuple #[v, .int .i64 102]) ∧ Pts 142 104 w7 w' v Q ∧ Q.map Pn.told = (if (102 : Int) = 0 then scanL aw3.M (fun d => allB [] d) 0 9 ⟨7, 0, 0⟩ else []) ∧ Below w7.heap.size w7 w') := Lib.hid ((cel_read HC4.out (by omega) _ [] (rdr_nil _) fitR_nil (HG.out.turn HTT3.out (fun h => absurd h (by have := HG0.out; omega))) 0 9 ⟨7, 0, 0⟩).mono (fun e w' ⟨v, Q, er, h1, h2, h3, h4, h5⟩ => by
    have he : er = 102 := by rw [h2 true ⟨fun _ => rightR_nil, fun _ => rfl⟩]; exact aw_read1
    subst he
    exact ⟨v, Q, h1, h3, h4, h5⟩))
  go_upto_region 9 with (first
    | (go_at_call 20; refine HR1.out.mono ?_; rintro e w8 ⟨v8, Q8, rfl, hp8, -, hb8⟩; obtain ⟨-, a8, c8, hv8, -⟩ := hp8.row.1.rd; subst hv8; have HB8 := Lib.hid hb8; clear hp8 hb8)
    | fail)
  have HC4' := Lib.hid (HC4.out.next HB8.out)
  have HTT3' := Lib.hid (HTT3.out.next HB8.out)
  have HK3b4' := Lib.hid (HK3b4.out.next HB8.out)
  have HK3b5' := Lib.hid (HK3b5.out.next HB8.out)
  clear HC4 HTT3 HK3b4 HK3b5
  have HC4 := HC4'
  have HTT3 := HTT3'
  have HK3b4 := HK3b4'
  have HK3b5 := HK3b5'
  have y3 : w8.cell? ⟨b5, 3, none⟩ = some (.int .i64 5) := HK3b5.out.cell 3
  have y4 : w8.cell? ⟨b5, 4, none⟩ = some (.int .u32 0) := HK3b5.out.cell 4
  have y5 : w8.cell? ⟨b5, 5, none⟩ = some (.int .u32 1) := HK3b5.out.cell 5
  have HD4 : Hid (Calls Tryz.prog 17 #[.pointer (some ⟨c, 0, none⟩), .agg #[.int .i64 4, .int .u32 1, .int .i64 5, .int .u32 0, .int .u32 1, .bool true, .string ⟨#[]⟩, .int .i64 0, .int .i64 0, .slice none 0 0]] w8 fun e w' => e = .returned (.agg #[.int .i64 0, .int .u32 1, .int .i64 2, .int .i64 5, .int .u32 0, .int .u32 1]) ∧ ∃ S', Cel S' w' c (doC aw3 awm4).2 ((0 + 64 + 64 + 64) + 64) ∧ (∀ x, S' x → S3 x ∨ w8.heap.size ≤ x) ∧ Turn S3 w8 w') := Lib.hid ((do_any awm4 _ _ w8 HC4.out (cmdr_nil rfl (by decide) (aw_ok _ (by decide))) (by omega) (by decide) ⟨by decide, by decide⟩).mono (fun e w' h => ⟨by rw [h.1, aw_do4]; rfl, h.2⟩))
  go_upto_region 10 with (first
    | (go_at_call 17; refine (HD4.out).mono ?_; rintro e w9 ⟨rfl, S4, hS4, hSs4, ht4⟩; rw [aw_do4] at hS4; have HS4 := Lib.hid hS4; have HSs4 := Lib.hid hSs4; have HT4 := Lib.hid ht4; clear hS4 hSs4 ht4)
    | fail)
  clear y3 y4 y5
  have HGe4 : Hid (∀ x, S4 x → w.heap.size ≤ x) := Lib.hid (fun x hx => by
    rcases HSs4.out x hx with h | h
    · exact HGe3.out x h
    · exact Nat.le_trans HTT3.out.size h)
  have HTTc4 : Hid (Turn (fun x => w.heap.size ≤ x) w w9) := Lib.hid (HTT3.out.trans HT4.out (fun x hx => .inl (HGe3.out x hx)))
  have HKc4b4 := Lib.hid (blk_keep HT4.out HK3b4.out HN3b4.out)
  have HNc4b4 : Hid (¬ S4 b4) := Lib.hid (fun e => by
    rcases HSs4.out _ e with h | h
    · exact HN3b4.out h
    · have := HK3b4.out.lt; omega)
  have HKc4b5 := Lib.hid (blk_keep HT4.out HK3b5.out HN3b5.out)
  have HNc4b5 : Hid (¬ S4 b5) := Lib.hid (fun e => by
    rcases HSs4.out _ e with h | h
    · exact HN3b5.out h
    · have := HK3b5.out.lt; omega)
  have HA4 := Lib.hid (below_alloc w9 (.cells #[.int .i64 0, .int .u32 1, .int .i64 2, .int .i64 5, .int .u32 0, .int .u32 1] 46))
  have HK4b8' := Lib.hid (Blk.new w9 #[.int .i64 0, .int .u32 1, .int .i64 2, .int .i64 5, .int .u32 0, .int .u32 1] 46)
  have HN4b8' : Hid (¬ S4 w9.heap.size) := Lib.hid (fun e => by have := HS4.out.lt _ e; omega)
  generalize w9.alloc (.cells #[.int .i64 0, .int .u32 1, .int .i64 2, .int .i64 5, .int .u32 0, .int .u32 1] 46) = w10 at HA4 HK4b8' ⊢
  generalize w9.heap.size = b8 at HK4b8' HN4b8' ⊢
  have HK4b8 := HK4b8'
  have HN4b8 := HN4b8'
  have HC5 := Lib.hid (HS4.out.next HA4.out)
  have HTT4 := Lib.hid (HTTc4.out.next HA4.out)
  have HK4b4 := Lib.hid (HKc4b4.out.next HA4.out)
  have HN4b4 := HNc4b4
  have HK4b5 := Lib.hid (HKc4b5.out.next HA4.out)
  have HN4b5 := HNc4b5
  have HR2 : Hid (Calls Tryz.prog 20 #[.pointer (some ⟨c, 0, none⟩), .slice none 0 0, .int .i64 0, .int .i64 9, .agg #[.int .i64 7, .int .u32 0, .int .u32 0]] w10 fun e w' => ∃ v Q, e = .returned (.tuple #[v, .int .i64 0]) ∧ Pts 142 104 w10 w' v Q ∧ Q.map Pn.told = (if (0 : Int) = 0 then scanL aw4.M (fun d => allB [] d) 0 9 ⟨7, 0, 0⟩ else []) ∧ Below w10.heap.size w10 w') := Lib.hid ((cel_read HC5.out (by omega) _ [] (rdr_nil _) fitR_nil (HG.out.turn HTT4.out (fun h => absurd h (by have := HG0.out; omega))) 0 9 ⟨7, 0, 0⟩).mono (fun e w' ⟨v, Q, er, h1, h2, h3, h4, h5⟩ => by
    have he : er = 0 := by rw [h2 true ⟨fun _ => rightR_nil, fun _ => rfl⟩]; exact aw_read2
    subst he
    exact ⟨v, Q, h1, h3, h4, h5⟩))
  go_upto_region 11 with (first
    | (go_at_call 20; refine HR2.out.mono ?_; rintro e w11 ⟨v11, Q11, rfl, hp11, hq11, hb11⟩; have HP11 := Lib.hid hp11; have HQ11 := Lib.hid hq11; have HB11 := Lib.hid hb11; obtain ⟨-, a11, c11, hv11, -⟩ := hp11.row.1.rd; subst hv11; clear hp11 hq11 hb11)
    | fail)
  have hq : Q11.map Pn.told = [([], 3, ⟨⟨5, 0, 1⟩, 1, 4, ⟨#[]⟩⟩)] := by rw [HQ11.out]; simp [aw_scan]
  have hl1 : Q11.length = 1 := (by have := congrArg List.length hq; simpa using this)
  obtain ⟨q, rfl⟩ := List.length_eq_one_iff.1 hl1
  have hq0 : q.told = ([], 3, ⟨⟨5, 0, 1⟩, 1, 4, ⟨#[]⟩⟩) := by simpa using hq
  have hnum : q.v.num = 4 := by have := congrArg (fun z => z.2.2.num) hq0; exact this
  have hrn : RdN w11 (.slice a11 1 c11) [q] := ⟨HP11.out.row.1.rd, fun x hx => (HP11.out.sets x hx).1.rd⟩
  obtain ⟨gb, go, ha, hgb, k0, k1, k2, k3, -⟩ := RdN.get hrn (i := 0) rfl
  subst ha
  have k3' : w11.cell? ⟨gb, go + 3, none⟩ = some (.int .i64 4) := by rw [← hnum]; simpa using k3
  have HE := Lib.hid (Turn.bel (HTT4.out.next HB11.out) (Nat.le_refl _) (fun x hx => hx))
  have m1 : w11.cell? ⟨b4, 1, none⟩ = some (.int .u32 1) := (HK4b4.out.next HB11.out).cell 1
  have m2 : w11.cell? ⟨b4, 2, none⟩ = some (.int .i64 1) := (HK4b4.out.next HB11.out).cell 2
  have n3 : w11.cell? ⟨b5, 3, none⟩ = some (.int .i64 5) := (HK4b5.out.next HB11.out).cell 3
  have n4 : w11.cell? ⟨b5, 4, none⟩ = some (.int .u32 0) := (HK4b5.out.next HB11.out).cell 4
  have n5 : w11.cell? ⟨b5, 5, none⟩ = some (.int .u32 1) := (HK4b5.out.next HB11.out).cell 5
  have o2 : w11.cell? ⟨b8, 2, none⟩ = some (.int .i64 2) := (HK4b8.out.next HB11.out).cell 2
  clear hq hq0 hnum hrn hl1 k0 k1 k2 k3
  go_wp2_with fail
  go_ret
  exact ⟨rfl, HE.out⟩
end Go.Proofs.YtbaflgddpciadaaGreat
set_option linter.unusedVariables false
set_option linter.unusedSimpArgs false
namespace Go.Proofs.YtbaflgddpciadaaGreat
open Go.RowKit Go.Kt Go.Ix Go.Sx Go.Cx Go.ChangeShapes Go.WideShapes
section
set_option maxRecDepth 8000
variable {H : Type} {enc : TypeId × Value → H}
theorem i64_wf {a : Int} (h : (Lit.int .i64 a).wf = true) : -9223372036854775808 ≤ a ∧ a ≤ 9223372036854775807 := by
  simpa [Lit.wf, IntKind.min, IntKind.max, IntKind.signed, IntKind.bits] using h
theorem bytes219 : Tryz.prog.bytesOf 219 = 32 := by kernel_rfl
theorem bytes163 : Tryz.prog.bytesOf 163 = 40 := by kernel_rfl
theorem cells219 : Tryz.prog.cellsOf 219 = 2 := by kernel_rfl
theorem cells163 : Tryz.prog.cellsOf 163 = 3 := by kernel_rfl
theorem cells9 : Tryz.prog.cellsOf 9 = 1 := by kernel_rfl
theorem cells3 : Tryz.prog.cellsOf 3 = 1 := by kernel_rfl
theorem cells2 : Tryz.prog.cellsOf 2 = 1 := by kernel_rfl
theorem cells143 : Tryz.prog.cellsOf 143 = 1 := by kernel_rfl
theorem cells23 : Tryz.prog.cellsOf 23 = 1 := by kernel_rfl
theorem cells26 : Tryz.prog.cellsOf 26 = 3 := by kernel_rfl
theorem cells145 : Tryz.prog.cellsOf 145 = 5 := by kernel_rfl
theorem cells42 : Tryz.prog.cellsOf 42 = 10 := by kernel_rfl
theorem cells40 : Tryz.prog.cellsOf 40 = 1 := by kernel_rfl
theorem cells24 : Tryz.prog.cellsOf 24 = 1 := by kernel_rfl
theorem cells4 : Tryz.prog.cellsOf 4 = 1 := by kernel_rfl
/-- all that a datum says lies in memory -/
def Small (t : TypeId) (d : DataW H) : Prop := ∀ n ∈ d.weights Tryz.prog t, n ≤ reachBytes
theorem small_of {ts : List TypeId} {ds : List (DataW H)} (h : (DataW.weightsEach Tryz.prog ts ds).all (· ≤ reachBytes) = true) {j : Nat} {t : TypeId} {d : DataW H} (ht : ts[j]? = some t) (hd : ds[j]? = some d) : Small t d := by
  intro n hn
  have := List.all_eq_true.1 h n (DataW.weights_mem_each ht hd n hn)
  simpa using this
theorem weightsAll_mem {e : TypeId} : ∀ {l : List (DataW H)} {d : DataW H}, d ∈ l → ∀ n ∈ d.weights Tryz.prog e, n ∈ DataW.weightsAll Tryz.prog e l
  | [], _, h, _, _ => by cases h
  | x :: l, d, h, n, hn => by
    simp only [DataW.weightsAll, List.mem_append]
    rcases List.mem_cons.1 h with rfl | h
    · exact .inl hn
    · exact .inr (weightsAll_mem h n hn)
theorem small_elem {t e : TypeId} {elems spare : List (DataW H)} (hu : Tryz.prog.underlying t = some (.slice e)) (h : Small t (.slice elems spare)) {d : DataW H} (hd : d ∈ elems) : Small e d := by
  intro n hn
  refine h n ?_
  simp only [DataW.weights, hu, List.mem_cons, List.mem_append]
  exact .inr (.inl (weightsAll_mem hd n hn))
theorem small_len {t e : TypeId} {elems spare : List (DataW H)} (hu : Tryz.prog.underlying t = some (.slice e)) (h : Small t (.slice elems spare)) : (elems.length + spare.length) * Tryz.prog.bytesOf e ≤ reachBytes := by
  refine h _ ?_
  simp only [DataW.weights, hu, List.mem_cons]
  exact .inl trivial
/-- a struct's field -/
theorem small_field {t : TypeId} {fs : Array Field} {ds : List (DataW H)} (hu : Tryz.prog.underlying t = some (.struct fs)) (h : Small t (.agg ds)) {j : Nat} {ft : TypeId} {d : DataW H} (hf : (fs.toList.map (·.type))[j]? = some ft) (hd : ds[j]? = some d) : Small ft d := by
  intro n hn
  refine h n ?_
  simp only [DataW.weights, hu]
  exact DataW.weights_mem_each hf hd n hn
/-! ### labels -/
theorem open_pair1 {w : World} {n : Nat} {c : List Value} {y : DataW H × List MemPlace} (h : DataW.trod enc Tryz.prog w 0 (fun _ => true) true n 219 c = some y) :
    ∃ p : Pr, c = [.string p.n, .string p.v] ∧ p.n.size ≤ maxLen ∧ p.v.size ≤ maxLen := by
  obtain ⟨y0, y1, m, hy, hl, h0, h1⟩ := trod_struct2 Tryz.underlying219 h
  rw [cells219] at hl
  match c, hl with
  | [c0, c1], _ =>
    simp only [cells9] at h0 h1
    have h0' : DataW.trod enc Tryz.prog w 0 (fun _ => true) true m 9 [c0] = some y0 := h0
    have h1' : DataW.trod enc Tryz.prog w 0 (fun _ => true) true m 9 [c1] = some y1 := h1
    obtain ⟨k0, e0, x0, g0⟩ := DataW.trod_string Tryz.underlying9 h0'
    obtain ⟨k1, e1, x1, g1⟩ := DataW.trod_string Tryz.underlying9 h1'
    cases e0
    cases e1
    exact ⟨⟨k0, k1⟩, rfl, g0, g1⟩
theorem open_pair_list {w : World} : ∀ (css : List (List Value)) (xs : List (DataW H × List MemPlace)), xs.length = css.length →
    (∀ (i : Nat) (c : List Value) (y : DataW H × List MemPlace), css[i]? = some c → xs[i]? = some y → ∃ n, DataW.trod enc Tryz.prog w 0 (fun _ => true) true n 219 c = some y) →
    ∃ T : List Pr, T.length = css.length ∧ css.flatten = flatP T ∧ Fit T
  | [], _, _, _ => ⟨[], rfl, rfl, by intro p hp; cases hp⟩
  | c :: css, [], h, _ => by simp at h
  | c :: css, y :: xs, h, hall => by
    obtain ⟨T, h1, h2, h4⟩ := open_pair_list css xs (by simpa using h) (fun i c y hc hy => hall (i + 1) c y (by simpa using hc) (by simpa using hy))
    obtain ⟨n, hn⟩ := hall 0 c y rfl rfl
    obtain ⟨p, hx, g0, g1⟩ := open_pair1 hn
    refine ⟨p :: T, by simp [h1], by rw [List.flatten_cons, h2, hx]; rfl, fun q hq => ?_⟩
    rcases List.mem_cons.1 hq with rfl | hq
    · exact ⟨g0, g1⟩
    · exact h4 q hq
/-- a slice of labels that came in -/
theorem open_pairs {w : World} {fuel : Nat} {c : Value} {y : DataW H × List MemPlace} (hf : DataW.trod enc Tryz.prog w 0 (fun _ => true) true fuel 143 [c] = some y) (hs : Small 143 y.1) : ∃ l : List Pr, RdP w c l ∧ Fit l ∧ l.length ≤ 4398046511104 := by
  obtain ⟨v, css, xs, hv, hrow, hcs, hlen, hall, hd⟩ := open_row Tryz.underlying143 (by rw [cells219]; omega) hf
  injection hv with hv
  subst hv
  rw [cells219] at hcs hrow
  obtain ⟨T, h1, h2, h4⟩ := open_pair_list css xs hlen hall
  rw [← h1, h2] at hrow
  refine ⟨T, hrow, h4, ?_⟩
  rcases hd with ⟨_, e⟩ | ⟨spare, e⟩
  · rw [e] at h1
    rw [List.eq_nil_of_length_eq_zero h1]
    exact Nat.zero_le _
  · rw [e] at hs
    have := small_len Tryz.underlying143 hs
    rw [bytes219, List.length_map] at this
    unfold reachBytes at this
    omega
/-! ### rules -/
/-! ### stamps, writes, steps -/
theorem open_st1 {w : World} {n : Nat} {c : List Value} {y : DataW H × List MemPlace} (h : DataW.trod enc Tryz.prog w 0 (fun _ => true) true n 26 c = some y) :
    ∃ x : Tm, c = [.int .i64 x.wall, .int .u32 x.tick, .int .u32 x.mark] := by
  obtain ⟨y0, y1, y2, m, -, hl, h0, h1, h2⟩ := Deep.trod_struct3 Tryz.underlying26 h
  have hc24 : Tryz.prog.cellsOf 24 = 1 := by kernel_rfl
  rw [cells26] at hl
  match c, hl with
  | [c0, c1, c2], _ =>
    simp only [cells2, hc24] at h0 h1 h2
    have h0' : DataW.trod enc Tryz.prog w 0 (fun _ => true) true m 2 [c0] = some y0 := h0
    have h1' : DataW.trod enc Tryz.prog w 0 (fun _ => true) true m 24 [c1] = some y1 := h1
    have h2' : DataW.trod enc Tryz.prog w 0 (fun _ => true) true m 24 [c2] = some y2 := h2
    obtain ⟨k0, e0, -, -⟩ := DataW.trod_int Tryz.underlying2 h0'
    obtain ⟨k1, e1, -, -⟩ := DataW.trod_int Tryz.underlying24 h1'
    obtain ⟨k2, e2, -, -⟩ := DataW.trod_int Tryz.underlying24 h2'
    cases e0
    cases e1
    cases e2
    exact ⟨⟨k0, k1, k2⟩, rfl⟩
theorem trod_struct5 {t : TypeId} {f0 f1 f2 f3 f4 : Field} {fuel : Nat} {cs : List Value} {x : DataW H × List MemPlace} {w : World} (ht : Tryz.prog.underlying t = some (.struct #[f0, f1, f2, f3, f4])) (h : DataW.trod enc Tryz.prog w 0 (fun _ => true) true fuel t cs = some x) :
    ∃ y0 y1 y2 y3 y4 n, x.1 = .agg [y0.1, y1.1, y2.1, y3.1, y4.1] ∧ cs.length = Tryz.prog.cellsOf t ∧ DataW.trod enc Tryz.prog w 0 (fun _ => true) true n f0.type ((cs.drop f0.offset).take (Tryz.prog.cellsOf f0.type)) = some y0 ∧
      DataW.trod enc Tryz.prog w 0 (fun _ => true) true n f1.type ((cs.drop f1.offset).take (Tryz.prog.cellsOf f1.type)) = some y1 ∧ DataW.trod enc Tryz.prog w 0 (fun _ => true) true n f2.type ((cs.drop f2.offset).take (Tryz.prog.cellsOf f2.type)) = some y2 ∧
      DataW.trod enc Tryz.prog w 0 (fun _ => true) true n f3.type ((cs.drop f3.offset).take (Tryz.prog.cellsOf f3.type)) = some y3 ∧ DataW.trod enc Tryz.prog w 0 (fun _ => true) true n f4.type ((cs.drop f4.offset).take (Tryz.prog.cellsOf f4.type)) = some y4 := by
  obtain ⟨xs, n, _, rfl, hl, hlen, hf⟩ := DataW.trod_struct ht h
  match xs, hlen with
  | [y0, y1, y2, y3, y4], _ => exact ⟨y0, y1, y2, y3, y4, n, by simp, hl, by simpa using hf 0 f0 rfl, by simpa using hf 1 f1 rfl, by simpa using hf 2 f2 rfl, by simpa using hf 3 f3 rfl, by simpa using hf 4 f4 rfl⟩
/-- what a write says is in memory, and no longer than memory is -/
structure WrR (w : World) (m : Wr) : Prop where
  set : RdP w m.sv m.st
  fit : Fit m.st
  len : m.st.length ≤ 4398046511104
  text : m.x.size ≤ maxLen
theorem open_write1 {w : World} {n : Nat} {c : List Value} {y : DataW H × List MemPlace} (h : DataW.trod enc Tryz.prog w 0 (fun _ => true) true n 145 c = some y) (hs : Small 145 y.1) :
    ∃ m : Wr, c = wcells m ∧ WrR w m := by
  obtain ⟨y0, y1, y2, y3, y4, k, hy, hl, h0, h1, h2, h3, h4⟩ := trod_struct5 Tryz.underlying145 h
  rw [hy] at hs
  have hs0 : Small 143 y0.1 := small_field Tryz.underlying145 hs (j := 0) rfl rfl
  rw [cells145] at hl
  match c, hl with
  | [c0, c1, c2, c3, c4], _ =>
    simp only [cells143, cells2, cells3, cells9] at h0 h1 h2 h3 h4
    have h0' : DataW.trod enc Tryz.prog w 0 (fun _ => true) true k 143 [c0] = some y0 := h0
    have h1' : DataW.trod enc Tryz.prog w 0 (fun _ => true) true k 2 [c1] = some y1 := h1
    have h2' : DataW.trod enc Tryz.prog w 0 (fun _ => true) true k 3 [c2] = some y2 := h2
    have h3' : DataW.trod enc Tryz.prog w 0 (fun _ => true) true k 2 [c3] = some y3 := h3
    have h4' : DataW.trod enc Tryz.prog w 0 (fun _ => true) true k 9 [c4] = some y4 := h4
    obtain ⟨l, hr, hfl, hln⟩ := open_pairs h0' hs0
    obtain ⟨k1, e1, -, -⟩ := DataW.trod_int Tryz.underlying2 h1'
    obtain ⟨k2, e2, -, -⟩ := DataW.trod_int Tryz.underlying3 h2'
    obtain ⟨k3, e3, -, -⟩ := DataW.trod_int Tryz.underlying2 h3'
    obtain ⟨k4, e4, -, g4⟩ := DataW.trod_string Tryz.underlying9 h4'
    cases e1
    cases e2
    cases e3
    cases e4
    exact ⟨⟨l, k1, k2, k3, k4, c0⟩, rfl, hr, hfl, hln, g4⟩
theorem u32_wf {a : Int} (h : (Lit.int .u32 a).wf = true) : 0 ≤ a ∧ a ≤ 4294967295 := by
  simpa [Lit.wf, IntKind.min, IntKind.max, IntKind.signed, IntKind.bits] using h
theorem open_write_list {w : World} : ∀ (css : List (List Value)) (xs : List (DataW H × List MemPlace)), xs.length = css.length →
    (∀ (i : Nat) (c : List Value) (y : DataW H × List MemPlace), css[i]? = some c → xs[i]? = some y → ∃ n, DataW.trod enc Tryz.prog w 0 (fun _ => true) true n 145 c = some y) → (∀ y ∈ xs, Small 145 y.1) →
    ∃ T : List Wr, T.length = css.length ∧ css.flatten = flatW T ∧ ∀ o ∈ T, WrR w o
  | [], _, _, _, _ => ⟨[], rfl, rfl, by simp⟩
  | c :: css, [], h, _, _ => by simp at h
  | c :: css, y :: xs, h, hall, hsm => by
    obtain ⟨T, h1, h2, h3⟩ := open_write_list css xs (by simpa using h) (fun i c y hc hy => hall (i + 1) c y (by simpa using hc) (by simpa using hy)) (fun y hy => hsm y (by simp [hy]))
    obtain ⟨n, hn⟩ := hall 0 c y rfl rfl
    obtain ⟨o, hx, hok⟩ := open_write1 hn (hsm y (by simp))
    refine ⟨o :: T, by simp [h1], by rw [List.flatten_cons, h2, hx]; rfl, fun z hz => ?_⟩
    rcases List.mem_cons.1 hz with rfl | hz
    · exact hok
    · exact h3 z hz
/-- a slice of writes that came in -/
theorem open_writes {w : World} {fuel : Nat} {c : Value} {y : DataW H × List MemPlace} (hf : DataW.trod enc Tryz.prog w 0 (fun _ => true) true fuel 40 [c] = some y) (hs : Small 40 y.1) : ∃ T : List Wr, RdW w c T ∧ ∀ x ∈ T, WrR w x := by
  obtain ⟨v, css, xs, hv, hrow, hcs, hlen, hall, hd⟩ := open_row Tryz.underlying40 (by rw [cells145]; omega) hf
  injection hv with hv
  subst hv
  have hsm : ∀ y ∈ xs, Small 145 y.1 := fun z hz => by
    rcases hd with ⟨_, e⟩ | ⟨spare, e⟩
    · rw [e] at hlen
      rw [List.eq_nil_of_length_eq_zero hlen] at hz
      cases hz
    · rw [e] at hs
      exact small_elem Tryz.underlying40 hs (List.mem_map.2 ⟨z, hz, rfl⟩)
  obtain ⟨T, h1, h2, h3⟩ := open_write_list css xs hlen hall hsm
  rw [cells145, ← h1, h2] at hrow
  exact ⟨T, ⟨hrow, fun m hm => (h3 m hm).set⟩, h3⟩
/-- a command in memory -/
structure Cw where
  m : Cmd
  v : Value
  T : List Wr
def ccs (o : Cw) : List Value := [.int .i64 o.m.kind, .int .u32 o.m.deed, .int .i64 o.m.at_.wall, .int .u32 o.m.at_.tick, .int .u32 o.m.at_.mark, .bool o.m.yes, .string o.m.token, .int .i64 o.m.n, .int .i64 o.m.id, o.v]
structure CwR (w : World) (o : Cw) : Prop where
  rd : RdW w o.v o.T
  pl : o.T.map Wr.pl = o.m.ws
  wr : ∀ x ∈ o.T, WrR w x
  tok : o.m.token.size ≤ maxLen
  ok : CmdOk o.m
  n : -9223372036854775808 ≤ o.m.n ∧ o.m.n ≤ 9223372036854775807
  id : -9223372036854775808 ≤ o.m.id ∧ o.m.id ≤ 9223372036854775807
theorem list10 {α : Type} {l : List α} (h : l.length = 10) : ∃ c0 c1 c2 c3 c4 c5 c6 c7 c8 c9, l = [c0, c1, c2, c3, c4, c5, c6, c7, c8, c9] := by
  match l, h with
  | [c0, c1, c2, c3, c4, c5, c6, c7, c8, c9], _ => exact ⟨c0, c1, c2, c3, c4, c5, c6, c7, c8, c9, rfl⟩
theorem list8 {α : Type} {l : List α} (h : l.length = 8) : ∃ c0 c1 c2 c3 c4 c5 c6 c7, l = [c0, c1, c2, c3, c4, c5, c6, c7] := by
  match l, h with
  | [c0, c1, c2, c3, c4, c5, c6, c7], _ => exact ⟨c0, c1, c2, c3, c4, c5, c6, c7, rfl⟩
theorem open_st2 {w : World} {n : Nat} {c : List Value} {y : DataW H × List MemPlace} (h : DataW.trod enc Tryz.prog w 0 (fun _ => true) true n 26 c = some y) :
    ∃ x : Tm, c = [.int .i64 x.wall, .int .u32 x.tick, .int .u32 x.mark] ∧ U32 x := by
  obtain ⟨y0, y1, y2, m, -, hl, h0, h1, h2⟩ := Deep.trod_struct3 Tryz.underlying26 h
  rw [cells26] at hl
  match c, hl with
  | [c0, c1, c2], _ =>
    simp only [cells2, cells24] at h0 h1 h2
    have h0' : DataW.trod enc Tryz.prog w 0 (fun _ => true) true m 2 [c0] = some y0 := h0
    have h1' : DataW.trod enc Tryz.prog w 0 (fun _ => true) true m 24 [c1] = some y1 := h1
    have h2' : DataW.trod enc Tryz.prog w 0 (fun _ => true) true m 24 [c2] = some y2 := h2
    obtain ⟨k0, e0, -, -⟩ := DataW.trod_int Tryz.underlying2 h0'
    obtain ⟨k1, e1, -, g1⟩ := DataW.trod_int Tryz.underlying24 h1'
    obtain ⟨k2, e2, -, g2⟩ := DataW.trod_int Tryz.underlying24 h2'
    cases e0
    cases e1
    cases e2
    exact ⟨⟨k0, k1, k2⟩, rfl, (u32_wf g1).1, (u32_wf g1).2, (u32_wf g2).1, (u32_wf g2).2⟩
theorem open_cmd1 {w : World} {n : Nat} {c : List Value} {y : DataW H × List MemPlace} (h : DataW.trod enc Tryz.prog w 0 (fun _ => true) true n 42 c = some y) (hs : Small 42 y.1) :
    ∃ o : Cw, c = ccs o ∧ CwR w o := by
  obtain ⟨xs, m, -, hy, hl, hlen, hf⟩ := DataW.trod_struct Tryz.underlying42 h
  rw [cells42] at hl
  obtain ⟨c0, c1, c2, c3, c4, c5, c6, c7, c8, c9, rfl⟩ := list10 hl
  obtain ⟨y0, y1, y2, y3, y4, y5, y6, y7, rfl⟩ := list8 hlen
  have hy' : y.1 = .agg [y0.1, y1.1, y2.1, y3.1, y4.1, y5.1, y6.1, y7.1] := by rw [hy]; rfl
  rw [hy'] at hs
  have hs7 : Small 40 y7.1 := small_field Tryz.underlying42 hs (j := 7) rfl rfl
  have h0 : DataW.trod enc Tryz.prog w 0 (fun _ => true) true m 3 (([c0, c1, c2, c3, c4, c5, c6, c7, c8, c9].drop 0).take (Tryz.prog.cellsOf 3)) = some y0 := by have h := hf 0 _ rfl; exact h
  have h1 : DataW.trod enc Tryz.prog w 0 (fun _ => true) true m 24 (([c0, c1, c2, c3, c4, c5, c6, c7, c8, c9].drop 1).take (Tryz.prog.cellsOf 24)) = some y1 := by have h := hf 1 _ rfl; exact h
  have h2 : DataW.trod enc Tryz.prog w 0 (fun _ => true) true m 26 (([c0, c1, c2, c3, c4, c5, c6, c7, c8, c9].drop 2).take (Tryz.prog.cellsOf 26)) = some y2 := by have h := hf 2 _ rfl; exact h
  have h3 : DataW.trod enc Tryz.prog w 0 (fun _ => true) true m 4 (([c0, c1, c2, c3, c4, c5, c6, c7, c8, c9].drop 5).take (Tryz.prog.cellsOf 4)) = some y3 := by have h := hf 3 _ rfl; exact h
  have h4 : DataW.trod enc Tryz.prog w 0 (fun _ => true) true m 9 (([c0, c1, c2, c3, c4, c5, c6, c7, c8, c9].drop 6).take (Tryz.prog.cellsOf 9)) = some y4 := by have h := hf 4 _ rfl; exact h
  have h5 : DataW.trod enc Tryz.prog w 0 (fun _ => true) true m 2 (([c0, c1, c2, c3, c4, c5, c6, c7, c8, c9].drop 7).take (Tryz.prog.cellsOf 2)) = some y5 := by have h := hf 5 _ rfl; exact h
  have h6 : DataW.trod enc Tryz.prog w 0 (fun _ => true) true m 3 (([c0, c1, c2, c3, c4, c5, c6, c7, c8, c9].drop 8).take (Tryz.prog.cellsOf 3)) = some y6 := by have h := hf 6 _ rfl; exact h
  have h7 : DataW.trod enc Tryz.prog w 0 (fun _ => true) true m 40 (([c0, c1, c2, c3, c4, c5, c6, c7, c8, c9].drop 9).take (Tryz.prog.cellsOf 40)) = some y7 := by have h := hf 7 _ rfl; exact h
  rw [cells3] at h0 h6
  rw [cells24] at h1
  rw [cells26] at h2
  rw [cells4] at h3
  rw [cells9] at h4
  rw [cells2] at h5
  rw [cells40] at h7
  have h0' : DataW.trod enc Tryz.prog w 0 (fun _ => true) true m 3 [c0] = some y0 := h0
  have h1' : DataW.trod enc Tryz.prog w 0 (fun _ => true) true m 24 [c1] = some y1 := h1
  have h2' : DataW.trod enc Tryz.prog w 0 (fun _ => true) true m 26 [c2, c3, c4] = some y2 := h2
  have h3' : DataW.trod enc Tryz.prog w 0 (fun _ => true) true m 4 [c5] = some y3 := h3
  have h4' : DataW.trod enc Tryz.prog w 0 (fun _ => true) true m 9 [c6] = some y4 := h4
  have h5' : DataW.trod enc Tryz.prog w 0 (fun _ => true) true m 2 [c7] = some y5 := h5
  have h6' : DataW.trod enc Tryz.prog w 0 (fun _ => true) true m 3 [c8] = some y6 := h6
  have h7' : DataW.trod enc Tryz.prog w 0 (fun _ => true) true m 40 [c9] = some y7 := h7
  obtain ⟨k0, e0, -, -⟩ := DataW.trod_int Tryz.underlying3 h0'
  obtain ⟨k1, e1, -, g1⟩ := DataW.trod_int Tryz.underlying24 h1'
  obtain ⟨t2, e2, g2⟩ := open_st2 h2'
  obtain ⟨k3, e3, -⟩ := DataW.trod_bool Tryz.underlying4 h3'
  obtain ⟨k4, e4, -, g4⟩ := DataW.trod_string Tryz.underlying9 h4'
  obtain ⟨k5, e5, -, g5⟩ := DataW.trod_int Tryz.underlying2 h5'
  obtain ⟨k6, e6, -, g6⟩ := DataW.trod_int Tryz.underlying3 h6'
  obtain ⟨T7, r7, w7⟩ := open_writes h7' hs7
  cases e0
  cases e1
  cases e2
  cases e3
  cases e4
  cases e5
  cases e6
  exact ⟨⟨⟨k0, k1, t2, k3, k4, k5, k6, T7.map Wr.pl⟩, c9, T7⟩, rfl, r7, rfl, w7, g4, ⟨(u32_wf g1).1, (u32_wf g1).2, g2⟩, i64_wf g5, i64_wf g6⟩
/-- the commands' cells -/
def flatC : List Cw → List Value
  | [] => []
  | x :: t => ccs x ++ flatC t
def RdC (w : World) (v : Value) (l : List Cw) : Prop := RdRow 10 w v l.length (flatC l) ∧ ∀ o ∈ l, CwR w o
theorem open_cmd_list {w : World} : ∀ (css : List (List Value)) (xs : List (DataW H × List MemPlace)), xs.length = css.length →
    (∀ (i : Nat) (c : List Value) (y : DataW H × List MemPlace), css[i]? = some c → xs[i]? = some y → ∃ n, DataW.trod enc Tryz.prog w 0 (fun _ => true) true n 42 c = some y) → (∀ y ∈ xs, Small 42 y.1) →
    ∃ T : List Cw, T.length = css.length ∧ css.flatten = flatC T ∧ ∀ o ∈ T, CwR w o
  | [], _, _, _, _ => ⟨[], rfl, rfl, by simp⟩
  | c :: css, [], h, _, _ => by simp at h
  | c :: css, y :: xs, h, hall, hsm => by
    obtain ⟨T, h1, h2, h3⟩ := open_cmd_list css xs (by simpa using h) (fun i c y hc hy => hall (i + 1) c y (by simpa using hc) (by simpa using hy)) (fun y hy => hsm y (by simp [hy]))
    obtain ⟨n, hn⟩ := hall 0 c y rfl rfl
    obtain ⟨o, hx, hok⟩ := open_cmd1 hn (hsm y (by simp))
    refine ⟨o :: T, by simp [h1], by rw [List.flatten_cons, h2, hx]; rfl, fun z hz => ?_⟩
    rcases List.mem_cons.1 hz with rfl | hz
    · exact hok
    · exact h3 z hz
/-- a slice of commands that came in -/
theorem open_cmds {w : World} {base : Nat} {v : Value} {d : DataW H} {ps : List MemPlace} (hval : Value.okWide Tryz.prog w .any base 22 v) (h : DataW.Trod enc Tryz.prog w 0 (fun _ => true) true 22 v d ps) (hs : Small 22 d) :
    ∃ l : List Cw, RdC w v l := by
  obtain ⟨a0, len0, cap0, rfl⟩ := okWide_slice Tryz.underlying22 hval
  obtain ⟨fuel, hf⟩ := h
  obtain ⟨v, css, xs, hv, hrow, hcs, hlen, hall, hd⟩ := open_row Tryz.underlying22 (by rw [cells42]; omega) hf
  simp [Value.cells] at hv
  subst hv
  have hsm : ∀ y ∈ xs, Small 42 y.1 := fun y hy => by
    rcases hd with ⟨_, e⟩ | ⟨spare, e⟩
    · rw [e] at hlen
      rw [List.eq_nil_of_length_eq_zero hlen] at hy
      cases hy
    · have e' : d = .slice (xs.map (·.1)) spare := e
      rw [e'] at hs
      exact small_elem Tryz.underlying22 hs (List.mem_map.2 ⟨y, hy, rfl⟩)
  obtain ⟨T, h1, h2, h3⟩ := open_cmd_list css xs hlen hall hsm
  rw [cells42, ← h1, h2] at hrow
  exact ⟨T, hrow, h3⟩
theorem glob_of {w : World} (h : w.ShapedOpen Tryz.prog) : Glob w := by
  have := cell_of_shapedOpen_int (g := 0) (t := 3) (zero := #[.int .i64 0]) h (of_decide_eq_true (by kernel_rfl)) (by kernel_rfl) rfl (by kernel_rfl) (by kernel_rfl) Tryz.underlying3
  exact this
end
end Go.Proofs.YtbaflgddpciadaaGreat
