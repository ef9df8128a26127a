/- Read (20). -/
import Derived.Test.YtbaflgddpciadaaGreatEI
import Derived.Test.YtbaflgddpciadaaGreatPW
import Derived.Test.YtbaflgddpciadaaGreatSQ
import Derived.Test.YtbaflgddpciadaaGreatE9
set_option linter.unusedVariables false
set_option linter.unusedSimpArgs false
namespace Go.Proofs.YtbaflgddpciadaaGreat
open Go.RowKit Go.Kt Go.Ix Go.Sx Go.Cx
set_option maxRecDepth 100000
variable {F : Nat → Prop} {w w' : World} {c N : Nat} {C : Cl} {p : Cp}
/-- what a read answers -/
def ReadPost (w : World) (C : Cl) (rules : List Rl) (fr to_ : Int) (t : Tm) (e : Ending) (w' : World) : Prop :=
  ∃ v Q er, e = .returned (.tuple #[v, .int .i64 er]) ∧ (∀ ok, (ok = true ↔ RightR rules) → er = readE C ok fr to_ t) ∧ Pts 142 104 w w' v Q ∧ Q.map Pn.told = (if er = 0 then scanL C.M (fun d => allB rules d) fr to_ t else []) ∧ Below w.heap.size w w'
theorem read_no {rules : List Rl} {fr to_ er : Int} {t : Tm} {e : Ending} (he : e = .returned (.tuple #[.slice none 0 0, .int .i64 er])) (hr : ∀ ok, (ok = true ↔ RightR rules) → er = readE C ok fr to_ t) (h0 : er ≠ 0) (hb : Below w.heap.size w w') : ReadPost w C rules fr to_ t e w' :=
  ⟨_, [], er, he, hr, (Pts.nil 142 104 w).below hb, by rw [if_neg h0]; rfl, hb⟩
theorem readE_arg {C : Cl} {fr to_ : Int} {t : Tm} {rules : List Rl} (h : ¬ tmR t ∨ ¬ RightR rules ∨ fr < 0 ∨ to_ < fr) : ∀ ok, (ok = true ↔ RightR rules) → (1 : Int) = readE C ok fr to_ t := fun ok ho => by
  unfold readE
  rw [if_pos (by
    rcases h with h | h | h | h
    · exact .inl h
    · refine .inr (.inl ?_)
      cases ok with
      | false => rfl
      | true => exact absurd (ho.1 rfl) h
    · exact .inr (.inr (.inl h))
    · exact .inr (.inr (.inr h)))]
theorem readE_next {C : Cl} {fr to_ : Int} {t : Tm} {rules : List Rl} (h1 : tmR t) (h2 : RightR rules) (h3 : ¬ fr < 0) (h4 : ¬ to_ < fr) {x : Int} (hx : x = if t.lt C.safe ∨ fr < C.hor then 100 else if C.closed.lt t then 101 else if waits C.deeds t = true then 102 else 0) : ∀ ok, (ok = true ↔ RightR rules) → x = readE C ok fr to_ t := fun ok ho => by
  have hok : ok = true := ho.2 h2
  subst hok
  unfold readE
  rw [if_neg (by
    rintro (h | h | h | h)
    · exact h h1
    · cases h
    · exact h3 h
    · exact h4 h)]
  exact hx
set_option maxHeartbeats 8000000 in
theorem read_any (w : World) (h : CeAt F w c C N p) (hN : N ≤ 1000000) (rv : Value) (rules : List Rl) (hr : RdR w rv rules) (hf : FitR rules) (hg : Glob w) (fr to_ : Int) (t : Tm) :
    Calls Tryz.prog 20 #[.pointer (some ⟨c, 0, none⟩), rv, .int .i64 fr, .int .i64 to_, t.val] w fun e w' => ReadPost w C rules fr to_ t e w' := by
  obtain ⟨tw, tt, tm⟩ := t
  obtain ⟨ra, rc, hrv, -⟩ := hr.open
  subst hrv
  have H := Lib.hid h
  have HR0 := Lib.hid hr
  have HG := Lib.hid hg
  have HN := Lib.hid hN
  have HX := Lib.hid (Blk.new w #[.int .i64 tw, .int .u32 tt, .int .u32 tm] 44)
  have HB1 := Lib.hid (below_alloc w (.cells #[.int .i64 tw, .int .u32 tt, .int .u32 tm] 44))
  have HMr := Lib.hid (fun (W : World) (hW : Below w.heap.size w W) => mright_any (.slice ra rules.length rc) rules W (hr.below hW) hf)
  have HRt := Lib.hid (fun W => str_any ⟨tw, tt, tm⟩ W)
  unfold Tm.val at HRt
  simp only [stR_tm] at HRt
  unfold Tm.val
  simp only
  clear h hr hg hf hN
  go_enter Tryz.func20, Tryz.ntmps20
  go_upto_region 3 with fail
  generalize w.alloc (.cells #[.int .i64 tw, .int .u32 tt, .int .u32 tm] 44) = w1 at HX HB1 ⊢
  have HgL : Hid (w.heap.size < w1.heap.size) := Lib.hid HX.out.lt
  generalize hg : w.heap.size = g at HX ⊢
  have x0 : w1.cell? ⟨g, 0, none⟩ = some (.int .i64 tw) := HX.out.cell 0
  have x1 : w1.cell? ⟨g, 1, none⟩ = some (.int .u32 tt) := HX.out.cell 1
  have x2 : w1.cell? ⟨g, 2, none⟩ = some (.int .u32 tm) := HX.out.cell 2
  by_cases hrt : tmR ⟨tw, tt, tm⟩
  · have hd : decide (tmR ⟨tw, tt, tm⟩) = true := by simpa using hrt
    rw [hd] at HRt
    have HRg := Lib.hid hrt
    clear hd hrt
    by_cases hrr : RightR rules
    · have HRr := Lib.hid hrr
      clear hrr
      by_cases hf0 : fr < 0
      · have e1 : decide (fr < 0) = true := by simpa using hf0
        have HE := Lib.hid (readE_arg (C := C) (fr := fr) (to_ := to_) (t := ⟨tw, tt, tm⟩) (rules := rules) (.inr (.inr (.inl hf0))))
        clear hf0
        go_wp2_with (first
          | (go_at_call 73; refine (HRt.out _).mono ?_; rintro e w2 ⟨rfl, hb2⟩; have HB2 := Lib.hid (bel_trans HB1.out hb2); have HB12 := Lib.hid hb2; clear hb2)
          | (go_at_call 74; refine (HMr.out _ HB2.out).mono ?_; rintro e w3 ⟨hs3, hb3⟩; obtain ⟨z, rfl, hz⟩ := says_out hs3; obtain rfl : z = true := hz.2 HRr.out; have HB3 := Lib.hid (bel_trans HB2.out hb3); have HB13 := Lib.hid (bel_trans HB12.out hb3); clear hs3 hz hb3)
          | fail)
        refine bodyPost_ret (v := .tuple #[.slice none 0 0, .int .i64 1]) (by simp [results, Tryz.results20, go_sem]) rfl ?_
        exact read_no rfl HE.out (by decide) HB3.out
      have e1 : decide (fr < 0) = false := by simpa using hf0
      by_cases hft : to_ < fr
      · have e2 : decide (to_ < fr) = true := by simpa using hft
        have HE := Lib.hid (readE_arg (C := C) (fr := fr) (to_ := to_) (t := ⟨tw, tt, tm⟩) (rules := rules) (.inr (.inr (.inr hft))))
        clear hft hf0
        go_wp2_with (first
          | (go_at_call 73; refine (HRt.out _).mono ?_; rintro e w2 ⟨rfl, hb2⟩; have HB2 := Lib.hid (bel_trans HB1.out hb2); have HB12 := Lib.hid hb2; clear hb2)
          | (go_at_call 74; refine (HMr.out _ HB2.out).mono ?_; rintro e w3 ⟨hs3, hb3⟩; obtain ⟨z, rfl, hz⟩ := says_out hs3; obtain rfl : z = true := hz.2 HRr.out; have HB3 := Lib.hid (bel_trans HB2.out hb3); have HB13 := Lib.hid (bel_trans HB12.out hb3); clear hs3 hz hb3)
          | fail)
        refine bodyPost_ret (v := .tuple #[.slice none 0 0, .int .i64 1]) (by simp [results, Tryz.results20, go_sem]) rfl ?_
        exact read_no rfl HE.out (by decide) HB3.out
      have e2 : decide (to_ < fr) = false := by simpa using hft
      have HEn : Hid (∀ x : Int, (x = if (⟨tw, tt, tm⟩ : Tm).lt C.safe ∨ fr < C.hor then 100 else if C.closed.lt ⟨tw, tt, tm⟩ then 101 else if waits C.deeds ⟨tw, tt, tm⟩ = true then 102 else 0) → ∀ ok, (ok = true ↔ RightR rules) → x = readE C ok fr to_ ⟨tw, tt, tm⟩) := Lib.hid (fun x hx => readE_next HRg.out HRr.out hf0 hft hx)
      clear hft hf0
      go_upto_region 5 with (first
        | (go_at_call 73; refine (HRt.out _).mono ?_; rintro e w2 ⟨rfl, hb2⟩; have HB2 := Lib.hid (bel_trans HB1.out hb2); have HB12 := Lib.hid hb2; clear hb2)
        | (go_at_call 74; refine (HMr.out _ HB2.out).mono ?_; rintro e w3 ⟨hs3, hb3⟩; obtain ⟨z, rfl, hz⟩ := says_out hs3; obtain rfl : z = true := hz.2 HRr.out; have HB3 := Lib.hid (bel_trans HB2.out hb3); have HB13 := Lib.hid (bel_trans HB12.out hb3); clear hs3 hz hb3)
        | fail)
      clear e1 e2 x0 x1 x2
      have HBx3 : Hid (Below w1.heap.size w1 w3) := Lib.hid HB13.out
      have HC3 := Lib.hid (H.out.next HB3.out)
      have HX3 := Lib.hid (HX.out.next HBx3.out)
      have HCm := Lib.hid (fun W => compare_any ⟨tw, tt, tm⟩ C.safe W)
      unfold Tm.val at HCm
      simp only at HCm
      have HLt : Hid (cmpT ⟨tw, tt, tm⟩ C.safe < 0 ↔ (⟨tw, tt, tm⟩ : Tm).lt C.safe) := Lib.hid cmpT_lt
      generalize cmpT ⟨tw, tt, tm⟩ C.safe = z at HCm HLt
      have u8 : ∀ q : GrownOf w3, q.W.cell? ⟨c, 8, none⟩ = some (.int .i64 C.safe.wall) := fun q => (HC3.out.blk.next q.b).cell 8
      have u9 : ∀ q : GrownOf w3, q.W.cell? ⟨c, 9, none⟩ = some (.int .u32 C.safe.tick) := fun q => (HC3.out.blk.next q.b).cell 9
      have u10 : ∀ q : GrownOf w3, q.W.cell? ⟨c, 10, none⟩ = some (.int .u32 C.safe.mark) := fun q => (HC3.out.blk.next q.b).cell 10
      have u11 : ∀ q : GrownOf w3, q.W.cell? ⟨c, 11, none⟩ = some (.int .i64 C.hor) := fun q => (HC3.out.blk.next q.b).cell 11
      have v0 : ∀ q : GrownOf w3, q.W.cell? ⟨g, 0, none⟩ = some (.int .i64 tw) := fun q => (HX3.out.next q.b).cell 0
      have v1 : ∀ q : GrownOf w3, q.W.cell? ⟨g, 1, none⟩ = some (.int .u32 tt) := fun q => (HX3.out.next q.b).cell 1
      have v2 : ∀ q : GrownOf w3, q.W.cell? ⟨g, 2, none⟩ = some (.int .u32 tm) := fun q => (HX3.out.next q.b).cell 2
      by_cases hz : z < 0
      · have hzb : decide (z < 0) = true := by simpa using hz
        have HS := Lib.hid (HLt.out.1 hz)
        clear hz
        refine wp_region_grown (by kernel_rfl) (by kernel_rfl) ?_
        repeat (go_big_quiet_step ((go_at_call 26; refine (HCm.out _).mono ?_; rintro e w7 ⟨rfl, hb7⟩; exact ⟨rfl, ⟨w7, bel_trans (GrownOf.b _) hb7⟩, rfl⟩)))
        refine wpQuiet_nil ?_
        rintro w4 ⟨⟨_, hbw4⟩, rfl⟩
        have HB4 := Lib.hid (bel_trans HB3.out hbw4)
        have HBx4 := Lib.hid (bel_trans HBx3.out hbw4)
        clear hbw4
        clear u8 u9 u10 u11 v0 v1 v2
        clear hzb
        go_wp2_with fail
        refine bodyPost_ret (v := .tuple #[.slice none 0 0, .int .i64 100]) (by simp [results, Tryz.results20, go_sem]) rfl ?_
        exact read_no rfl (HEn.out _ (by rw [if_pos (.inl HS.out)])) (by decide) HB4.out
      have hzb : decide (z < 0) = false := by simpa using hz
      have HS := Lib.hid (fun h => hz (HLt.out.2 h))
      clear hz
      by_cases hh : fr < C.hor
      · have hhb : decide (fr < C.hor) = true := by simpa using hh
        have Hh := Lib.hid hh
        clear hh
        refine wp_region_grown (by kernel_rfl) (by kernel_rfl) ?_
        repeat (go_big_quiet_step ((go_at_call 26; refine (HCm.out _).mono ?_; rintro e w7 ⟨rfl, hb7⟩; exact ⟨rfl, ⟨w7, bel_trans (GrownOf.b _) hb7⟩, rfl⟩)))
        refine wpQuiet_nil ?_
        rintro w4 ⟨⟨_, hbw4⟩, rfl⟩
        have HB4 := Lib.hid (bel_trans HB3.out hbw4)
        have HBx4 := Lib.hid (bel_trans HBx3.out hbw4)
        clear hbw4
        clear u8 u9 u10 u11 v0 v1 v2
        clear hzb hhb
        go_wp2_with fail
        refine bodyPost_ret (v := .tuple #[.slice none 0 0, .int .i64 100]) (by simp [results, Tryz.results20, go_sem]) rfl ?_
        exact read_no rfl (HEn.out _ (by rw [if_pos (.inr Hh.out)])) (by decide) HB4.out
      have hhb : decide (fr < C.hor) = false := by simpa using hh
      have HEm : Hid (∀ x : Int, (x = if C.closed.lt ⟨tw, tt, tm⟩ then 101 else if waits C.deeds ⟨tw, tt, tm⟩ = true then 102 else 0) → ∀ ok, (ok = true ↔ RightR rules) → x = readE C ok fr to_ ⟨tw, tt, tm⟩) := Lib.hid (fun x hx => HEn.out x (by rw [if_neg (fun e => e.elim HS.out hh)]; exact hx))
      clear hh
      refine wp_region_grown (by kernel_rfl) (by kernel_rfl) ?_
      repeat (go_big_quiet_step ((go_at_call 26; refine (HCm.out _).mono ?_; rintro e w7 ⟨rfl, hb7⟩; exact ⟨rfl, ⟨w7, bel_trans (GrownOf.b _) hb7⟩, rfl⟩)))
      refine wpQuiet_nil ?_
      rintro w4 ⟨⟨_, hbw4⟩, rfl⟩
      have HB4 := Lib.hid (bel_trans HB3.out hbw4)
      have HBx4 := Lib.hid (bel_trans HBx3.out hbw4)
      clear hbw4
      clear u8 u9 u10 u11 v0 v1 v2
      clear hzb hhb HCm HLt HEn
      have HC4 := Lib.hid (H.out.next HB4.out)
      have HX4 := Lib.hid (HX.out.next HBx4.out)
      have HCm := Lib.hid (fun W => compare_any C.closed ⟨tw, tt, tm⟩ W)
      unfold Tm.val at HCm
      simp only at HCm
      have HLt : Hid (cmpT C.closed ⟨tw, tt, tm⟩ < 0 ↔ C.closed.lt ⟨tw, tt, tm⟩) := Lib.hid cmpT_lt
      generalize cmpT C.closed ⟨tw, tt, tm⟩ = z2 at HCm HLt
      have u5 : ∀ q : GrownOf w4, q.W.cell? ⟨c, 5, none⟩ = some (.int .i64 C.closed.wall) := fun q => (HC4.out.blk.next q.b).cell 5
      have u6 : ∀ q : GrownOf w4, q.W.cell? ⟨c, 6, none⟩ = some (.int .u32 C.closed.tick) := fun q => (HC4.out.blk.next q.b).cell 6
      have u7 : ∀ q : GrownOf w4, q.W.cell? ⟨c, 7, none⟩ = some (.int .u32 C.closed.mark) := fun q => (HC4.out.blk.next q.b).cell 7
      have u11 : ∀ q : GrownOf w4, q.W.cell? ⟨c, 11, none⟩ = some (.int .i64 C.hor) := fun q => (HC4.out.blk.next q.b).cell 11
      have v0 : ∀ q : GrownOf w4, q.W.cell? ⟨g, 0, none⟩ = some (.int .i64 tw) := fun q => (HX4.out.next q.b).cell 0
      have v1 : ∀ q : GrownOf w4, q.W.cell? ⟨g, 1, none⟩ = some (.int .u32 tt) := fun q => (HX4.out.next q.b).cell 1
      have v2 : ∀ q : GrownOf w4, q.W.cell? ⟨g, 2, none⟩ = some (.int .u32 tm) := fun q => (HX4.out.next q.b).cell 2
      go_upto_region 7 with fail
      by_cases hz : z2 < 0
      · have hzb : decide (z2 < 0) = true := by simpa using hz
        have HS2 := Lib.hid (HLt.out.1 hz)
        clear hz
        refine wp_region_grown (by kernel_rfl) (by kernel_rfl) ?_
        repeat (go_big_quiet_step ((go_at_call 26; refine (HCm.out _).mono ?_; rintro e w7 ⟨rfl, hb7⟩; exact ⟨rfl, ⟨w7, bel_trans (GrownOf.b _) hb7⟩, rfl⟩)))
        refine wpQuiet_nil ?_
        rintro w5 ⟨⟨_, hbw5⟩, rfl⟩
        have HB5 := Lib.hid (bel_trans HB4.out hbw5)
        have HBx5 := Lib.hid (bel_trans HBx4.out hbw5)
        clear hbw5
        clear u5 u6 u7 u11 v0 v1 v2
        clear hzb
        go_wp2_with fail
        refine bodyPost_ret (v := .tuple #[.slice none 0 0, .int .i64 101]) (by simp [results, Tryz.results20, go_sem]) rfl ?_
        exact read_no rfl (HEm.out _ (by rw [if_pos HS2.out])) (by decide) HB5.out
      have hzb : decide (z2 < 0) = false := by simpa using hz
      have HEw : Hid (∀ x : Int, (x = if waits C.deeds ⟨tw, tt, tm⟩ = true then 102 else 0) → ∀ ok, (ok = true ↔ RightR rules) → x = readE C ok fr to_ ⟨tw, tt, tm⟩) := Lib.hid (fun x hx => HEm.out x (by rw [if_neg (fun e => hz (HLt.out.2 e))]; exact hx))
      clear hz
      refine wp_region_grown (by kernel_rfl) (by kernel_rfl) ?_
      repeat (go_big_quiet_step ((go_at_call 26; refine (HCm.out _).mono ?_; rintro e w7 ⟨rfl, hb7⟩; exact ⟨rfl, ⟨w7, bel_trans (GrownOf.b _) hb7⟩, rfl⟩)))
      refine wpQuiet_nil ?_
      rintro w5 ⟨⟨_, hbw5⟩, rfl⟩
      have HB5 := Lib.hid (bel_trans HB4.out hbw5)
      have HBx5 := Lib.hid (bel_trans HBx4.out hbw5)
      clear hbw5
      clear u5 u6 u7 u11 v0 v1 v2
      clear HCm HLt HEm
      have HC5 := Lib.hid (H.out.next HB5.out)
      have HX5 := Lib.hid (HX.out.next HBx5.out)
      have HWt := Lib.hid (waits_any w5 HC5.out ⟨tw, tt, tm⟩)
      unfold Tm.val at HWt
      simp only at HWt
      go_upto_region 9 with fail
      clear hzb
      have x0 : w5.cell? ⟨g, 0, none⟩ = some (.int .i64 tw) := HX5.out.cell 0
      have x1 : w5.cell? ⟨g, 1, none⟩ = some (.int .u32 tt) := HX5.out.cell 1
      have x2 : w5.cell? ⟨g, 2, none⟩ = some (.int .u32 tm) := HX5.out.cell 2
      cases hwt : waits C.deeds ⟨tw, tt, tm⟩ with
      | true =>
        rw [hwt] at HWt HEw
        clear hwt
        go_wp2_with (first
          | (go_at_call 75; refine HWt.out.mono ?_; rintro e w6 ⟨rfl, hb6⟩; have HB6 := Lib.hid (bel_trans HB5.out hb6); clear hb6)
          | fail)
        refine bodyPost_ret (v := .tuple #[.slice none 0 0, .int .i64 102]) (by simp [results, Tryz.results20, go_sem]) rfl ?_
        exact read_no rfl (HEw.out _ (by simp)) (by decide) HB6.out
      | false =>
        rw [hwt] at HWt HEw
        clear hwt
        go_upto_region 11 with (first
          | (go_at_call 75; refine HWt.out.mono ?_; rintro e w6 ⟨rfl, hb6⟩; have HB6 := Lib.hid (bel_trans HB5.out hb6); have HBx6 := Lib.hid (bel_trans HBx5.out hb6); clear hb6)
          | fail)
        clear x0 x1 x2
        have HC6 := Lib.hid (H.out.next HB6.out)
        have HX6 := Lib.hid (HX.out.next HBx6.out)
        obtain ⟨om, SS, hst⟩ := HC6.out.st
        have HSt := Lib.hid hst
        clear hst
        have HSc := Lib.hid (fun (W : World) (hW : Below w6.heap.size w6 W) => scan_any W (HSt.out.next hW) HN.out (.slice ra rules.length rc) rules (HR0.out.below (bel_trans HB6.out hW)) (HG.out.below (bel_trans HB6.out hW)) fr to_ ⟨tw, tt, tm⟩)
        unfold Tm.val at HSc
        simp only at HSc
        have hcl : c < w6.heap.size := HC6.out.blk.lt
        have hgl : g < w6.heap.size := HX6.out.lt
        have HKs : Hid (∀ W, Below w6.heap.size w6 W → W.cell? ⟨c, 1, none⟩ = some (.pointer (some ⟨p.s, 0, none⟩)) ∧ W.cell? ⟨g, 0, none⟩ = some (.int .i64 tw) ∧ W.cell? ⟨g, 1, none⟩ = some (.int .u32 tt) ∧ W.cell? ⟨g, 2, none⟩ = some (.int .u32 tm)) := Lib.hid (fun W hW => ⟨(HC6.out.blk.next hW).cell 1, (HX6.out.next hW).cell 0, (HX6.out.next hW).cell 1, (HX6.out.next hW).cell 2⟩)
        have hx0 := bel_refl w6
        obtain ⟨q0, q1, q2, q3⟩ := HKs.out w6 hx0
        go_region_held3 (fun W => W.cell? ⟨c, 1, none⟩ = some (.pointer (some ⟨p.s, 0, none⟩)) ∧ W.cell? ⟨g, 0, none⟩ = some (.int .i64 tw) ∧ W.cell? ⟨g, 1, none⟩ = some (.int .u32 tt) ∧ W.cell? ⟨g, 2, none⟩ = some (.int .u32 tm))
          (first | (with_reducible exact ⟨q0, q1, q2, q3⟩) | (with_reducible refine HKs.out _ ?_; (repeat (first | assumption | apply bel_alloc | apply bel_drew)); done) | go_keep)
          (first
            | (go_simp; go_at_call 76; refine (HSc.out _ (by repeat (first | exact bel_refl _ | assumption | apply bel_alloc | apply bel_drew))).mono ?_; rintro e w8 ⟨v8, Q8, rfl, hp8, hq8⟩; have hx8 : Below w6.heap.size w6 w8 := bel_trans (by repeat (first | exact bel_refl _ | assumption | apply bel_alloc | apply bel_drew)) hp8.row.2.2; have HP8 := Lib.hid (hp8.since (bel_trans HB6.out (show Below w6.heap.size w6 _ by repeat (first | exact bel_refl _ | assumption | apply bel_alloc | apply bel_drew)))); have HQ8 := Lib.hid hq8; obtain ⟨-, a8, c8, hv8, -⟩ := hp8.row.1.rd; subst hv8; clear hp8 hq8))
        clear q0 q1 q2 q3 HKs hx0
        go_wp2_with fail
        refine bodyPost_ret (v := .tuple #[.slice a8 Q8.length c8, .int .i64 0]) (by simp [results, Tryz.results20, go_sem]) rfl ?_
        exact ⟨_, Q8, 0, rfl, HEw.out _ (by rw [if_neg (by decide)]), HP8.out, by rw [if_pos rfl]; exact HQ8.out, bel_trans HB6.out hx8⟩
    · have HE := Lib.hid (readE_arg (C := C) (fr := fr) (to_ := to_) (t := ⟨tw, tt, tm⟩) (.inr (.inl hrr)))
      go_wp2_with (first
        | (go_at_call 73; refine (HRt.out _).mono ?_; rintro e w2 ⟨rfl, hb2⟩; have HB2 := Lib.hid (bel_trans HB1.out hb2); have HB12 := Lib.hid hb2; clear hb2)
        | (go_at_call 74; refine (HMr.out _ HB2.out).mono ?_; rintro e w3 ⟨hs3, hb3⟩; obtain ⟨z, rfl, hz⟩ := says_out hs3; have hzf : z = false := (by cases z with | false => rfl | true => exact absurd (hz.1 rfl) hrr); subst hzf; have HB3 := Lib.hid (bel_trans HB2.out hb3); have HB13 := Lib.hid (bel_trans HB12.out hb3); clear hs3 hz hb3)
        | fail)
      refine bodyPost_ret (v := .tuple #[.slice none 0 0, .int .i64 1]) (by simp [results, Tryz.results20, go_sem]) rfl ?_
      exact read_no rfl HE.out (by decide) HB3.out
  · have hd : decide (tmR ⟨tw, tt, tm⟩) = false := by simpa using hrt
    rw [hd] at HRt
    have HE := Lib.hid (readE_arg (C := C) (fr := fr) (to_ := to_) (t := ⟨tw, tt, tm⟩) (rules := rules) (.inl hrt))
    clear hd hrt
    go_wp2_with (first
      | (go_at_call 73; refine (HRt.out _).mono ?_; rintro e w2 ⟨rfl, hb2⟩; have HB2 := Lib.hid (bel_trans HB1.out hb2); have HB12 := Lib.hid hb2; clear hb2)
      | fail)
    refine bodyPost_ret (v := .tuple #[.slice none 0 0, .int .i64 1]) (by simp [results, Tryz.results20, go_sem]) rfl ?_
    exact read_no rfl HE.out (by decide) HB2.out
end Go.Proofs.YtbaflgddpciadaaGreat
