/- waits (75). -/
import Derived.Test.YtbaflgddpciadaaGreatE8
import Derived.Test.YtbaflgddpciadaaGreatSY
set_option linter.unusedVariables false
set_option linter.unusedSimpArgs false
namespace Go.Proofs.YtbaflgddpciadaaGreat
open Go.RowKit Go.Kt Go.Ix Go.Sx Go.Cx
set_option maxRecDepth 100000
theorem key24 : Maps.Keyed Tryz.prog 24 := Maps.int_keyed Tryz.underlying24
theorem key3 : Maps.Keyed Tryz.prog 3 := Maps.int_keyed Tryz.underlying3
theorem cmpT_le {a b : Tm} : cmpT a b ≤ 0 ↔ ¬ b.lt a := by
  have h1 := cmpT_lt (a := a) (b := b)
  have h2 := cmpT_eq (a := a) (b := b)
  have h3 := Tm.tri a b
  constructor
  · intro h
    rcases Int.lt_or_eq_of_le h with h | h
    · exact Tm.asymm (h1.1 h)
    · rw [h2.1 h]; exact Tm.irr _
  · intro h
    rcases h3 with h3 | h3 | h3
    · exact Int.le_of_lt (h1.2 h3)
    · exact Int.le_of_eq (h2.2 h3)
    · exact absurd h3 h
def Hit (t : Tm) (d : Dd) : Prop := d.state = 1 ∧ ¬ t.lt d.at_
theorem waits_iff {D : List Dd} {t : Tm} : waits D t = true ↔ ∃ d ∈ D, Hit t d := by
  unfold waits Hit
  rw [List.any_eq_true]
  simp
theorem same_litD (a b : Int) : (litD a).sameKey (litD b) = decide (a = b) := by
  unfold litD
  simp [Lit.sameKey]
variable {F : Nat → Prop} {w w' : World} {c N : Nat} {C : Cl} {p : Cp}
set_option maxHeartbeats 4000000 in
theorem waits_any (w : World) (h : CeAt F w c C N p) (t : Tm) : Calls Tryz.prog 75 #[.pointer (some ⟨c, 0, none⟩), t.val] w fun e w' => e = .returned (.bool (waits C.deeds t)) ∧ Below w.heap.size w w' := by
  obtain ⟨tw, tt, tm⟩ := t
  have H := Lib.hid h
  have HX := Lib.hid (Blk.new w #[.int .i64 tw, .int .u32 tt, .int .u32 tm] 44)
  have HB0 := Lib.hid (below_alloc w (.cells #[.int .i64 tw, .int .u32 tt, .int .u32 tm] 44))
  unfold Tm.val
  simp only
  go_enter Tryz.func75, Tryz.ntmps75
  go_upto_region 1 with fail
  generalize w.alloc (.cells #[.int .i64 tw, .int .u32 tt, .int .u32 tm] 44) = w1 at HX HB0 ⊢
  have H1 := Lib.hid (h.next HB0.out)
  have c2 : w1.cell? ⟨c, 2, none⟩ = some (.map (some p.dm)) := H1.out.blk.cell 2
  obtain ⟨D, hD, hsz, hcf⟩ := H1.out.deeds.map
  have HcD : Hid (SayD D p.fd) := Lib.hid hcf
  have hown := hD
  clear h hD hcf
  go_wp2_with (first
    | (at_range; refine wpList_range_own _ rfl _ 136 rfl 24 181 key24 Tryz.underlying136 _ p.dm C.deeds.length D rfl hown ?_; intro w0 hrg0 hg0 hs0)
    | fail)
  have hbel0 : Below w1.heap.size w1 w0 := (Below.refl _ w1).grown hg0 (Nat.le_refl _) (fun b e => by cases e)
  have hleft : Maps.has D = fun k => (p.fd k).isSome := funext fun k => HcD.out.has k
  rw [hleft] at hrg0
  have HBw := Lib.hid hbel0
  have HN0 : Hid (∀ d ∈ C.deeds, (fun k => (p.fd k).isSome) (litD d.id) = false → ¬ Hit ⟨tw, tt, tm⟩ d) := Lib.hid (fun d hd e => by have e' : (p.fd (litD d.id)).isSome = false := e; rw [H1.out.deeds.has d hd] at e'; cases e')
  have HL0 : Hid (∀ k, (fun k => (p.fd k).isSome) k = true → (p.fd k).isSome = true) := Lib.hid (fun _ h => h)
  clear hbel0 hleft hown hg0 hs0 c2
  go_frame
  go_loopw [4] (fun rv wr => ∃ (left : Lit → Bool) (cnt : Nat), rv = .bool false ∧ wr.ranges Tryz.prog 24 anyElem p.dm w1.heap.size C.deeds.length D left cnt ∧ Hid (∀ d ∈ C.deeds, left (litD d.id) = false → ¬ Hit ⟨tw, tt, tm⟩ d) ∧ Hid (∀ k, left k = true → (p.fd k).isSome = true) ∧ Hid (Below w1.heap.size w1 wr)) (fun _ wr => wr.rangeLeft p.dm w1.heap.size)
  case atStart => exact ⟨_, _, rfl, hrg0, HN0, HL0, HBw⟩
  case round =>
    clear hrg0 HN0 HL0 HBw
    obtain ⟨left, cnt, rfl, hrg, HN, HL, HB⟩ := hrel
    obtain ⟨wo, rfl⟩ : ∃ wo, wo = wr := ⟨_, rfl⟩
    go_wp2_with (first
      | (at_next; refine wpList_next_ranges _ rfl _ rfl 24 key24 anyElem (Value.int .u32) (fun v : Value => v) (fun key kl h => by obtain ⟨x, e, _⟩ := Maps.keyOf_int_inv Tryz.underlying24 h; exact ⟨x, e⟩) (fun v y h => ⟨v, rfl⟩) p.dm w1.heap.size C.deeds.length D left cnt rfl hrg ?_ ?_)
      | fail)
    · intro hc0 hl0
      have HW : Hid (waits C.deeds ⟨tw, tt, tm⟩ = false) := Lib.hid (by
        cases hw : waits C.deeds ⟨tw, tt, tm⟩ with
        | false => rfl
        | true =>
          obtain ⟨d, hd, hh⟩ := waits_iff.1 hw
          exact absurd hh (HN.out d hd (hl0 _)))
      go_wp2_with fail
      go_ret
      exact ⟨by rw [HW.out]; rfl, bel_trans HB0.out HB.out⟩
    · intro x cv kk yd yp w2 cnt2 hkey hlk hv hat hrg2 hlt hg2 hs2 hen
      obtain ⟨x', ex, hx', -⟩ := Maps.keyOf_int_inv Tryz.underlying24 hkey
      cases ex
      subst hx'
      have hd : Maps.has D (litD x) = true := by rw [HcD.out.has]; exact HL.out _ hlk
      have hfk : p.fd (litD x) = some cv := entry_any HcD.out hd hv hat
      obtain ⟨d, hdm, hid, sl, rfl, hb⟩ := H1.out.deeds.all _ _ hfk
      obtain ⟨did, ds, ⟨dw, dt, dm2⟩, ws⟩ := d
      obtain ⟨sla, slc, rfl⟩ := hb.open
      have hid' := litD_inj hid
      simp only at hid'
      subst hid'
      have hB2 : Below w1.heap.size w1 w2 := HB.out.grown hg2 HB.out.size (fun b e => by injection e with e; omega)
      have HB2 := Lib.hid hB2
      have hmeas : w2.rangeLeft p.dm w1.heap.size < wo.rangeLeft p.dm w1.heap.size := by rw [hrg2.left_eq, hrg.left_eq]; exact hlt
      have HR2 := Lib.hid hrg2
      have HLn : Hid (∀ k, (left k && !k.sameKey (litD x)) = true → (p.fd k).isSome = true) := Lib.hid (fun k h => HL.out k (by simp at h; exact h.1))
      have Hdm := Lib.hid hdm
      unfold dval at hen
      simp only at hen
      have hx2 := HX.out.next hB2
      have t0 : w2.cell? ⟨w.heap.size, 0, none⟩ = some (.int .i64 tw) := hx2.cell 0
      clear hd hfk hb hkey hlk hv hat hrg2 hlt hg2 hs2 hid hdm hrg hx2 t0
      have HD := Lib.hid (Blk.new w2 #[.int .i64 ds, .int .i64 dw, .int .u32 dt, .int .u32 dm2, .slice sla ws.length slc] 181)
      have HBd := Lib.hid (below_alloc w2 (.cells #[.int .i64 ds, .int .i64 dw, .int .u32 dt, .int .u32 dm2, .slice sla ws.length slc] 181))
      have Hmeas := Lib.hid hmeas
      have HNx : Hid (¬ Hit ⟨tw, tt, tm⟩ ⟨x, ds, ⟨dw, dt, dm2⟩, ws⟩ → ∀ d ∈ C.deeds, (left (litD d.id) && !(litD d.id).sameKey (litD x)) = false → ¬ Hit ⟨tw, tt, tm⟩ d) := Lib.hid (fun hn d hd e => by
        rw [same_litD] at e
        by_cases hi : d.id = x
        · have := rise_same H1.out.inv.rise hd Hdm.out hi
          rw [this]; exact hn
        · simp [hi] at e
          exact HN.out d hd e)
      clear hmeas
      go_upto_region 4 with fail
      generalize w2.alloc (.cells #[.int .i64 ds, .int .i64 dw, .int .u32 dt, .int .u32 dm2, .slice sla ws.length slc] 181) = w3 at HD HBd ⊢
      have Hlx : Hid (w1.heap.size ≤ w2.heap.size) := Lib.hid HB2.out.size
      generalize hg9 : w2.heap.size = g9 at HD ⊢
      have HB3 := Lib.hid (bel_trans HB2.out HBd.out)
      have hx3 := HX.out.next HB3.out
      have t0 : w3.cell? ⟨w.heap.size, 0, none⟩ = some (.int .i64 tw) := hx3.cell 0
      have t1 : w3.cell? ⟨w.heap.size, 1, none⟩ = some (.int .u32 tt) := hx3.cell 1
      have t2 : w3.cell? ⟨w.heap.size, 2, none⟩ = some (.int .u32 tm) := hx3.cell 2
      have d0 : w3.cell? ⟨g9, 0, none⟩ = some (.int .i64 ds) := HD.out.cell 0
      have d1 : w3.cell? ⟨g9, 1, none⟩ = some (.int .i64 dw) := HD.out.cell 1
      have d2 : w3.cell? ⟨g9, 2, none⟩ = some (.int .u32 dt) := HD.out.cell 2
      have d3 : w3.cell? ⟨g9, 3, none⟩ = some (.int .u32 dm2) := HD.out.cell 3
      have HR3 : Hid (w3.ranges Tryz.prog 24 anyElem p.dm w1.heap.size C.deeds.length D (fun z => left z && !z.sameKey (litD x)) cnt2) := Lib.hid (ranges_keep (G := fun _ => False) HR2.out (Turn.of HBd.out) (fun e => e) (fun e => e))
      clear hx3 hen hg9
      by_cases hs : ds = 1
      · have hsb : (ds == 1) = true := by rw [hs]; rfl
        have HCm := Lib.hid (fun W => compare_any ⟨dw, dt, dm2⟩ ⟨tw, tt, tm⟩ W)
        unfold Tm.val at HCm
        simp only at HCm
        have HLe : Hid (cmpT ⟨dw, dt, dm2⟩ ⟨tw, tt, tm⟩ ≤ 0 ↔ ¬ (⟨tw, tt, tm⟩ : Tm).lt ⟨dw, dt, dm2⟩) := Lib.hid cmpT_le
        generalize cmpT ⟨dw, dt, dm2⟩ ⟨tw, tt, tm⟩ = z at HCm HLe
        by_cases hz : z ≤ 0
        · have hzb : decide (z ≤ 0) = true := by simpa using hz
          have HW : Hid (waits C.deeds ⟨tw, tt, tm⟩ = true) := Lib.hid (waits_iff.2 ⟨_, Hdm.out, hs, HLe.out.1 hz⟩)
          clear hs hz
          go_wp2_with (first
            | (go_at_call 26; refine (HCm.out _).mono ?_; rintro e w7 ⟨rfl, hb7⟩; have HB7 := Lib.hid hb7; clear hb7)
            | fail)
          go_ret
          exact ⟨by rw [HW.out]; rfl, bel_trans HB0.out (bel_trans HB3.out HB7.out)⟩
        · have hzb : decide (z ≤ 0) = false := by simpa using hz
          have HNn := Lib.hid (HNx.out (fun hh => hz (HLe.out.2 hh.2)))
          clear hs hz
          go_wp2_with (first
            | (go_at_call 26; refine (HCm.out _).mono ?_; rintro e w7 ⟨rfl, hb7⟩; have HB7 := Lib.hid hb7; clear hb7)
            | fail)
          go_roundw
          case rel => exact ⟨_, cnt2, rfl, ranges_keep (G := fun _ => False) HR3.out (Turn.of HB7.out) (fun e => e) (fun e => e), HNn, HLn, Lib.hid (bel_trans HB3.out HB7.out)⟩
          case measure => rw [World.ranges.left_eq (ranges_keep (G := fun _ => False) HR3.out (Turn.of HB7.out) (fun e => e) (fun e => e)), ← HR2.out.left_eq]; exact Hmeas.out
      · have hsb : (ds == 1) = false := bne_of hs
        have HNn := Lib.hid (HNx.out (fun hh => hs hh.1))
        clear hs
        go_wp2_with fail
        go_roundw
        case rel => exact ⟨_, cnt2, rfl, HR3.out, HNn, HLn, HB3⟩
        case measure => rw [HR3.out.left_eq, ← HR2.out.left_eq]; exact Hmeas.out
end Go.Proofs.YtbaflgddpciadaaGreat
