/- Chains: place (65), Clone (69), Get (37), Cut (46). -/
import Derived.Test.YtplieoalfbpniaaGreatS3
namespace Go.Proofs.YtplieoalfbpniaaGreat
open Go.RowKit Go.Kt Go.Ix Go.Sx
set_option maxRecDepth 100000

set_option maxHeartbeats 1000000 in
theorem place_any (v : Value) (l : List Ver) (t : Tm) (w : World) (hv : RdV w v l) (hl : Chain l) (hn : l.length ≤ 1048576) :
    Calls Tryz.prog 65 #[v, t.val] w fun e w' => e = .returned (.tuple #[.int .i64 (place l t : Int), .bool (has l t)]) ∧ Below w.heap.size w w' := by
  obtain ⟨a, cap, rfl, -⟩ := hv.open
  have HS := Lib.hid (fun (W : World) (hW : Below w.heap.size w W) => search_any (.slice a l.length cap) l t W (hv.below hW) hl hn)
  clear hv hl
  generalize (place l t : Int) = p at HS ⊢
  generalize has l t = q at HS ⊢
  obtain ⟨tw, tt, tm⟩ := t
  unfold Tm.val at HS ⊢
  simp only at HS ⊢
  go_enter Tryz.func65, Tryz.ntmps65
  go_wp2_with (first | (go_at_call 91; refine (HS.out _ (bel_alloc (bel_refl w))).mono ?_; rintro e w1 ⟨rfl, hb1⟩) | fail)
  refine bodyPost_ret (v := .tuple #[.int .i64 p, .bool q]) (by simp [results, Tryz.results65, go_sem, *]) rfl ?_
  exact ⟨rfl, bel_trans (below_alloc _ _) hb1⟩

theorem ok96 : ElemOk Tryz.prog 96 98 (.agg #[.int .i64 0, .int .u32 0, .int .u32 0, .int .i64 0, .int .i64 0, .string ⟨#[]⟩]) 6 48 := ⟨Tryz.underlying96, info_parts (by kernel_rfl), rfl, by decide⟩
def MineV (w0 w : World) (v : Value) (l : List Ver) : Prop := Mine 98 6 w0 w v l.length (flatV l)
theorem MineV.rd {w0 w : World} {v : Value} {l : List Ver} (h : MineV w0 w v l) : RdV w v l := h.1.rd
theorem MineV.bel {w0 w : World} {v : Value} {l : List Ver} (h : MineV w0 w v l) : Below w0.heap.size w0 w := h.2.2
set_option maxRecDepth 8000 in
set_option maxHeartbeats 1000000 in
theorem clonev_any (v : Value) (l : List Ver) (w : World) (hv : RdV w v l) (hlen : l.length ≤ 1048576) :
    Calls Tryz.prog 69 #[v] w fun e w' => ∃ v', e = .returned v' ∧ MineV w w' v' l := by
  have he := fun (a : Option Addr) (n c : Nat) => Lib.run_eql_slice_nil (P := Tryz.prog) w 96 98 a n c 0 0 Tryz.underlying96
  have HV := Lib.hid hv
  obtain ⟨hl, a, cap, rfl, h1, h2, h3, _⟩ := hv
  cases a with
  | none =>
    obtain rfl : cap = 0 := h3 rfl
    obtain hl0 : l = [] := List.eq_nil_of_length_eq_zero (by omega)
    subst hl0
    clear HV
    go_enter Tryz.func69, Tryz.ntmps69
    go_wp2_with fail
    go_ret
    exact ⟨_, rfl, mine_nil 98 6 w⟩
  | some ad =>
    clear hl h3
    go_enter Tryz.func69, Tryz.ntmps69
    go_wp2_with (at_builtin; apply Hold.mk)
    unfold Hold
    refine wpList_app rfl _ _ 96 rfl ok96 (by rfl) (by rfl) (n := 0) (xs := []) (own_lit w 98 6 #[] 0 (Nat.zero_le _) rfl) (HV.out.below (below_alloc w _)) (by exact flatV_one l) (by simp only [maxLen]; omega) (by omega) ?_
    intro v7 w7 ho7 hg7 hn7
    rw [Nat.zero_add, List.nil_append] at ho7
    have HM7 : Hid (MineV w w7 v7 l) := Lib.hid ⟨ho7, fun b hb => by
        rcases hn7 b hb with h | h
        · have h' : w.heap.size = b := by simpa [Value.ownBlock] using h
          omega
        · simp only [World.size_alloc] at h; omega, (bel_alloc (bel_refl w)).grown hg7 (by simp only [World.size_alloc]; omega) (fun k hk => Nat.le_of_eq (by simpa [Value.ownBlock] using hk))⟩
    clear ho7 hg7 hn7
    go_wp2_with fail
    go_ret
    exact ⟨_, rfl, HM7.out⟩
/-- how many don't stand behind -/
theorem upto_place {l : List Ver} {t : Tm} (hl : Chain l) : upto l t = place l t + (if has l t then 1 else 0) := (chain_parts t hl).2.2
def verNil : Ver := ⟨⟨0, 0, 0⟩, 0, 0, ⟨#[]⟩⟩
/-- what Get hands out -/
def getV (l : List Ver) (t : Tm) : Value := match getC l t with
  | some v => .tuple #[v.val, .bool true]
  | none => .tuple #[verNil.val, .bool false]
theorem rdV_cells {w : World} {a : Option Addr} {c : Nat} {l : List Ver} (h : RdV w (.slice a l.length c) l) : ∀ (i : Nat) (x : Ver), l[i]? = some x → ∃ b o, a = some ⟨b, o, none⟩ ∧ b < w.heap.size ∧ w.cell? ⟨b, o + i * 6, none⟩ = some (.int .i64 x.at_.wall) ∧ w.cell? ⟨b, o + i * 6 + 1, none⟩ = some (.int .u32 x.at_.tick) ∧ w.cell? ⟨b, o + i * 6 + 2, none⟩ = some (.int .u32 x.at_.mark) ∧
      w.cell? ⟨b, o + i * 6 + 3, none⟩ = some (.int .i64 x.kind) ∧ w.cell? ⟨b, o + i * 6 + 4, none⟩ = some (.int .i64 x.num) ∧ w.cell? ⟨b, o + i * 6 + 5, none⟩ = some (.string x.text) := by
  obtain ⟨a', c', e, _, _, hc⟩ := h.open
  injection e with e _ _
  subst e
  exact hc
theorem store6 {w0 w1 : World} {g : Nat} {t : TypeId} {b0 b1 b2 b3 b4 b5 : Value} (h : Blk w1 g #[b0, b1, b2, b3, b4, b5] t) (hb : Below w0.heap.size w0 w1) (hg : w0.heap.size ≤ g) (a0 a1 a2 a3 a4 a5 : Value) :
    ∃ W, W = (((((w1.setCell ⟨g, 0, none⟩ a0).setCell ⟨g, 1, none⟩ a1).setCell ⟨g, 2, none⟩ a2).setCell ⟨g, 3, none⟩ a3).setCell ⟨g, 4, none⟩ a4).setCell ⟨g, 5, none⟩ a5 ∧ Blk W g #[a0, a1, a2, a3, a4, a5] t ∧ Below w0.heap.size w0 W :=
  ⟨_, rfl, (((((h.set 0 a0).set 1 a1).set 2 a2).set 3 a3).set 4 a4).set 5 a5, bel_set (bel_set (bel_set (bel_set (bel_set (bel_set hb hg) hg) hg) hg) hg) hg⟩
set_option maxHeartbeats 4000000 in
theorem getc_any (v : Value) (l : List Ver) (t : Tm) (w : World) (hv : RdV w v l) (hl : Chain l) (hn : l.length ≤ 1048576) :
    Calls Tryz.prog 37 #[v, t.val] w fun e w' => e = .returned (getV l t) ∧ Below w.heap.size w w' := by
  have hu := upto_place (t := t) hl
  have hpl := place_le l t
  have hul := upto_le l t
  obtain ⟨a, cap, rfl, -⟩ := hv.open
  have HV := Lib.hid hv
  have HS := Lib.hid (fun (W : World) (hW : Below w.heap.size w W) => place_any (.slice a l.length cap) l t W (hv.below hW) hl hn)
  have HG : Hid (getV l t = match upto l t with
    | 0 => .tuple #[verNil.val, .bool false]
    | i + 1 => match l[i]? with
      | some v => if v.kind = 3 then .tuple #[verNil.val, .bool false] else .tuple #[v.val, .bool true]
      | none => .tuple #[verNil.val, .bool false]) := Lib.hid (by
    unfold getV getC
    cases upto l t with
    | zero => rfl
    | succ i =>
      simp only
      cases l[i]? with
      | none => rfl
      | some v => by_cases h : v.kind = 3 <;> simp [h])
  generalize getV l t = r at HG ⊢
  generalize place l t = p at HS hu hpl
  generalize has l t = q at HS hu
  generalize upto l t = u at HG hu hul
  clear hv hl
  obtain ⟨tw, tt, tm⟩ := t
  unfold Tm.val at HS ⊢
  simp only at HS ⊢
  have HX := Lib.hid (Blk.new (w.alloc (.cells #[.int .i64 tw, .int .u32 tt, .int .u32 tm] 31)) #[.int .i64 0, .int .u32 0, .int .u32 0, .int .i64 0, .int .i64 0, .string ⟨#[]⟩] 98)
  have HB0 := Lib.hid (bel_alloc (o := .cells #[.int .i64 0, .int .u32 0, .int .u32 0, .int .i64 0, .int .i64 0, .string ⟨#[]⟩] 98) (below_alloc w (.cells #[.int .i64 tw, .int .u32 tt, .int .u32 tm] 31)))
  have HSW : Hid (((w.alloc (.cells #[.int .i64 tw, .int .u32 tt, .int .u32 tm] 31)).alloc (.cells #[.int .i64 0, .int .u32 0, .int .u32 0, .int .i64 0, .int .i64 0, .string ⟨#[]⟩] 98)).heap.size = w.heap.size + 2) := Lib.hid (by simp only [World.size_alloc])
  cases q with
  | true =>
    obtain rfl : u = p + 1 := by rw [hu]; rfl
    clear hu
    go_enter Tryz.func37, Tryz.ntmps37
    go_upto_region 4 with (first | (go_at_call 65; refine (HS.out _ (by repeat (first | exact bel_refl _ | apply bel_alloc | apply bel_drew))).mono ?_; rintro e w1 ⟨rfl, hb1⟩; have HB1 := Lib.hid hb1; clear hb1) | fail)
    have HX1 := HX.out.next HB1.out
    rw [World.size_alloc] at HX1
    have HXX := Lib.hid HX1
    have z0 : w1.cell? ⟨w.heap.size + 1, 0, none⟩ = some (.int .i64 0) := HX1.cell 0
    have f0 : w1.frozen? ⟨w.heap.size + 1, 0, none⟩ = false := HX1.free 0
    have z1 : w1.cell? ⟨w.heap.size + 1, 1, none⟩ = some (.int .u32 0) := HX1.cell 1
    have f1 : w1.frozen? ⟨w.heap.size + 1, 1, none⟩ = false := HX1.free 1
    have z2 : w1.cell? ⟨w.heap.size + 1, 2, none⟩ = some (.int .u32 0) := HX1.cell 2
    have f2 : w1.frozen? ⟨w.heap.size + 1, 2, none⟩ = false := HX1.free 2
    have z3 : w1.cell? ⟨w.heap.size + 1, 3, none⟩ = some (.int .i64 0) := HX1.cell 3
    have f3 : w1.frozen? ⟨w.heap.size + 1, 3, none⟩ = false := HX1.free 3
    have z4 : w1.cell? ⟨w.heap.size + 1, 4, none⟩ = some (.int .i64 0) := HX1.cell 4
    have f4 : w1.frozen? ⟨w.heap.size + 1, 4, none⟩ = false := HX1.free 4
    have z5 : w1.cell? ⟨w.heap.size + 1, 5, none⟩ = some (.string ⟨#[]⟩) := HX1.cell 5
    have f5 : w1.frozen? ⟨w.heap.size + 1, 5, none⟩ = false := HX1.free 5
    have HBw := Lib.hid (bel_trans HB0.out HB1.out)
    have Hsz : Hid (w.heap.size + 2 ≤ w1.heap.size) := Lib.hid (by have := HB1.out.size; have := HSW.out; omega)
    clear HX HX1 HB1 HSW
    obtain ⟨x, hx⟩ : ∃ x, l[p]? = some x := ⟨l[p], List.getElem?_eq_getElem (by omega)⟩
    have HR := HG.out
    rw [hx] at HR
    simp only at HR
    obtain ⟨b, o, rfl, lb, c0, c1, c2, c3, c4, c5⟩ := rdV_cells (HV.out.below HBw.out) p x hx
    have hk1 : (0 : Int) ≤ (p : Int) := by omega
    have hk2 : (p : Int) < (l.length : Int) := by omega
    have hne : b ≠ w.heap.size + 1 := by
      obtain ⟨_, _, e, lb0, -⟩ := rdV_cells HV.out p x hx
      cases e
      omega
    clear hx HG
    by_cases h3 : x.kind = 3
    · rw [if_pos h3] at HR
      have e3 : (x.kind == 3) = true := by rw [beq_iff_eq]; exact h3
      clear h3
      go_wp2_with fail
      obtain ⟨W, hW, hB6, hBl⟩ := store6 HXX.out HBw.out (Nat.le_succ _) (.int .i64 0) (.int .u32 0) (.int .u32 0) (.int .i64 0) (.int .i64 0) (.string ⟨#[]⟩)
      rw [← hW]
      clear hW z0 z1 z2 z3 z4 z5 f0 f1 f2 f3 f4 f5
      have z0 := hB6.cell 0
      have z1 := hB6.cell 1
      have z2 := hB6.cell 2
      have z3 := hB6.cell 3
      have z4 := hB6.cell 4
      have z5 := hB6.cell 5
      refine bodyPost_ret (v := .tuple #[verNil.val, .bool false]) (by simp [results, Tryz.results37, go_sem, verNil, Ver.val, z0, z1, z2, z3, z4, z5]) rfl ?_
      exact ⟨by rw [HR], hBl⟩
    · rw [if_neg h3] at HR
      have e3 : (x.kind == 3) = false := bne_of h3
      clear h3
      go_wp2_with fail
      obtain ⟨W, hW, hB6, hBl⟩ := store6 HXX.out HBw.out (Nat.le_succ _) (.int .i64 x.at_.wall) (.int .u32 x.at_.tick) (.int .u32 x.at_.mark) (.int .i64 x.kind) (.int .i64 x.num) (.string x.text)
      rw [← hW]
      clear hW z0 z1 z2 z3 z4 z5 f0 f1 f2 f3 f4 f5
      have z0 := hB6.cell 0
      have z1 := hB6.cell 1
      have z2 := hB6.cell 2
      have z3 := hB6.cell 3
      have z4 := hB6.cell 4
      have z5 := hB6.cell 5
      refine bodyPost_ret (v := .tuple #[x.val, .bool true]) (by simp [results, Tryz.results37, go_sem, verNil, Ver.val, z0, z1, z2, z3, z4, z5]) rfl ?_
      exact ⟨by rw [HR], hBl⟩
  | false =>
    obtain rfl : u = p := by rw [hu]; rfl
    clear hu
    cases u with
    | zero =>
      go_enter Tryz.func37, Tryz.ntmps37
      go_upto_region 4 with (first | (go_at_call 65; refine (HS.out _ (by repeat (first | exact bel_refl _ | apply bel_alloc | apply bel_drew))).mono ?_; rintro e w1 ⟨rfl, hb1⟩; have HB1 := Lib.hid hb1; clear hb1) | fail)
      have HX1 := HX.out.next HB1.out
      rw [World.size_alloc] at HX1
      have HXX := Lib.hid HX1
      have z0 : w1.cell? ⟨w.heap.size + 1, 0, none⟩ = some (.int .i64 0) := HX1.cell 0
      have f0 : w1.frozen? ⟨w.heap.size + 1, 0, none⟩ = false := HX1.free 0
      have z1 : w1.cell? ⟨w.heap.size + 1, 1, none⟩ = some (.int .u32 0) := HX1.cell 1
      have f1 : w1.frozen? ⟨w.heap.size + 1, 1, none⟩ = false := HX1.free 1
      have z2 : w1.cell? ⟨w.heap.size + 1, 2, none⟩ = some (.int .u32 0) := HX1.cell 2
      have f2 : w1.frozen? ⟨w.heap.size + 1, 2, none⟩ = false := HX1.free 2
      have z3 : w1.cell? ⟨w.heap.size + 1, 3, none⟩ = some (.int .i64 0) := HX1.cell 3
      have f3 : w1.frozen? ⟨w.heap.size + 1, 3, none⟩ = false := HX1.free 3
      have z4 : w1.cell? ⟨w.heap.size + 1, 4, none⟩ = some (.int .i64 0) := HX1.cell 4
      have f4 : w1.frozen? ⟨w.heap.size + 1, 4, none⟩ = false := HX1.free 4
      have z5 : w1.cell? ⟨w.heap.size + 1, 5, none⟩ = some (.string ⟨#[]⟩) := HX1.cell 5
      have f5 : w1.frozen? ⟨w.heap.size + 1, 5, none⟩ = false := HX1.free 5
      have HBw := Lib.hid (bel_trans HB0.out HB1.out)
      have Hsz : Hid (w.heap.size + 2 ≤ w1.heap.size) := Lib.hid (by have := HB1.out.size; have := HSW.out; omega)
      clear HX HX1 HB1 HSW
      have HR := HG.out
      clear HG
      go_wp2_with fail
      obtain ⟨W, hW, hB6, hBl⟩ := store6 HXX.out HBw.out (Nat.le_succ _) (.int .i64 0) (.int .u32 0) (.int .u32 0) (.int .i64 0) (.int .i64 0) (.string ⟨#[]⟩)
      rw [← hW]
      clear hW z0 z1 z2 z3 z4 z5 f0 f1 f2 f3 f4 f5
      have z0 := hB6.cell 0
      have z1 := hB6.cell 1
      have z2 := hB6.cell 2
      have z3 := hB6.cell 3
      have z4 := hB6.cell 4
      have z5 := hB6.cell 5
      refine bodyPost_ret (v := .tuple #[verNil.val, .bool false]) (by simp [results, Tryz.results37, go_sem, verNil, Ver.val, z0, z1, z2, z3, z4, z5]) rfl ?_
      exact ⟨by rw [HR], hBl⟩
    | succ i =>
      go_enter Tryz.func37, Tryz.ntmps37
      go_upto_region 4 with (first | (go_at_call 65; refine (HS.out _ (by repeat (first | exact bel_refl _ | apply bel_alloc | apply bel_drew))).mono ?_; rintro e w1 ⟨rfl, hb1⟩; have HB1 := Lib.hid hb1; clear hb1) | fail)
      have HX1 := HX.out.next HB1.out
      rw [World.size_alloc] at HX1
      have HXX := Lib.hid HX1
      have z0 : w1.cell? ⟨w.heap.size + 1, 0, none⟩ = some (.int .i64 0) := HX1.cell 0
      have f0 : w1.frozen? ⟨w.heap.size + 1, 0, none⟩ = false := HX1.free 0
      have z1 : w1.cell? ⟨w.heap.size + 1, 1, none⟩ = some (.int .u32 0) := HX1.cell 1
      have f1 : w1.frozen? ⟨w.heap.size + 1, 1, none⟩ = false := HX1.free 1
      have z2 : w1.cell? ⟨w.heap.size + 1, 2, none⟩ = some (.int .u32 0) := HX1.cell 2
      have f2 : w1.frozen? ⟨w.heap.size + 1, 2, none⟩ = false := HX1.free 2
      have z3 : w1.cell? ⟨w.heap.size + 1, 3, none⟩ = some (.int .i64 0) := HX1.cell 3
      have f3 : w1.frozen? ⟨w.heap.size + 1, 3, none⟩ = false := HX1.free 3
      have z4 : w1.cell? ⟨w.heap.size + 1, 4, none⟩ = some (.int .i64 0) := HX1.cell 4
      have f4 : w1.frozen? ⟨w.heap.size + 1, 4, none⟩ = false := HX1.free 4
      have z5 : w1.cell? ⟨w.heap.size + 1, 5, none⟩ = some (.string ⟨#[]⟩) := HX1.cell 5
      have f5 : w1.frozen? ⟨w.heap.size + 1, 5, none⟩ = false := HX1.free 5
      have HBw := Lib.hid (bel_trans HB0.out HB1.out)
      have Hsz : Hid (w.heap.size + 2 ≤ w1.heap.size) := Lib.hid (by have := HB1.out.size; have := HSW.out; omega)
      clear HX HX1 HB1 HSW
      obtain ⟨x, hx⟩ : ∃ x, l[i]? = some x := ⟨l[i], List.getElem?_eq_getElem (by omega)⟩
      have HR := HG.out
      rw [hx] at HR
      simp only at HR
      obtain ⟨b, o, rfl, lb, c0, c1, c2, c3, c4, c5⟩ := rdV_cells (HV.out.below HBw.out) i x hx
      have hk1 : (0 : Int) ≤ (i : Int) := by omega
      have hk2 : (i : Int) < (l.length : Int) := by omega
      have hne : b ≠ w.heap.size + 1 := by
        obtain ⟨_, _, e, lb0, -⟩ := rdV_cells HV.out i x hx
        cases e
        omega
      clear hx HG
      by_cases h3 : x.kind = 3
      · rw [if_pos h3] at HR
        have e3 : (x.kind == 3) = true := by rw [beq_iff_eq]; exact h3
        clear h3
        go_wp2_with fail
        obtain ⟨W, hW, hB6, hBl⟩ := store6 HXX.out HBw.out (Nat.le_succ _) (.int .i64 0) (.int .u32 0) (.int .u32 0) (.int .i64 0) (.int .i64 0) (.string ⟨#[]⟩)
        rw [← hW]
        clear hW z0 z1 z2 z3 z4 z5 f0 f1 f2 f3 f4 f5
        have z0 := hB6.cell 0
        have z1 := hB6.cell 1
        have z2 := hB6.cell 2
        have z3 := hB6.cell 3
        have z4 := hB6.cell 4
        have z5 := hB6.cell 5
        refine bodyPost_ret (v := .tuple #[verNil.val, .bool false]) (by simp [results, Tryz.results37, go_sem, verNil, Ver.val, z0, z1, z2, z3, z4, z5]) rfl ?_
        exact ⟨by rw [HR], hBl⟩
      · rw [if_neg h3] at HR
        have e3 : (x.kind == 3) = false := bne_of h3
        clear h3
        go_wp2_with fail
        obtain ⟨W, hW, hB6, hBl⟩ := store6 HXX.out HBw.out (Nat.le_succ _) (.int .i64 x.at_.wall) (.int .u32 x.at_.tick) (.int .u32 x.at_.mark) (.int .i64 x.kind) (.int .i64 x.num) (.string x.text)
        rw [← hW]
        clear hW z0 z1 z2 z3 z4 z5 f0 f1 f2 f3 f4 f5
        have z0 := hB6.cell 0
        have z1 := hB6.cell 1
        have z2 := hB6.cell 2
        have z3 := hB6.cell 3
        have z4 := hB6.cell 4
        have z5 := hB6.cell 5
        refine bodyPost_ret (v := .tuple #[x.val, .bool true]) (by simp [results, Tryz.results37, go_sem, verNil, Ver.val, z0, z1, z2, z3, z4, z5]) rfl ?_
        exact ⟨by rw [HR], hBl⟩
end Go.Proofs.YtplieoalfbpniaaGreat
