/- The document's Get of a chain (55). -/
import Derived.Test.YtplieoalfbpniaaGreatD6
set_option linter.unusedVariables false
set_option linter.unusedSimpArgs false
namespace Go.Proofs.YtplieoalfbpniaaGreat
open Go.RowKit Go.Kt Go.Ix Go.Sx
set_option maxRecDepth 100000
theorem getC_zero {l : List Ver} {t : Tm} (h : upto l t = 0) : getC l t = none := by unfold getC; rw [h]
theorem getC_succ {l : List Ver} {t : Tm} {i : Nat} {x : Ver} (h : upto l t = i + 1) (hx : l[i]? = some x) : getC l t = if x.kind = 3 then none else some x := by unfold getC; rw [h]; simp only [hx]
set_option maxHeartbeats 8000000 in
theorem rget_any (v : Value) (l : List Ver) (t : Tm) (w : World) (hv : RdV w v l) (hc : Chain l) (hl : l.length ≤ 65536) :
    Calls Tryz.prog 55 #[v, t.val] w fun e w' => ∃ (x : Ver) (ok : Bool), e = .returned (.tuple #[x.val, .bool ok]) ∧ getC l t = (if ok = true then some x else none) ∧ Below w.heap.size w w' := by
  obtain ⟨a, cap, rfl, hcap, hbig, -⟩ := hv.open
  have HV := Lib.hid hv
  have hla := fun W (h : Below w.heap.size w W) => last_any (.slice a l.length cap) l t W (hv.below h) hc hl
  have hul := upto_le l t
  obtain ⟨n, hn⟩ : ∃ n, upto l t = n := ⟨_, rfl⟩
  have HG0 : Hid (n = 0 → getC l t = none) := Lib.hid (fun h => getC_zero (hn.trans h))
  have HG1 : Hid (∀ i x, n = i + 1 → l[i]? = some x → getC l t = if x.kind = 3 then none else some x) := Lib.hid (fun i x h hx => getC_succ (hn.trans h) hx)
  rw [hn] at hla hul
  obtain ⟨tw, tt, tm⟩ := t
  unfold Tm.val at hla ⊢
  simp only at hla ⊢
  have HLa := Lib.hid hla
  have HU := Lib.hid hul
  generalize getC l ⟨tw, tt, tm⟩ = G at HG0 HG1 ⊢
  clear hv hc hl hla hn hul
  have HX := Lib.hid ((Blk.new w #[.int .i64 tw, .int .u32 tt, .int .u32 tm] 25).next (below_alloc _ (.cells #[.int .i64 0, .int .u32 0, .int .u32 0, .int .i64 0, .int .i64 0, .string ⟨#[]⟩] 127)))
  have HY := Lib.hid (Blk.new (w.alloc (.cells #[.int .i64 tw, .int .u32 tt, .int .u32 tm] 25)) #[.int .i64 0, .int .u32 0, .int .u32 0, .int .i64 0, .int .i64 0, .string ⟨#[]⟩] 127)
  rw [World.size_alloc] at HY
  have HBa := Lib.hid (bel_alloc (o := .cells #[.int .i64 0, .int .u32 0, .int .u32 0, .int .i64 0, .int .i64 0, .string ⟨#[]⟩] 127) (below_alloc w (.cells #[.int .i64 tw, .int .u32 tt, .int .u32 tm] 25)))
  go_enter Tryz.func55, Tryz.ntmps55
  go_upto_region 1 with fail
  generalize (w.alloc (.cells #[.int .i64 tw, .int .u32 tt, .int .u32 tm] 25)).alloc (.cells #[.int .i64 0, .int .u32 0, .int .u32 0, .int .i64 0, .int .i64 0, .string ⟨#[]⟩] 127) = w1 at HX HBa HY ⊢
  have x0 : w1.cell? ⟨w.heap.size, 0, none⟩ = some (.int .i64 tw) := HX.out.cell 0
  have x1 : w1.cell? ⟨w.heap.size, 1, none⟩ = some (.int .u32 tt) := HX.out.cell 1
  have x2 : w1.cell? ⟨w.heap.size, 2, none⟩ = some (.int .u32 tm) := HX.out.cell 2
  go_upto_region 2 with (first
    | (go_at_call 77; refine (HLa.out w1 HBa.out).mono ?_; rintro e w2 ⟨rfl, hb2⟩; have HB2 := Lib.hid (bel_trans HBa.out hb2); have HY2 := Lib.hid (HY.out.next hb2); clear hb2)
    | fail)
  clear x0 x1 x2 HLa HX HBa HY
  have g0 : w2.cell? ⟨w.heap.size + 1, 0, none⟩ = some (.int .i64 0) := HY2.out.cell 0
  have g1 : w2.cell? ⟨w.heap.size + 1, 1, none⟩ = some (.int .u32 0) := HY2.out.cell 1
  have g2 : w2.cell? ⟨w.heap.size + 1, 2, none⟩ = some (.int .u32 0) := HY2.out.cell 2
  have g3 : w2.cell? ⟨w.heap.size + 1, 3, none⟩ = some (.int .i64 0) := HY2.out.cell 3
  have g4 : w2.cell? ⟨w.heap.size + 1, 4, none⟩ = some (.int .i64 0) := HY2.out.cell 4
  have g5 : w2.cell? ⟨w.heap.size + 1, 5, none⟩ = some (.string ⟨#[]⟩) := HY2.out.cell 5
  have f0 : w2.frozen? ⟨w.heap.size + 1, 0, none⟩ = false := HY2.out.free 0
  have f1 : w2.frozen? ⟨w.heap.size + 1, 1, none⟩ = false := HY2.out.free 1
  have f2 : w2.frozen? ⟨w.heap.size + 1, 2, none⟩ = false := HY2.out.free 2
  have f3 : w2.frozen? ⟨w.heap.size + 1, 3, none⟩ = false := HY2.out.free 3
  have f4 : w2.frozen? ⟨w.heap.size + 1, 4, none⟩ = false := HY2.out.free 4
  have f5 : w2.frozen? ⟨w.heap.size + 1, 5, none⟩ = false := HY2.out.free 5
  cases n with
  | zero =>
    have hneg : ((0 : Nat) : Int) - 1 < 0 := by omega
    have HGn := Lib.hid (HG0.out rfl)
    go_wp2_with fail
    have hle : w.heap.size ≤ w.heap.size + 1 := by omega
    have hy := set6 HY2.out (.int .i64 0) (.int .u32 0) (.int .u32 0) (.int .i64 0) (.int .i64 0) (.string ⟨#[]⟩)
    have hb3 := bel_set (bel_set (bel_set (bel_set (bel_set (bel_set HB2.out (p := ⟨w.heap.size + 1, 0, none⟩) hle (u := .int .i64 0)) (p := ⟨w.heap.size + 1, 1, none⟩) hle (u := .int .u32 0)) (p := ⟨w.heap.size + 1, 2, none⟩) hle (u := .int .u32 0)) (p := ⟨w.heap.size + 1, 3, none⟩) hle (u := .int .i64 0)) (p := ⟨w.heap.size + 1, 4, none⟩) hle (u := .int .i64 0)) (p := ⟨w.heap.size + 1, 5, none⟩) hle (u := .string ⟨#[]⟩)
    clear hle
    generalize ((((((w2.setCell ⟨w.heap.size + 1, 0, none⟩ (.int .i64 0)).setCell ⟨w.heap.size + 1, 1, none⟩ (.int .u32 0)).setCell ⟨w.heap.size + 1, 2, none⟩ (.int .u32 0)).setCell ⟨w.heap.size + 1, 3, none⟩ (.int .i64 0)).setCell ⟨w.heap.size + 1, 4, none⟩ (.int .i64 0)).setCell ⟨w.heap.size + 1, 5, none⟩ (.string ⟨#[]⟩)) = w3 at hy hb3 ⊢
    have z0 : w3.cell? ⟨w.heap.size + 1, 0, none⟩ = some (.int .i64 0) := hy.cell 0
    have z1 : w3.cell? ⟨w.heap.size + 1, 1, none⟩ = some (.int .u32 0) := hy.cell 1
    have z2 : w3.cell? ⟨w.heap.size + 1, 2, none⟩ = some (.int .u32 0) := hy.cell 2
    have z3 : w3.cell? ⟨w.heap.size + 1, 3, none⟩ = some (.int .i64 0) := hy.cell 3
    have z4 : w3.cell? ⟨w.heap.size + 1, 4, none⟩ = some (.int .i64 0) := hy.cell 4
    have z5 : w3.cell? ⟨w.heap.size + 1, 5, none⟩ = some (.string ⟨#[]⟩) := hy.cell 5
    refine bodyPost_ret (v := .tuple #[Ver.val ⟨⟨0, 0, 0⟩, 0, 0, ⟨#[]⟩⟩, .bool false]) (by simp [results, Tryz.results55, go_sem, Ver.val, z0, z1, z2, z3, z4, z5]) rfl ⟨⟨⟨0, 0, 0⟩, 0, 0, ⟨#[]⟩⟩, .inl ⟨rfl, HGn.out, hb3⟩⟩
  | succ i =>
    have hi := HU.out
    obtain ⟨x, hx⟩ : ∃ x, l[i]? = some x := ⟨l[i], List.getElem?_eq_getElem (by omega)⟩
    obtain ⟨b, o, rfl, hbl, c0, c1, c2, c3, c4, c5⟩ := rdV_cells HV.out i x hx
    have hg := HG1.out i x rfl hx
    obtain ⟨⟨xw, xt, xm⟩, xk, xn, xx⟩ := x
    simp only at c0 c1 c2 c3 c4 c5 hg
    have d0 : w2.cell? ⟨b, o + i * 6, none⟩ = some (.int .i64 xw) := (HB2.out.cell (p := ⟨b, _, none⟩) hbl).trans c0
    have d1 : w2.cell? ⟨b, o + i * 6 + 1, none⟩ = some (.int .u32 xt) := (HB2.out.cell (p := ⟨b, _, none⟩) hbl).trans c1
    have d2 : w2.cell? ⟨b, o + i * 6 + 2, none⟩ = some (.int .u32 xm) := (HB2.out.cell (p := ⟨b, _, none⟩) hbl).trans c2
    have d3 : w2.cell? ⟨b, o + i * 6 + 3, none⟩ = some (.int .i64 xk) := (HB2.out.cell (p := ⟨b, _, none⟩) hbl).trans c3
    have d4 : w2.cell? ⟨b, o + i * 6 + 4, none⟩ = some (.int .i64 xn) := (HB2.out.cell (p := ⟨b, _, none⟩) hbl).trans c4
    have d5 : w2.cell? ⟨b, o + i * 6 + 5, none⟩ = some (.string xx) := (HB2.out.cell (p := ⟨b, _, none⟩) hbl).trans c5
    obtain ⟨z, hz⟩ : ∃ z : Int, ((i + 1 : Nat) : Int) - 1 = z := ⟨_, rfl⟩
    have hzi : z = (i : Int) := by omega
    subst hzi
    rw [hz]
    have hn1 : decide ((i : Int) < 0) = false := by simp
    have hn2 : ¬ (i : Int) < 0 := by omega
    have hn3 : (0 : Int) ≤ (i : Int) := by omega
    have hn4 : (i : Int) < (l.length : Int) := by omega
    have Hg := Lib.hid hg
    clear c0 c1 c2 c3 c4 c5 hx hz hg hi
    by_cases hk : xk = 3
    · have hkb : (xk == 3) = true := by simp [hk]
      have HGn : Hid (G = none) := Lib.hid (by rw [Hg.out, if_pos hk])
      clear hk
      go_wp2_with fail
      have hle : w.heap.size ≤ w.heap.size + 1 := by omega
      have hy := set6 HY2.out (.int .i64 0) (.int .u32 0) (.int .u32 0) (.int .i64 0) (.int .i64 0) (.string ⟨#[]⟩)
      have hb3 := bel_set (bel_set (bel_set (bel_set (bel_set (bel_set HB2.out (p := ⟨w.heap.size + 1, 0, none⟩) hle (u := .int .i64 0)) (p := ⟨w.heap.size + 1, 1, none⟩) hle (u := .int .u32 0)) (p := ⟨w.heap.size + 1, 2, none⟩) hle (u := .int .u32 0)) (p := ⟨w.heap.size + 1, 3, none⟩) hle (u := .int .i64 0)) (p := ⟨w.heap.size + 1, 4, none⟩) hle (u := .int .i64 0)) (p := ⟨w.heap.size + 1, 5, none⟩) hle (u := .string ⟨#[]⟩)
      clear hle
      generalize ((((((w2.setCell ⟨w.heap.size + 1, 0, none⟩ (.int .i64 0)).setCell ⟨w.heap.size + 1, 1, none⟩ (.int .u32 0)).setCell ⟨w.heap.size + 1, 2, none⟩ (.int .u32 0)).setCell ⟨w.heap.size + 1, 3, none⟩ (.int .i64 0)).setCell ⟨w.heap.size + 1, 4, none⟩ (.int .i64 0)).setCell ⟨w.heap.size + 1, 5, none⟩ (.string ⟨#[]⟩)) = w3 at hy hb3 ⊢
      have z0 : w3.cell? ⟨w.heap.size + 1, 0, none⟩ = some (.int .i64 0) := hy.cell 0
      have z1 : w3.cell? ⟨w.heap.size + 1, 1, none⟩ = some (.int .u32 0) := hy.cell 1
      have z2 : w3.cell? ⟨w.heap.size + 1, 2, none⟩ = some (.int .u32 0) := hy.cell 2
      have z3 : w3.cell? ⟨w.heap.size + 1, 3, none⟩ = some (.int .i64 0) := hy.cell 3
      have z4 : w3.cell? ⟨w.heap.size + 1, 4, none⟩ = some (.int .i64 0) := hy.cell 4
      have z5 : w3.cell? ⟨w.heap.size + 1, 5, none⟩ = some (.string ⟨#[]⟩) := hy.cell 5
      refine bodyPost_ret (v := .tuple #[Ver.val ⟨⟨0, 0, 0⟩, 0, 0, ⟨#[]⟩⟩, .bool false]) (by simp [results, Tryz.results55, go_sem, Ver.val, z0, z1, z2, z3, z4, z5]) rfl ⟨⟨⟨0, 0, 0⟩, 0, 0, ⟨#[]⟩⟩, .inl ⟨rfl, HGn.out, hb3⟩⟩
    · have hkb : (xk == 3) = false := bne_of hk
      have HGs : Hid (G = some ⟨⟨xw, xt, xm⟩, xk, xn, xx⟩) := Lib.hid (by rw [Hg.out, if_neg hk])
      clear hk
      go_wp2_with fail
      have hle : w.heap.size ≤ w.heap.size + 1 := by omega
      have hy := set6 HY2.out (.int .i64 xw) (.int .u32 xt) (.int .u32 xm) (.int .i64 xk) (.int .i64 xn) (.string xx)
      have hb3 := bel_set (bel_set (bel_set (bel_set (bel_set (bel_set HB2.out (p := ⟨w.heap.size + 1, 0, none⟩) hle (u := .int .i64 xw)) (p := ⟨w.heap.size + 1, 1, none⟩) hle (u := .int .u32 xt)) (p := ⟨w.heap.size + 1, 2, none⟩) hle (u := .int .u32 xm)) (p := ⟨w.heap.size + 1, 3, none⟩) hle (u := .int .i64 xk)) (p := ⟨w.heap.size + 1, 4, none⟩) hle (u := .int .i64 xn)) (p := ⟨w.heap.size + 1, 5, none⟩) hle (u := .string xx)
      clear hle
      generalize ((((((w2.setCell ⟨w.heap.size + 1, 0, none⟩ (.int .i64 xw)).setCell ⟨w.heap.size + 1, 1, none⟩ (.int .u32 xt)).setCell ⟨w.heap.size + 1, 2, none⟩ (.int .u32 xm)).setCell ⟨w.heap.size + 1, 3, none⟩ (.int .i64 xk)).setCell ⟨w.heap.size + 1, 4, none⟩ (.int .i64 xn)).setCell ⟨w.heap.size + 1, 5, none⟩ (.string xx)) = w3 at hy hb3 ⊢
      have z0 : w3.cell? ⟨w.heap.size + 1, 0, none⟩ = some (.int .i64 xw) := hy.cell 0
      have z1 : w3.cell? ⟨w.heap.size + 1, 1, none⟩ = some (.int .u32 xt) := hy.cell 1
      have z2 : w3.cell? ⟨w.heap.size + 1, 2, none⟩ = some (.int .u32 xm) := hy.cell 2
      have z3 : w3.cell? ⟨w.heap.size + 1, 3, none⟩ = some (.int .i64 xk) := hy.cell 3
      have z4 : w3.cell? ⟨w.heap.size + 1, 4, none⟩ = some (.int .i64 xn) := hy.cell 4
      have z5 : w3.cell? ⟨w.heap.size + 1, 5, none⟩ = some (.string xx) := hy.cell 5
      refine bodyPost_ret (v := .tuple #[Ver.val ⟨⟨xw, xt, xm⟩, xk, xn, xx⟩, .bool true]) (by simp [results, Tryz.results55, go_sem, Ver.val, z0, z1, z2, z3, z4, z5]) rfl ⟨⟨⟨xw, xt, xm⟩, xk, xn, xx⟩, .inr ⟨rfl, HGs.out, hb3⟩⟩
end Go.Proofs.YtplieoalfbpniaaGreat
