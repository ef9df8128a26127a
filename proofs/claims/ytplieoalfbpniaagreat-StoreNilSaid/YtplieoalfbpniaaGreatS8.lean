/- Chains: chain.Put (40). -/
import Derived.Test.YtplieoalfbpniaaGreatS7
namespace Go.Proofs.YtplieoalfbpniaaGreat
open Go.RowKit Go.Kt Go.Ix Go.Sx
set_option maxRecDepth 100000

theorem Mine.own_lt {e : TypeId} {size : Nat} {w0 w : World} {v : Value} {n : Nat} {xs : List Value} (h : Mine e size w0 w v n xs) : ∀ b, v.ownBlock = some b → b < w.heap.size := fun b hb => h.1.lt b hb
theorem MineV.since {w0 w1 w : World} {v : Value} {l : List Ver} (hb : Below w0.heap.size w0 w1) (h : MineV w1 w v l) : MineV w0 w v l :=
  ⟨h.1, fun b hb' => Nat.le_trans hb.size (h.2.1 b hb'), bel_trans hb h.2.2⟩
set_option maxHeartbeats 4000000 in
theorem putc_any (v : Value) (l : List Ver) (x : Ver) (w : World) (hv : RdV w v l) (hl : Chain l) (hn : l.length ≤ 1048576) (hs : x.text.size ≤ maxLen) :
    Calls Tryz.prog 40 #[v, x.val] w fun e w' => ∃ v', e = .returned (.tuple #[v', .int .i64 (putC l x).1]) ∧ ((putC l x).1 = 0 → MineV w w' v' (putC l x).2) ∧ Below w.heap.size w w' := by
  obtain ⟨a, cap, rfl, -⟩ := hv.open
  have HV := Lib.hid hv
  have HR := Lib.hid (fun W => verR_any x W hs)
  have HS := Lib.hid (fun (W : World) (hW : Below w.heap.size w W) => place_any (.slice a l.length cap) l x.at_ W (hv.below hW) hl hn)
  have hpl := place_le l x.at_
  have HP : Hid (putC l x = if ¬ verR x then (1, []) else if has l x.at_ = true then (7, []) else (0, l.take (place l x.at_) ++ x :: l.drop (place l x.at_))) := Lib.hid rfl
  generalize putC l x = r at HP ⊢
  generalize place l x.at_ = p at HS HP hpl
  generalize has l x.at_ = q at HS HP
  have HI := Lib.hid (fun (w0 W : World) (u : Value) (xb : Nat) h1 (h2 : Blk W xb #[.int .i64 x.at_.wall, .int .u32 x.at_.tick, .int .u32 x.at_.mark, .int .i64 x.kind, .int .i64 x.num, .string x.text] 98) h3 => insert_any (w0 := w0) (w := W) u p l x xb h1 h2 h3 hn hpl)
  generalize l.take p ++ x :: l.drop p = X at HI HP
  have HP2 : Hid (r = if decide (verR x) = false then (1, []) else if q = true then (7, []) else (0, X)) := Lib.hid (by rw [HP.out]; simp only [decide_eq_false_iff_not])
  generalize decide (verR x) = d at HP2 HR
  clear hv hl HP
  obtain ⟨⟨xw, xt, xm⟩, xk, xn, xx⟩ := x
  unfold Ver.val Tm.val at *
  simp only at *
  cases d with
  | false =>
    have HP3 : Hid (r = (1, [])) := Lib.hid HP2.out
    clear HP2
    go_enter Tryz.func40, Tryz.ntmps40
    go_wp2_with (first | (go_at_call 51; refine (HR.out _).mono ?_; rintro e w1 ⟨rfl, hb1⟩; have HB1 := Lib.hid (bel_trans (below_alloc w _) hb1); clear hb1) | fail)
    refine bodyPost_ret (v := .tuple #[.slice none 0 0, .int .i64 1]) (by simp [results, Tryz.results40, go_sem, *]) rfl ?_
    rw [HP3.out]
    exact ⟨_, rfl, (fun h => by cases h), HB1.out⟩
  | true =>
    cases q with
    | true =>
      have HP3 : Hid (r = (7, [])) := Lib.hid HP2.out
      clear HP2
      go_enter Tryz.func40, Tryz.ntmps40
      go_wp2_with (first
        | (go_at_call 51; refine (HR.out _).mono ?_; rintro e w1 ⟨rfl, hb1⟩; have HB1 := Lib.hid (bel_trans (below_alloc w _) hb1); have hx := (Blk.new w #[.int .i64 xw, .int .u32 xt, .int .u32 xm, .int .i64 xk, .int .i64 xn, .string xx] 98).next hb1; have x0 : w1.cell? ⟨w.heap.size, 0, none⟩ = some (.int .i64 xw) := hx.cell 0; have x1 : w1.cell? ⟨w.heap.size, 1, none⟩ = some (.int .u32 xt) := hx.cell 1; have x2 : w1.cell? ⟨w.heap.size, 2, none⟩ = some (.int .u32 xm) := hx.cell 2; clear hb1 hx)
        | (go_at_call 65; refine (HS.out _ HB1.out).mono ?_; rintro e w2 ⟨rfl, hb2⟩; have HB2 := Lib.hid (bel_trans HB1.out hb2); clear hb2)
        | fail)
      refine bodyPost_ret (v := .tuple #[.slice none 0 0, .int .i64 7]) (by simp [results, Tryz.results40, go_sem, *]) rfl ?_
      rw [HP3.out]
      exact ⟨_, rfl, (fun h => by cases h), HB2.out⟩
    | false =>
      have HP3 : Hid (r = (0, X)) := Lib.hid HP2.out
      clear HP2
      go_enter Tryz.func40, Tryz.ntmps40
      go_upto_region 6 with (first
        | (go_at_call 51; refine (HR.out _).mono ?_; rintro e w1 ⟨rfl, hb1⟩; have HB1 := Lib.hid (bel_trans (below_alloc w _) hb1); have hx := (Blk.new w #[.int .i64 xw, .int .u32 xt, .int .u32 xm, .int .i64 xk, .int .i64 xn, .string xx] 98).next hb1; have HX1 := Lib.hid hx; have x0 : w1.cell? ⟨w.heap.size, 0, none⟩ = some (.int .i64 xw) := hx.cell 0; have x1 : w1.cell? ⟨w.heap.size, 1, none⟩ = some (.int .u32 xt) := hx.cell 1; have x2 : w1.cell? ⟨w.heap.size, 2, none⟩ = some (.int .u32 xm) := hx.cell 2; clear hb1 hx)
        | (go_at_call 65; refine (HS.out _ HB1.out).mono ?_; rintro e w2 ⟨rfl, hb2⟩; have HX2 := Lib.hid (HX1.out.next hb2); have HB2 := Lib.hid (bel_trans HB1.out hb2); clear hb2)
        | fail)
      have HV2 := Lib.hid (HV.out.below HB2.out)
      have HK : Hid (∀ W, Below w2.heap.size w2 W → W.cell? ⟨w.heap.size, 0, none⟩ = some (.int .i64 xw) ∧ W.cell? ⟨w.heap.size, 1, none⟩ = some (.int .u32 xt) ∧ W.cell? ⟨w.heap.size, 2, none⟩ = some (.int .u32 xm) ∧ W.cell? ⟨w.heap.size, 3, none⟩ = some (.int .i64 xk) ∧ W.cell? ⟨w.heap.size, 4, none⟩ = some (.int .i64 xn) ∧ W.cell? ⟨w.heap.size, 5, none⟩ = some (.string xx)) := Lib.hid (fun W hW => ⟨(HX2.out.next hW).cell 0, (HX2.out.next hW).cell 1, (HX2.out.next hW).cell 2, (HX2.out.next hW).cell 3, (HX2.out.next hW).cell 4, (HX2.out.next hW).cell 5⟩)
      have hx2 := bel_refl w2
      obtain ⟨k0, k1, k2, k3, k4, k5⟩ := HK.out _ hx2
      clear x0 x1 x2
      go_region_law
        (first
          | (go_simp; go_at_call 69; refine (clonev_any (.slice a l.length cap) l _ (HV2.out.below (by repeat (first | assumption | exact bel_refl _ | apply bel_alloc | apply bel_drew))) hn).mono ?_; rintro e w6 ⟨v6, rfl, hm6⟩; have hx6 : Below w2.heap.size w2 w6 := bel_trans (by repeat (first | assumption | exact bel_refl _ | apply bel_alloc | apply bel_drew)) hm6.bel; obtain ⟨q0, q1, q2, q3, q4, q5⟩ := HK.out _ hx6; have HM6 := Lib.hid hm6; clear hm6)
          | (go_simp; go_at_call 68; refine (HI.out _ _ v6 _ (HM6.out.below (by repeat (first | exact bel_refl _ | apply bel_alloc | apply bel_drew))) (by first | exact Blk.new _ _ _ | exact Blk.next (w := World.drew (World.alloc w2 _)) (Blk.new w2 _ _) HM6.out.bel | exact Blk.next (w := World.alloc (World.drew w2) _) (Blk.new (World.drew w2) _ _) HM6.out.bel | exact Blk.next (w := World.alloc w2 _) (Blk.new w2 _ _) HM6.out.bel) (by first | exact (fun e => absurd (HM6.out.1.lt _ e) (Nat.lt_irrefl _)) | (intro e; have := HM6.out.2.1 _ e; simp only [World.size_alloc, World.size_drew] at this; omega))).mono ?_; rintro e w8 ⟨v8, rfl, hm8⟩; have HM8 := Lib.hid hm8; clear hm8))
      all_goals
        have HM9 : Hid (MineV w w8 v8 X) := Lib.hid (MineV.since (by repeat (first | exact HB2.out | apply bel_alloc | apply bel_drew)) HM8.out)
        clear HM8 HM6 q0 q1 q2 q3 q4 q5 k0 k1 k2 k3 k4 k5 HI HK HS HR
        go_wp2_with fail
        refine bodyPost_ret (v := .tuple #[v8, .int .i64 0]) (by simp [results, Tryz.results40, go_sem]) rfl ?_
        rw [HP3.out]
        exact ⟨_, rfl, (fun _ => HM9.out), HM9.out.2.2⟩
end Go.Proofs.YtplieoalfbpniaaGreat
