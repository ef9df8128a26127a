/- The document's Last (77). -/
import Derived.Test.YtplieoalfbpniaaGreatD2
set_option linter.unusedVariables false
set_option linter.unusedSimpArgs false
namespace Go.Proofs.YtplieoalfbpniaaGreat
open Go.RowKit Go.Kt Go.Ix Go.Sx
set_option maxRecDepth 100000
theorem upto_lt (t : Tm) : ∀ {l : List Ver}, Chain l → ∀ {h : Nat} {x : Ver}, l[h]? = some x → (¬ t.lt x.at_ ↔ h < upto l t)
  | [], _, _, _, hx => by simp at hx
  | y :: l, hl, h, x, hx => by
    have hy := (List.pairwise_cons.1 hl).1
    have hc := (List.pairwise_cons.1 hl).2
    rw [upto_cons]
    by_cases e : t.lt y.at_
    · have h0 : upto l t = 0 := (place_none (fun z hz => Tm.trans e (hy z hz))).2.1
      rw [if_pos e, h0]
      have hb : t.lt x.at_ := by
        match h, hx with
        | 0, hx => simp at hx; rw [← hx]; exact e
        | h + 1, hx => exact Tm.trans e (hy x (List.mem_of_getElem? (by simpa using hx)))
      exact ⟨fun q => absurd hb q, fun q => by omega⟩
    · rw [if_neg e]
      match h, hx with
      | 0, hx =>
        simp at hx
        rw [← hx]
        exact ⟨fun _ => by omega, fun _ => e⟩
      | h + 1, hx =>
        have := upto_lt t hc (h := h) (x := x) (by simpa using hx)
        rw [this]
        omega
set_option maxHeartbeats 4000000 in
theorem last_any (v : Value) (l : List Ver) (t : Tm) (w : World) (hv : RdV w v l) (hc : Chain l) (hl : l.length ≤ 65536) :
    Calls Tryz.prog 77 #[v, t.val] w fun e w' => e = .returned (.int .i64 ((upto l t : Int) - 1)) ∧ Below w.heap.size w w' := by
  obtain ⟨a, cap, rfl, hcap, hbig, -⟩ := hv.open
  have HV := Lib.hid hv
  have HC := Lib.hid (fun (h : Nat) (x : Ver) => upto_lt t hc (h := h) (x := x))
  have hul := upto_le l t
  obtain ⟨n, hn⟩ : ∃ n, upto l t = n := ⟨_, rfl⟩
  rw [hn] at HC hul ⊢
  have HL := Lib.hid hl
  clear hv hc hl hn
  obtain ⟨tw, tt, tm⟩ := t
  have HX := Lib.hid (Blk.new w #[.int .i64 tw, .int .u32 tt, .int .u32 tm] 25)
  have HBa := Lib.hid (below_alloc w (.cells #[.int .i64 tw, .int .u32 tt, .int .u32 tm] 25))
  unfold Tm.val
  simp only
  go_enter Tryz.func77, Tryz.ntmps77
  go_wp2_with fail
  generalize w.alloc (.cells #[.int .i64 tw, .int .u32 tt, .int .u32 tm] 25) = w1 at HX HBa ⊢
  have HB1 := Lib.hid (bel_refl w1)
  have HN := Lib.hid hul
  clear hul
  go_loopw [5, 6] (fun at_ i wr => ∃ k : Nat, k ≤ l.length ∧ i = .int .i64 k ∧ at_ = .int .i64 ((min k n : Nat) - 1 : Int) ∧ Hid (Below w1.heap.size w1 wr)) (fun _ i _ => l.length - (intOf i).toNat)
  case atStart => exact ⟨0, by omega, rfl, by simp, HB1⟩
  case round =>
    clear HB1
    obtain ⟨k, hk, rfl, rfl, HB⟩ := hrel
    by_cases hlt : k < l.length
    · obtain ⟨x, hx⟩ : ∃ x, l[k]? = some x := ⟨l[k], List.getElem?_eq_getElem hlt⟩
      obtain ⟨b, o, rfl, hbl, c0, c1, c2, -, -, -⟩ := rdV_cells HV.out k x hx
      have hB := bel_trans HBa.out HB.out
      have hk1 : (0 : Int) ≤ (k : Int) := by omega
      have hk2 : (k : Int) < (l.length : Int) := by omega
      have HI := Lib.hid (HC.out k x hx)
      obtain ⟨⟨xw, xt, xm⟩, xk, xn, xx⟩ := x
      simp only at c0 c1 c2 HI
      have hbr : b < wr.heap.size := Nat.lt_of_lt_of_le hbl hB.size
      have HKs : Hid (∀ W, Below wr.heap.size wr W → W.cell? ⟨w.heap.size, 0, none⟩ = some (.int .i64 tw) ∧ W.cell? ⟨w.heap.size, 1, none⟩ = some (.int .u32 tt) ∧ W.cell? ⟨w.heap.size, 2, none⟩ = some (.int .u32 tm) ∧ W.cell? ⟨b, o + k * 6, none⟩ = some (.int .i64 xw) ∧ W.cell? ⟨b, o + k * 6 + 1, none⟩ = some (.int .u32 xt) ∧ W.cell? ⟨b, o + k * 6 + 2, none⟩ = some (.int .u32 xm)) :=
        Lib.hid (fun W hW => by
          have hy := HX.out.next (bel_trans HB.out hW)
          have hz := bel_trans hB hW
          exact ⟨hy.cell 0, hy.cell 1, hy.cell 2, (hz.cell (p := ⟨b, _, none⟩) hbl).trans c0, (hz.cell (p := ⟨b, _, none⟩) hbl).trans c1, (hz.cell (p := ⟨b, _, none⟩) hbl).trans c2⟩)
      have hxr := bel_refl wr
      obtain ⟨q0, q1, q2, q3, q4, q5⟩ := HKs.out _ hxr
      have hgl := (HX.out.next HB.out).lt
      obtain ⟨lt, hlt2⟩ : ∃ lt, decide ((⟨tw, tt, tm⟩ : Tm).lt ⟨xw, xt, xm⟩) = lt := ⟨_, rfl⟩
      have HLt := Lib.hid hlt2
      have hbl2 := fun W => below_any ⟨tw, tt, tm⟩ ⟨xw, xt, xm⟩ W
      rw [hlt2] at hbl2
      unfold Tm.val at hbl2
      have HBl := Lib.hid hbl2
      clear c0 c1 c2 hx hB hlt2 hbl2
      go_upto_region 5 with fail
      go_region_held3 (fun W => W.cell? ⟨w.heap.size, 0, none⟩ = some (.int .i64 tw) ∧ W.cell? ⟨w.heap.size, 1, none⟩ = some (.int .u32 tt) ∧ W.cell? ⟨w.heap.size, 2, none⟩ = some (.int .u32 tm) ∧ W.cell? ⟨b, o + k * 6, none⟩ = some (.int .i64 xw) ∧ W.cell? ⟨b, o + k * 6 + 1, none⟩ = some (.int .u32 xt) ∧ W.cell? ⟨b, o + k * 6 + 2, none⟩ = some (.int .u32 xm))
        (first | (with_reducible exact ⟨q0, q1, q2, q3, q4, q5⟩) | (with_reducible refine HKs.out _ ?_; (repeat (first | assumption | apply bel_alloc | apply bel_drew)); done) | go_keep)
        (first
          | (go_simp; go_at_call 12; refine (HBl.out _).mono ?_; rintro e w7 ⟨rfl, hb7⟩; have hx7 : Below wr.heap.size wr w7 := bel_trans (by repeat (first | exact bel_refl _ | assumption | apply bel_alloc | apply bel_drew)) hb7; clear hb7))
      have HB7 := Lib.hid (bel_trans HB.out hx7)
      clear q0 q1 q2 q3 q4 q5 hx7 hxr HKs hgl hbr
      cases lt with
      | true =>
        have hge : n ≤ k := by
          have h1 := HI.out
          have h2 := of_decide_eq_true HLt.out
          by_cases e : k < n
          · exact absurd h2 (h1.2 e)
          · omega
        go_wp2_with fail
        go_roundw
        case rel => exact ⟨k + 1, by omega, by go_num, by rw [Nat.min_eq_right (by omega), Nat.min_eq_right (by omega)], HB7⟩
        case measure => simp [intOf]; omega
      | false =>
        have hge : k < n := HI.out.1 (of_decide_eq_false HLt.out)
        go_wp2_with fail
        go_roundw
        case rel => exact ⟨k + 1, by omega, by go_num, by rw [Nat.min_eq_left (by omega)]; go_num, HB7⟩
        case measure => simp [intOf]; omega
    · obtain rfl : k = l.length := by omega
      have hn := HN.out
      have e : min l.length n = n := by omega
      rw [e]
      clear e hn
      go_wp2_with fail
      go_ret
      exact ⟨rfl, bel_trans HBa.out HB.out⟩
end Go.Proofs.YtplieoalfbpniaaGreat
