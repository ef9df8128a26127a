/- The document's Cut of a chain (54). -/
import Derived.Test.YtplieoalfbpniaaGreatD3
set_option linter.unusedVariables false
set_option linter.unusedSimpArgs false
namespace Go.Proofs.YtplieoalfbpniaaGreat
open Go.RowKit Go.Kt Go.Ix Go.Sx
set_option maxRecDepth 100000
theorem ok121 : ElemOk Tryz.prog 121 127 (.agg #[.int .i64 0, .int .u32 0, .int .u32 0, .int .i64 0, .int .i64 0, .string ⟨#[]⟩]) 6 48 := ⟨Tryz.underlying121, info_parts (by kernel_rfl), rfl, by decide⟩
/-- the last that isn't behind, as a number -/
theorem cutAt_cases {l : List Ver} {t : Tm} {k : Nat} {x : Ver} (hx : l[k]? = some x) {a : Int} (ha : (upto l t : Int) - 1 = a) : cutAt l t ≤ k ↔ (a < (k : Int) ∨ ((k : Int) = a ∧ x.kind ≠ 3)) := by
  have hul := upto_le l t
  unfold cutAt
  match hu : upto l t with
  | 0 =>
    rw [hu] at ha
    simp only
    exact ⟨fun _ => .inl (by omega), fun _ => Nat.zero_le _⟩
  | i + 1 =>
    rw [hu] at ha hul
    simp only
    obtain ⟨y, hy⟩ : ∃ y, l[i]? = some y := ⟨l[i], List.getElem?_eq_getElem (by omega)⟩
    rw [hy]
    simp only
    by_cases hk : k = i
    · subst hk
      have e : x = y := by rw [hx] at hy; exact Option.some.inj hy
      subst e
      by_cases h3 : x.kind = 3
      · rw [if_pos h3]
        exact ⟨fun h => by omega, fun h => by
          rcases h with h | h
          · omega
          · exact absurd h3 h.2⟩
      · rw [if_neg h3]
        exact ⟨fun _ => .inr ⟨by omega, h3⟩, fun _ => Nat.le_refl _⟩
    · by_cases h3 : y.kind = 3
      · rw [if_pos h3]
        omega
      · rw [if_neg h3]
        omega
theorem drop_take {l : List Ver} {k c : Nat} {x : Ver} (hx : l[k]? = some x) : (l.take (k + 1)).drop c = if c ≤ k then (l.take k).drop c ++ [x] else [] := by
  obtain ⟨hk, rfl⟩ := List.getElem?_eq_some_iff.1 hx
  by_cases h : c ≤ k
  · rw [if_pos h, List.take_succ_eq_append_getElem hk, List.drop_append_of_le_length (by rw [List.length_take]; omega)]
  · rw [if_neg h, List.drop_of_length_le (by rw [List.length_take]; omega)]
/-- a row of versions of our own, in the document's type -/
def MineW (w0 w : World) (v : Value) (l : List Ver) : Prop := Mine 127 6 w0 w v l.length (flatV l)
theorem MineW.rd {w0 w : World} {v : Value} {l : List Ver} (h : MineW w0 w v l) : RdV w v l := h.1.rd
theorem flatV_snoc (T : List Ver) (x : Ver) : flatV (T ++ [x]) = flatV T ++ vcells x := by
  induction T with
  | nil => simp [flatV]
  | cons y t ih => simp only [List.cons_append, flatV, ih, List.append_assoc]
set_option maxHeartbeats 8000000 in
theorem rcutc_any (v : Value) (l : List Ver) (t : Tm) (w : World) (hv : RdV w v l) (hc : Chain l) (hl : l.length ≤ 65536) :
    Calls Tryz.prog 54 #[v, t.val] w fun e w' => ∃ v', e = .returned v' ∧ MineW w w' v' (cutC l t) := by
  obtain ⟨a, cap, rfl, hcap, hbig, -⟩ := hv.open
  have HV := Lib.hid hv
  have hla := fun W (h : Below w.heap.size w W) => last_any (.slice a l.length cap) l t W (hv.below h) hc hl
  obtain ⟨z, hz⟩ : ∃ z : Int, (upto l t : Int) - 1 = z := ⟨_, rfl⟩
  rw [hz] at hla
  have HC := Lib.hid (fun (k : Nat) (x : Ver) (hx : l[k]? = some x) => cutAt_cases (t := t) hx hz)
  obtain ⟨c, hcc⟩ : ∃ c, cutAt l t = c := ⟨_, rfl⟩
  have e : cutC l t = l.drop c := by unfold cutC; rw [hcc]
  rw [e]
  rw [hcc] at HC
  obtain ⟨tw, tt, tm⟩ := t
  unfold Tm.val at hla ⊢
  simp only at hla ⊢
  have HLa := Lib.hid hla
  have HL := Lib.hid hl
  clear hv hc hl hla hz hcc e
  have HX := Lib.hid (Blk.new w #[.int .i64 tw, .int .u32 tt, .int .u32 tm] 25)
  have HBa := Lib.hid (below_alloc w (.cells #[.int .i64 tw, .int .u32 tt, .int .u32 tm] 25))
  go_enter Tryz.func54, Tryz.ntmps54
  go_upto_region 1 with fail
  generalize w.alloc (.cells #[.int .i64 tw, .int .u32 tt, .int .u32 tm] 25) = w1 at HX HBa ⊢
  have x0 : w1.cell? ⟨w.heap.size, 0, none⟩ = some (.int .i64 tw) := HX.out.cell 0
  have x1 : w1.cell? ⟨w.heap.size, 1, none⟩ = some (.int .u32 tt) := HX.out.cell 1
  have x2 : w1.cell? ⟨w.heap.size, 2, none⟩ = some (.int .u32 tm) := HX.out.cell 2
  go_wp2_with (first
    | (go_at_call 77; refine (HLa.out w1 HBa.out).mono ?_; rintro e w2 ⟨rfl, hb2⟩; have HB2 := Lib.hid (bel_trans HBa.out hb2); clear hb2)
    | fail)
  clear x0 x1 x2 HLa HX HBa
  have HM0 : Hid (MineW w2 w2 (.slice none 0 0) ((l.take 0).drop c)) := Lib.hid (by rw [List.take_zero, List.drop_nil]; exact mine_nil 127 6 w2)
  go_loopw [6, 7] (fun ov i wr => ∃ k : Nat, k ≤ l.length ∧ i = .int .i64 k ∧ Hid (MineW w2 wr ov ((l.take k).drop c))) (fun _ i _ => l.length - (intOf i).toNat)
  case atStart => exact ⟨0, by omega, rfl, HM0⟩
  case round =>
    clear HM0
    obtain ⟨k, hk, rfl, HM⟩ := hrel
    by_cases hlt : k < l.length
    · obtain ⟨x, hx⟩ : ∃ x, l[k]? = some x := ⟨l[k], List.getElem?_eq_getElem hlt⟩
      obtain ⟨b, o, rfl, hbl, c0, c1, c2, c3, c4, c5⟩ := rdV_cells HV.out k x hx
      have hB := bel_trans HB2.out HM.out.2.2
      have hk1 : (0 : Int) ≤ (k : Int) := by omega
      have hk2 : (k : Int) < (l.length : Int) := by omega
      have HI := Lib.hid (HC.out k x hx)
      have HT := Lib.hid (drop_take (c := c) hx)
      obtain ⟨⟨xw, xt, xm⟩, xk, xn, xx⟩ := x
      simp only at c0 c1 c2 c3 c4 c5 HI
      have d0 : wr.cell? ⟨b, o + k * 6, none⟩ = some (.int .i64 xw) := (hB.cell (p := ⟨b, _, none⟩) hbl).trans c0
      have d1 : wr.cell? ⟨b, o + k * 6 + 1, none⟩ = some (.int .u32 xt) := (hB.cell (p := ⟨b, _, none⟩) hbl).trans c1
      have d2 : wr.cell? ⟨b, o + k * 6 + 2, none⟩ = some (.int .u32 xm) := (hB.cell (p := ⟨b, _, none⟩) hbl).trans c2
      have d3 : wr.cell? ⟨b, o + k * 6 + 3, none⟩ = some (.int .i64 xk) := (hB.cell (p := ⟨b, _, none⟩) hbl).trans c3
      have d4 : wr.cell? ⟨b, o + k * 6 + 4, none⟩ = some (.int .i64 xn) := (hB.cell (p := ⟨b, _, none⟩) hbl).trans c4
      have d5 : wr.cell? ⟨b, o + k * 6 + 5, none⟩ = some (.string xx) := (hB.cell (p := ⟨b, _, none⟩) hbl).trans c5
      have Hlen : Hid (((l.take k).drop c).length ≤ 65536) := Lib.hid (by rw [List.length_drop, List.length_take]; have := HL.out; omega)
      clear c0 c1 c2 c3 c4 c5 hx hB
      by_cases hck : c ≤ k
      · have HTe : Hid ((l.take (k + 1)).drop c = (l.take k).drop c ++ [⟨⟨xw, xt, xm⟩, xk, xn, xx⟩]) := Lib.hid (by rw [HT.out, if_pos hck])
        have HOr := Lib.hid (HI.out.1 hck)
        go_upto_region 6 with fail
        go_cut [32] (fun b wc => b = .bool true ∧ wc = wr)
        case first =>
          rcases Int.lt_or_le z (k : Int) with h1 | h1
          · have hb1 : decide (z < (k : Int)) = true := by simpa using h1
            go_wp2_with fail
            go_meet
            case rel => exact ⟨rfl, rfl⟩
          · have h2 : (k : Int) = z ∧ xk ≠ 3 := by
              rcases HOr.out with h | h
              · omega
              · exact h
            have hb1 : decide (z < (k : Int)) = false := by simp; omega
            have hb2 : ((k : Int) == z) = true := by simp [h2.1]
            have hb3 : (xk == 3) = false := by simpa using h2.2
            have hb4 : (xk != 3) = true := by simpa using h2.2
            clear h2 h1
            go_wp2_with fail
            go_meet
            case rel => exact ⟨rfl, rfl⟩
        case rest =>
          obtain ⟨rfl, rfl⟩ := hcut
          go_wp2_with (at_builtin; apply Hold.mk)
          unfold Hold
          refine wpList_app rfl _ _ 121 rfl ok121 (by rfl) (by rfl) (HM.out.1.below' (below_alloc _ _)) (by exact rd_lit 6 #[.int .i64 xw, .int .u32 xt, .int .u32 xm, .int .i64 xk, .int .i64 xn, .string xx] 1 (by simp) one_le rfl) (by intro u hu; simp only [List.mem_cons, List.not_mem_nil, or_false] at hu; rcases hu with rfl | rfl | rfl | rfl | rfl | rfl <;> rfl) (by have := Hlen.out; simp only [maxLen]; omega) (by have := Hlen.out; omega) ?_
          intro v9 w9 ho9 hg9 hn9
          have HM9 : Hid (MineW w2 w9 v9 ((l.take (k + 1)).drop c)) := Lib.hid (by
            rw [HTe.out]
            have h1 := (HM.out.below (below_alloc wc (.cells #[.int .i64 xw, .int .u32 xt, .int .u32 xm, .int .i64 xk, .int .i64 xn, .string xx] 127)))
            have h2 := mine_grown h1 ho9 hg9 hn9
            unfold MineW
            rw [List.length_append, flatV_snoc]
            exact h2)
          clear ho9 hg9 hn9
          go_wp2_with fail
          go_roundw
          case rel => exact ⟨k + 1, by omega, by go_num, HM9⟩
          case measure => simp [intOf]; omega
      · have HTe : Hid ((l.take (k + 1)).drop c = (l.take k).drop c) := Lib.hid (by rw [HT.out, if_neg hck, List.drop_of_length_le (by rw [List.length_take]; omega)])
        have HOr := Lib.hid (fun h => hck (HI.out.2 h))
        go_upto_region 6 with fail
        go_cut [32] (fun b wc => b = .bool false ∧ wc = wr)
        case first =>
          have h1 : ¬ z < (k : Int) := fun h => HOr.out (.inl h)
          have hb1 : decide (z < (k : Int)) = false := by simpa using h1
          by_cases h2 : (k : Int) = z
          · have hb2 : ((k : Int) == z) = true := by simp [h2]
            have h3 : xk = 3 := Classical.byContradiction fun h => HOr.out (.inr ⟨h2, h⟩)
            have hb3 : (xk == 3) = true := by simp [h3]
            have hb4 : (xk != 3) = false := by simp [h3]
            clear h1 h2 h3
            go_wp2_with fail
            go_meet
            case rel => exact ⟨rfl, rfl⟩
          · have hb2 : ((k : Int) == z) = false := by simp; omega
            clear h1 h2
            go_wp2_with fail
            go_meet
            case rel => exact ⟨rfl, rfl⟩
        case rest =>
          obtain ⟨rfl, rfl⟩ := hcut
          go_wp2_with fail
          go_roundw
          case rel => exact ⟨k + 1, by omega, by go_num, Lib.hid (by rw [HTe.out]; exact HM.out)⟩
          case measure => simp [intOf]; omega
    · obtain rfl : k = l.length := by omega
      rw [List.take_length] at HM
      go_wp2_with fail
      go_ret
      exact ⟨_, rfl, HM.out.1, fun b hb => Nat.le_trans HB2.out.size (HM.out.2.1 b hb), bel_trans HB2.out HM.out.2.2⟩
end Go.Proofs.YtplieoalfbpniaaGreat
