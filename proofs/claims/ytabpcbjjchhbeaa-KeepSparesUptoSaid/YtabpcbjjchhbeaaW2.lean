/- Slices of stamps; the contract of 'to' (6). -/
import Derived.Test.YtabpcbjjchhbeaaW1
namespace Go.Proofs.Ytabpcbjjchhbeaa
open Go.RowKit Go.Kt

theorem ok34 : ElemOk Try.prog 34 28 (.agg #[.int .i64 0, .int .u32 0, .int .u32 0]) 3 16 := ⟨Try.underlying34, info_parts (by kernel_rfl), rfl, by decide⟩
theorem ok24 : ElemOk Try.prog 24 36 (.agg #[.int .i64 0, .int .u32 0, .int .u32 0]) 3 16 := ⟨Try.underlying24, info_parts (by kernel_rfl), rfl, by decide⟩

def flat : List St → List Value
  | [] => []
  | s :: t => .int .i64 s.wall :: .int .u32 s.tick :: .int .u32 s.mark :: flat t
theorem flat_len (T : List St) : (flat T).length = T.length * 3 := by
  induction T with
  | nil => rfl
  | cons x t ih => simp only [flat, List.length_cons, ih]; omega
theorem flat_append (T S : List St) : flat (T ++ S) = flat T ++ flat S := by
  induction T with
  | nil => rfl
  | cons x t ih => simp only [List.cons_append, flat, ih]
theorem flat_get (T : List St) : ∀ (i : Nat) (x : St), T[i]? = some x → (flat T)[i * 3]? = some (.int .i64 x.wall) ∧ (flat T)[i * 3 + 1]? = some (.int .u32 x.tick) ∧ (flat T)[i * 3 + 2]? = some (.int .u32 x.mark) := by
  induction T with
  | nil => intro i x h; simp at h
  | cons y t ih =>
    intro i x h
    match i with
    | 0 => simp at h; subst h; exact ⟨rfl, rfl, rfl⟩
    | i + 1 =>
      simp only [List.getElem?_cons_succ] at h
      have := ih i x h
      rw [show (i + 1) * 3 = i * 3 + 1 + 1 + 1 by omega]
      exact this
theorem flat_one (T : List St) : ∀ u ∈ flat T, u.oneCell' = true := by
  induction T with
  | nil => intro u hu; simp [flat] at hu
  | cons y t ih =>
    intro u hu
    simp only [flat, List.mem_cons] at hu
    rcases hu with rfl | rfl | rfl | hu
    · rfl
    · rfl
    · rfl
    · exact ih u hu
theorem flat_take (T : List St) (k : Nat) (x : St) (h : T[k]? = some x) : flat (T.take (k + 1)) = flat (T.take k) ++ [.int .i64 x.wall, .int .u32 x.tick, .int .u32 x.mark] := by
  obtain ⟨hk, rfl⟩ := List.getElem?_eq_some_iff.1 h
  rw [List.take_succ_eq_append_getElem hk, flat_append]; rfl

def RdSt (w : World) (v : Value) (l : List St) : Prop := RdRow 3 w v l.length (flat l)
def OwnSt (w0 w : World) (v : Value) (l : List St) : Prop := Own 28 3 w v l.length (flat l) ∧ ∀ b, v.ownBlock = some b → w0.heap.size ≤ b
theorem RdSt.below {w w' : World} {v : Value} {l : List St} (h : RdSt w v l) (hb : Below w.heap.size w w') : RdSt w' v l := RdRow.below h hb
theorem OwnSt.rd {w0 w : World} {v : Value} {l : List St} (h : OwnSt w0 w v l) : RdSt w v l := Own.rd h.1
theorem OwnSt.below {w0 w w' : World} {v : Value} {l : List St} (h : OwnSt w0 w v l) (hb : Below w.heap.size w w') : OwnSt w0 w' v l := ⟨h.1.below' hb, h.2⟩
theorem RdSt.open {w : World} {v : Value} {l : List St} (h : RdSt w v l) : ∃ a cap, v = .slice a l.length cap ∧ l.length ≤ cap ∧ cap ≤ 9223372036854775807 ∧
    ∀ (i : Nat) (x : St), l[i]? = some x → ∃ b o, a = some ⟨b, o, none⟩ ∧ w.cell? ⟨b, o + i * 3, none⟩ = some (.int .i64 x.wall) ∧ w.cell? ⟨b, o + i * 3 + 1, none⟩ = some (.int .u32 x.tick) ∧ w.cell? ⟨b, o + i * 3 + 2, none⟩ = some (.int .u32 x.mark) := by
  obtain ⟨_, a, cap, rfl, h1, h2, _, h5⟩ := h
  refine ⟨a, cap, rfl, h1, h2, fun i x hi => ?_⟩
  obtain ⟨c1, c2, c3⟩ := flat_get l i x hi
  obtain ⟨b, o, rfl, hc⟩ := h5 _ _ c1
  obtain ⟨b', o', e, hc'⟩ := h5 _ _ c2
  cases e
  obtain ⟨b', o', e, hc''⟩ := h5 _ _ c3
  cases e
  exact ⟨b, o, rfl, hc, by rw [Nat.add_assoc]; exact hc', by rw [Nat.add_assoc]; exact hc''⟩

set_option maxHeartbeats 1000000 in
theorem to_any (v : Value) (l : List St) (w : World) (hv : RdSt w v l) (hlen : l.length < 1000000000) :
    Calls Try.prog 6 #[v] w fun e w' => ∃ v', e = .returned v' ∧ OwnSt w w' v' l ∧ Below w.heap.size w w' := by
  obtain ⟨a, cap, rfl, hcap, hbig, hcell⟩ := hv.open
  have Hcell := Lib.hid hcell
  clear hcell hv
  go_enter Try.func6, Try.ntmps6
  go_wp2_with fail
  go_loopw [3, 5, 8] (fun out _ i wr => ∃ k : Nat, k ≤ l.length ∧ i = .int .i64 k ∧ Hid (Own 28 3 wr out k (flat (l.take k))) ∧ Hid (∀ b, out.ownBlock = some b → w.heap.size ≤ b) ∧ Hid (Below w.heap.size w wr)) (fun _ _ i _ => l.length - (intOf i).toNat)
  case atStart => exact ⟨0, by omega, rfl, Lib.hid (by simpa [flat] using own_nil w 28 3), Lib.hid (fun b hb => by cases hb), Lib.hid (Below.refl _ _)⟩
  case round =>
    obtain ⟨k, hk, rfl, Ho, Hob, Hb⟩ := hrel
    by_cases hlt : k < l.length
    · obtain ⟨x, hx⟩ : ∃ x, l[k]? = some x := ⟨l[k], List.getElem?_eq_getElem hlt⟩
      obtain ⟨b, o, rfl, c1, c2, c3⟩ := Hcell.out k x hx
      have Htk := Lib.hid (flat_take l k x hx)
      have lb := World.block_lt_of_cell? w _ c1
      have c1' : wr.cell? ⟨b, o + k * 3, none⟩ = some (.int .i64 x.wall) := (Hb.out.cell (p := ⟨b, o + k * 3, none⟩) lb).trans c1
      have c2' : wr.cell? ⟨b, o + k * 3 + 1, none⟩ = some (.int .u32 x.tick) := (Hb.out.cell (p := ⟨b, o + k * 3 + 1, none⟩) lb).trans c2
      have c3' : wr.cell? ⟨b, o + k * 3 + 2, none⟩ = some (.int .u32 x.mark) := (Hb.out.cell (p := ⟨b, o + k * 3 + 2, none⟩) lb).trans c3
      clear c1 c2 c3 hx
      go_wp2_with fail
      refine (to_any1 x _).mono ?_
      rintro e w1 ⟨rfl, hb1⟩
      have Hb1 := Lib.hid ((below_alloc wr (.cells #[.int .i64 x.wall, .int .u32 x.tick, .int .u32 x.mark] 36)).trans (hb1.mono (by simp)))
      clear hb1 c1' c2' c3'
      unfold St.val
      go_wp2_with (at_builtin; apply Hold.mk)
      unfold Hold
      have B2 := Hb1.out.alloc Hb1.out.size (.cells #[.int .i64 x.wall, .int .u32 x.tick, .int .u32 x.mark] 28)
      have o2 := own_lit w1 28 3 #[.int .i64 x.wall, .int .u32 x.tick, .int .u32 x.mark] 1 (by simp [maxLen]) rfl
      refine wpList_app rfl _ _ 34 rfl ok34 (by rfl) (by rfl) (Ho.out.below' B2) o2.rd (by intro u hu; exact flat_one [x] u hu) (by simp only [maxLen]; omega) (by omega) ?_
      intro v' w' h2 h3 h4
      have hz : w.heap.size ≤ w1.heap.size := Nat.le_trans Hb.out.size Hb1.out.size
      have Ho2 : Hid (Own 28 3 w' v' (k + 1) (flat (l.take (k + 1)))) := Lib.hid (by rw [Htk.out]; exact h2)
      have Hob2 : Hid (∀ b, v'.ownBlock = some b → w.heap.size ≤ b) := Lib.hid (fun b hb => (h4 b hb).elim (Hob.out b) (fun h => by simp at h; omega))
      have Hb2 : Hid (Below w.heap.size w w') := Lib.hid ((Hb.out.trans (B2.mono Hb.out.size)).grown h3 (by simp; omega) (fun b hb => Hob.out b hb))
      clear h2 h3 h4 B2 o2 Ho Hob Hb Hb1 hz
      go_wp2_with fail
      go_roundw
      case rel => exact ⟨k + 1, by omega, by go_num, Ho2, Hob2, Hb2⟩
      case measure => simp [intOf]; omega
    · obtain rfl : k = l.length := by omega
      go_wp2_with fail
      go_ret
      refine ⟨_, rfl, ⟨?_, Hob.out⟩, Hb.out⟩
      have := Ho.out
      rw [List.take_length] at this
      exact this
end Go.Proofs.Ytabpcbjjchhbeaa
