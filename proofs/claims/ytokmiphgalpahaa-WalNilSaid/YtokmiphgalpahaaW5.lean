/- slices.Clone (27). -/
import Derived.Test.YtokmiphgalpahaaW4
import Derived.Deep.DeepCutAuto
import Derived.Lib.SliceRun
namespace Go.Proofs.Ytokmiphgalpahaa
open Go.RowKit Go.Kt
set_option maxRecDepth 100000

theorem bel_refl (x : World) : Below x.heap.size x x := Below.refl _ _
theorem bel_drew {x y : World} (h : Below x.heap.size x y) : Below x.heap.size x y.drew := h.drew
theorem bel_drewN {x y : World} (h : Below x.heap.size x y) (n : Nat) : Below x.heap.size x (y.drewN n) := ⟨h.os, h.tape, h.output, h.size, h.block⟩
theorem bel_set {x y : World} {p : Addr} {u : Value} (h : Below x.heap.size x y) (hg : x.heap.size ≤ p.block) : Below x.heap.size x (y.setCell p u) := h.setCell hg u
theorem bel_trans {w w1 w2 : World} (h : Below w.heap.size w w1) (h2 : Below w1.heap.size w1 w2) : Below w.heap.size w w2 := h.trans (h2.mono h.size)
theorem ok28 : ElemOk Try.prog 22 5 (.int .u8 0) 1 1 := ⟨Try.underlying22, info_parts (by kernel_rfl), rfl, by decide⟩
theorem mine8_set {e : TypeId} {w0 w : World} {v : Value} {l : List UInt8} (h : Mine8 e w0 w v l) {p : Addr} (hp : p.block < w0.heap.size) (u : Value) : Mine8 e w0 (w.setCell p u) v l :=
  ⟨own_set h.1 (fun b hb e => by have := h.2 b hb; omega) u, h.2⟩
def Cloned (l : List UInt8) (w : World) (e : Ending) (w' : World) : Prop := ∃ v', e = .returned v' ∧ Mine8 5 w w' v' l ∧ Below w.heap.size w w'
set_option maxHeartbeats 1000000 in
theorem clone_any (v : Value) (l : List UInt8) (w : World) (hv : Rd8 w v l) (hl : l.length ≤ 140737488355328) : Calls Try.prog 48 #[v] w (Cloned l w) := by
  have Hv := Lib.hid hv
  obtain ⟨a, cap, rfl, h1, h2, h3, h4⟩ := hv.open
  have H4 := Lib.hid h4
  have he := fun (a : Option Addr) (n c : Nat) => Lib.run_eql_slice_nil (P := Try.prog) w 22 5 a n c 0 0 Try.underlying22
  clear h4 hv
  cases a with
  | none =>
    have hl0 : l = [] := List.eq_nil_of_length_eq_zero (by have := h3 rfl; omega)
    subst hl0
    obtain rfl : cap = 0 := h3 rfl
    clear h3
    go_enter Try.func48, Try.ntmps48
    go_wp2_with fail
    go_ret
    exact ⟨_, rfl, mine8_nil 5 w w, bel_refl w⟩
  | some ad =>
    clear h3
    have HM : Hid (Mine8 5 w (w.alloc (.cells #[] 5)) (.slice (some ⟨w.heap.size, 0, none⟩) 0 0) []) := Lib.hid (mine8_at [] (by simp [maxLen]) rfl rfl (Nat.le_refl _) rfl)
    go_enter Try.func48, Try.ntmps48
    go_wp2_with (at_builtin; apply Hold.mk)
    unfold Hold
    refine wpList_app8_mine rfl _ _ 22 rfl ok28 [] l (by rfl) (by rfl) w (below_alloc w _) HM.out (Hv.out.below (below_alloc w _)) (by simpa using hl) ?_
    intro v7 w7 hm hb hg hz
    go_wp2_with fail
    go_ret
    exact ⟨_, rfl, by simpa using hm, hb⟩
end Go.Proofs.Ytokmiphgalpahaa
