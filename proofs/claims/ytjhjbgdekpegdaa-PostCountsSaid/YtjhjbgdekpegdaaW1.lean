/- The contracts of the small functions of a post: Clone (24), twin (22), Len (13). -/
import Derived.Test.YtjhjbgdekpegdaaRows
import Derived.Test.YtjhjbgdekpegdaaKtB
import Derived.Test.YtjhjbgdekpegdaaKtL
import Derived.BigQuiet
import Derived.Deep.QuietTactic
import Derived.Deep.RegionHeld3
import Derived.Deep.DeepFit
import Derived.Deep.CutBlock
import Derived.Deep.DeepCutAuto
import Derived.Lib.SliceRun
namespace Go.Proofs.Ytjhjbgdekpegdaa
open Go.RowKit Go.Kt

theorem bel_refl (x : World) : Below x.heap.size x x := Below.refl _ _
theorem bel_alloc {x y : World} {o : Obj} (h : Below x.heap.size x y) : Below x.heap.size x (y.alloc o) := h.alloc h.size o
theorem bel_drew {x y : World} (h : Below x.heap.size x y) : Below x.heap.size x y.drew := h.drew
theorem bel_drewN {x y : World} (h : Below x.heap.size x y) (n : Nat) : Below x.heap.size x (y.drewN n) := ⟨h.os, h.tape, h.output, h.size, h.block⟩
theorem bel_set {x y : World} {p : Addr} {u : Value} (h : Below x.heap.size x y) (hg : x.heap.size ≤ p.block) : Below x.heap.size x (y.setCell p u) := h.setCell hg u
theorem bel_trans {w w1 w2 : World} (h : Below w.heap.size w w1) (h2 : Below w1.heap.size w1 w2) : Below w.heap.size w w2 := h.trans (h2.mono h.size)
theorem ok28 : ElemOk Try.prog 28 5 (.int .u8 0) 1 1 := ⟨Try.underlying28, info_parts (by kernel_rfl), rfl, by decide⟩
theorem ok53 : ElemOk Try.prog 53 32 (.agg #[.int .i64 0, .int .i64 0, .slice none 0 0]) 3 40 := ⟨Try.underlying53, info_parts (by kernel_rfl), rfl, by decide⟩
theorem ok22 : ElemOk Try.prog 22 30 (.agg #[.int .i64 0, .int .i64 0, .slice none 0 0]) 3 40 := ⟨Try.underlying22, info_parts (by kernel_rfl), rfl, by decide⟩

theorem mine8_set {e : TypeId} {w0 w : World} {v : Value} {l : List UInt8} (h : Mine8 e w0 w v l) {p : Addr} (hp : p.block < w0.heap.size) (u : Value) : Mine8 e w0 (w.setCell p u) v l :=
  ⟨own_set h.1 (fun b hb e => by have := h.2 b hb; omega) u, h.2⟩
def Cloned (l : List UInt8) (w : World) (e : Ending) (w' : World) : Prop := ∃ v', e = .returned v' ∧ Mine8 5 w w' v' l ∧ Below w.heap.size w w'
set_option maxHeartbeats 1000000 in
theorem clone_any (v : Value) (l : List UInt8) (w : World) (hv : Rd8 w v l) (hl : l.length ≤ 140737488355328) : Calls Try.prog 24 #[v] w (Cloned l w) := by
  have Hv := Lib.hid hv
  obtain ⟨a, cap, rfl, h1, h2, h3, h4⟩ := hv.open
  have H4 := Lib.hid h4
  have he := fun (a : Option Addr) (n c : Nat) => Lib.run_eql_slice_nil (P := Try.prog) w 28 5 a n c 0 0 Try.underlying28
  clear h4 hv
  cases a with
  | none =>
    have hl0 : l = [] := List.eq_nil_of_length_eq_zero (by have := h3 rfl; omega)
    subst hl0
    obtain rfl : cap = 0 := h3 rfl
    clear h3
    go_enter Try.func24, Try.ntmps24
    go_wp2_with fail
    go_ret
    exact ⟨_, rfl, mine8_nil 5 w w, bel_refl w⟩
  | some ad =>
    clear h3
    have HM : Hid (Mine8 5 w (w.alloc (.cells #[] 5)) (.slice (some ⟨w.heap.size, 0, none⟩) 0 0) []) := Lib.hid (mine8_at [] (by simp [maxLen]) rfl rfl (Nat.le_refl _) rfl)
    go_enter Try.func24, Try.ntmps24
    go_wp2_with (at_builtin; apply Hold.mk)
    unfold Hold
    refine wpList_app8_mine rfl _ _ 28 rfl ok28 [] l (by rfl) (by rfl) w (below_alloc w _) HM.out (Hv.out.below (below_alloc w _)) (by simpa using hl) ?_
    intro v7 w7 hm hb hg hz
    go_wp2_with fail
    go_ret
    exact ⟨_, rfl, by simpa using hm, hb⟩
def Twinned (f t : Int) (l : List UInt8) (w : World) (e : Ending) (w' : World) : Prop :=
  ∃ v', e = .returned (.agg #[.int .i64 f, .int .i64 t, v']) ∧ Mine8 5 w w' v' l ∧ Below w.heap.size w w'
set_option maxHeartbeats 1000000 in
theorem twin_any (f t : Int) (v : Value) (l : List UInt8) (w : World) (hv : Rd8 w v l) (hl : l.length ≤ 140737488355328) : Calls Try.prog 22 #[.agg #[.int .i64 f, .int .i64 t, v]] w (Twinned f t l w) := by
  have Hv := Lib.hid hv
  obtain ⟨a, cap, rfl, h1, h2, h3, h4⟩ := hv.open
  clear h4 h3 hv
  have HB1 : Hid (Blk ((w.alloc (.cells #[.int .i64 f, .int .i64 t, .slice a l.length cap] 32)).alloc (.cells #[.int .i64 0, .int .i64 0, .slice none 0 0] 32)) w.heap.size #[.int .i64 f, .int .i64 t, .slice a l.length cap] 32) :=
    Lib.hid ((Blk.new w _ 32).next (below_alloc _ _))
  have HB2 : Hid (Blk ((w.alloc (.cells #[.int .i64 f, .int .i64 t, .slice a l.length cap] 32)).alloc (.cells #[.int .i64 0, .int .i64 0, .slice none 0 0] 32)) (w.heap.size + 1) #[.int .i64 0, .int .i64 0, .slice none 0 0] 32) := Lib.hid (by
    have hb := Blk.new (w.alloc (.cells #[.int .i64 f, .int .i64 t, .slice a l.length cap] 32)) #[.int .i64 0, .int .i64 0, .slice none 0 0] 32
    simp only [World.size_alloc] at hb
    exact hb)
  go_enter Try.func22, Try.ntmps22
  go_wp2_with fail
  refine (clone_any _ l _ (Hv.out.below (bel_alloc (below_alloc w _))) hl).mono ?_
  rintro e w1 ⟨v1, rfl, hm, hb⟩
  obtain ⟨a1, cap1, rfl, h11, h12, h13, h14⟩ := hm.rd.open
  clear h13 h14
  have b1 := HB1.out.next hb
  have b2 := HB2.out.next hb
  have k0 : w1.cell? ⟨w.heap.size, 0, none⟩ = some (.int .i64 f) := b1.cell 0
  have k1 : w1.cell? ⟨w.heap.size, 1, none⟩ = some (.int .i64 t) := b1.cell 1
  have k2 : w1.cell? ⟨w.heap.size, 2, none⟩ = some (.slice a l.length cap) := b1.cell 2
  have f2 : w1.frozen? ⟨w.heap.size, 2, none⟩ = false := b1.free 2
  have g0 : w1.cell? ⟨w.heap.size + 1, 0, none⟩ = some (.int .i64 0) := b2.cell 0
  have g1 : w1.cell? ⟨w.heap.size + 1, 1, none⟩ = some (.int .i64 0) := b2.cell 1
  have g2 : w1.cell? ⟨w.heap.size + 1, 2, none⟩ = some (.slice none 0 0) := b2.cell 2
  have q0 : w1.frozen? ⟨w.heap.size + 1, 0, none⟩ = false := b2.free 0
  have q1 : w1.frozen? ⟨w.heap.size + 1, 1, none⟩ = false := b2.free 1
  have q2 : w1.frozen? ⟨w.heap.size + 1, 2, none⟩ = false := b2.free 2
  have Hm := Lib.hid hm
  have Hb := Lib.hid (bel_trans (bel_alloc (below_alloc w _)) hb)
  have hl1 := b2.lt
  have Hb1 := Lib.hid b1
  clear hm hb b1 b2
  go_wp2_with fail
  refine bodyPost_ret (v := .agg #[.int .i64 f, .int .i64 t, .slice a1 l.length cap1]) (by simp [results, Try.results22, go_sem, *]) rfl ⟨_, rfl, ?_, ?_⟩
  · have h := mine8_set (mine8_set (mine8_set (mine8_set Hm.out (p := ⟨w.heap.size, 2, none⟩) (by simp <;> omega) (.slice a1 l.length cap1)) (p := ⟨w.heap.size + 1, 0, none⟩) (by simp) (.int .i64 f)) (p := ⟨w.heap.size + 1, 1, none⟩) (by simp) (.int .i64 t)) (p := ⟨w.heap.size + 1, 2, none⟩) (by simp) (.slice a1 l.length cap1)
    exact h.since (by simp <;> omega)
  · exact bel_set (bel_set (bel_set (bel_set Hb.out (Nat.le_refl _)) (by simp)) (by simp)) (by simp)
end Go.Proofs.Ytjhjbgdekpegdaa
