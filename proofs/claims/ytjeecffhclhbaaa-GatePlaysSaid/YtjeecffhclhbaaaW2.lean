/- Gates: the contracts of fill (19) and find (17). -/
import Derived.Test.YtjeecffhclhbaaaW1
namespace Go.Proofs.Ytjeecffhclhbaaa
open Go.RowKit Go.Kt
theorem bel_refl (x : World) : Below x.heap.size x x := Below.refl _ _
theorem bel_alloc {x y : World} {o : Obj} (h : Below x.heap.size x y) : Below x.heap.size x (y.alloc o) := h.alloc h.size o
theorem bel_drew {x y : World} (h : Below x.heap.size x y) : Below x.heap.size x y.drew := h.drew
theorem bel_drewN {x y : World} (h : Below x.heap.size x y) (n : Nat) : Below x.heap.size x (y.drewN n) := ⟨h.os, h.tape, h.output, h.size, h.block⟩
theorem bel_set {x y : World} {p : Addr} {u : Value} (h : Below x.heap.size x y) (hg : x.heap.size ≤ p.block) : Below x.heap.size x (y.setCell p u) := h.setCell hg u
theorem bel_trans {w w1 w2 : World} (h : Below w.heap.size w w1) (h2 : Below w1.heap.size w1 w2) : Below w.heap.size w w2 := h.trans (h2.mono h.size)

set_option maxHeartbeats 1000000 in
theorem fill_any (g m : Nat) (G : Gt) (b : Int × Int) (t : Int) (w : World) (hG : GateAt w g m G) (hok : G.ok) (h1 : 0 ≤ b.1) (h2 : b.1 ≤ G.burst) (h3 : 0 ≤ b.2) (h4 : b.2 ≤ 4611686018427387904) (h5 : 0 ≤ t) (h6 : t ≤ 4611686018427387904) :
    Calls Try.prog 19 #[.pointer (some ⟨g, 0, none⟩), .agg #[.int .i64 b.1, .int .i64 b.2], .int .i64 t] w fun e w' => e = .returned (.agg #[.int .i64 (fillF G b t).1, .int .i64 (fillF G b t).2]) ∧ Below w.heap.size w w' := by
  obtain ⟨c0, c1, c2, c3⟩ := hG.cell
  have hg := hG.lt
  have hfit := fill_fits G hok b t h1 h2
  obtain ⟨o1, o2, o3, o4, o5, o6, o7, o8⟩ := hok
  generalize hp : fillF G b t = p
  have Hp := Lib.hid hp
  clear hp hG o8
  unfold fillF at Hp
  obtain ⟨l, t0⟩ := b
  simp only at *
  by_cases hle : t ≤ t0
  · have HH : Hid (p = (l, t0)) := Lib.hid (by rw [← Hp.out, if_pos hle])
    go_enter Try.func19, Try.ntmps19
    go_wp2_with fail
    refine bodyPost_ret (v := .agg #[.int .i64 p.1, .int .i64 p.2]) (by simp [results, Try.results19, go_sem, HH.out]) rfl ⟨rfl, ?_⟩
    (repeat (first | exact bel_refl _ | assumption | apply bel_alloc | apply bel_drew | apply bel_drewN | (refine bel_set ?_ (by simp))))
  · by_cases he : 0 < G.each
    · have he' : decide (0 < G.each) = true := by simpa using he
      by_cases hq : (G.burst - l + G.each - 1) / G.each ≤ t - t0
      · have HH : Hid (p = (G.burst, t)) := Lib.hid (by rw [← Hp.out, if_neg hle, if_pos ⟨he, hq⟩])
        clear hfit
        go_enter Try.func19, Try.ntmps19
        go_wp2_with fail
        go_quiet (fail)
        go_wp2_with fail
        refine bodyPost_ret (v := .agg #[.int .i64 p.1, .int .i64 p.2]) (by simp [results, Try.results19, go_sem, HH.out]) rfl ⟨rfl, ?_⟩
        (repeat (first | exact bel_refl _ | assumption | apply bel_alloc | apply bel_drew | apply bel_drewN | (refine bel_set ?_ (by simp))))
      · have HH : Hid (p = (l + (t - t0) * G.each, t)) := Lib.hid (by rw [← Hp.out, if_neg hle, if_neg (fun h => hq h.2)])
        obtain ⟨f1, f2⟩ := hfit (by omega) (fun h => hq h.2)
        go_enter Try.func19, Try.ntmps19
        go_wp2_with fail
        go_quiet (fail)
        go_wp2_with fail
        go_region
        all_goals (go_wp2_with fail)
        all_goals (refine bodyPost_ret (v := .agg #[.int .i64 p.1, .int .i64 p.2]) (by simp [results, Try.results19, go_sem, HH.out]) rfl ⟨rfl, ?_⟩)
        all_goals (repeat (first | exact bel_refl _ | assumption | apply bel_alloc | apply bel_drew | apply bel_drewN | (refine bel_set ?_ (by simp))))
    · have he' : decide (0 < G.each) = false := by simpa using he
      have e0 : G.each = 0 := by omega
      have HH : Hid (p = (l, t)) := Lib.hid (by rw [← Hp.out, if_neg hle, if_neg (fun h => he h.1), e0]; simp)
      clear hfit Hp
      obtain ⟨gb, ge, gr, gf, gn⟩ := G
      simp only at *
      subst e0
      go_enter Try.func19, Try.ntmps19
      go_wp2_with fail
      go_quiet (fail)
      go_wp2_with fail
      go_region
      all_goals (go_wp2_with fail)
      all_goals (refine bodyPost_ret (v := .agg #[.int .i64 p.1, .int .i64 p.2]) (by simp [results, Try.results19, go_sem, HH.out]) rfl ⟨rfl, ?_⟩)
      all_goals (repeat (first | exact bel_refl _ | assumption | apply bel_alloc | apply bel_drew | apply bel_drewN | (refine bel_set ?_ (by simp))))
end Go.Proofs.Ytjeecffhclhbaaa
