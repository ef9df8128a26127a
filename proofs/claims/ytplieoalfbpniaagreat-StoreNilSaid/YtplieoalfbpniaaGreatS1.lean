/- Stamps: Right (73, 76), sign (118), Compare (93), Below (12), To (11), From (13), place$1 (92). -/
import Derived.Test.YtplieoalfbpniaaGreatRows
import Derived.Test.YtplieoalfbpniaaGreatKtA
import Derived.Test.YtplieoalfbpniaaGreatPG
import Derived.Deep.DeepFit
namespace Go.Proofs.YtplieoalfbpniaaGreat
open Go.RowKit Go.Kt Go.Sx
set_option maxRecDepth 100000

def _root_.Go.Sx.Tm.val (s : Tm) : Value := .agg #[.int .i64 s.wall, .int .u32 s.tick, .int .u32 s.mark]
def _root_.Go.Sx.Tm.cells (s : Tm) : List Value := [.int .i64 s.wall, .int .u32 s.tick, .int .u32 s.mark]
def stR (s : Tm) : Bool := decide (0 ≤ s.wall) && decide (s.wall ≤ 4611686018427387904)
def cmpT (a b : Tm) : Int := if a.lt b then -1 else if b.lt a then 1 else 0
theorem ret_bool {a b : Bool} (h : a = b) : Ending.returned (.bool a) = .returned (.bool b) := by rw [h]
theorem ret_int {k : IntKind} {a b : Int} (h : a = b) : Ending.returned (.int k a) = .returned (.int k b) := by rw [h]
theorem bel_trans {a b c : World} (h : Below a.heap.size a b) (k : Below b.heap.size b c) : Below a.heap.size a c := h.trans (k.mono h.size)
theorem bel_refl (a : World) : Below a.heap.size a a := Below.refl _ _
theorem bel_alloc {x y : World} {o : Obj} (h : Below x.heap.size x y) : Below x.heap.size x (y.alloc o) := h.alloc h.size o
theorem bel_drew {x y : World} (h : Below x.heap.size x y) : Below x.heap.size x y.drew := ⟨h.os, h.tape, h.output, h.size, h.block⟩
theorem bel_drewN {x y : World} (h : Below x.heap.size x y) (n : Nat) : Below x.heap.size x (y.drewN n) := ⟨h.os, h.tape, h.output, h.size, h.block⟩

set_option maxHeartbeats 400000 in
theorem str_any (s : Tm) (w : World) : Calls Tryz.prog 73 #[s.val] w fun e w' => e = .returned (.bool (stR s)) ∧ Below w.heap.size w w' := by
  generalize hp : stR s = p
  have Hp := Lib.hid hp
  clear hp
  obtain ⟨a, t, m⟩ := s
  unfold Tm.val
  unfold stR at Hp
  simp only at Hp ⊢
  by_cases h1 : 0 ≤ a
  · have HH : Hid (p = decide (a ≤ 4611686018427387904)) := Lib.hid (by rw [← Hp.out]; simp [h1])
    go_enter Tryz.func73, Tryz.ntmps73
    go_wp2_with fail
    go_ret
    exact ⟨by rw [HH.out]; rfl, below_alloc _ _⟩
  · have HH : Hid (p = false) := Lib.hid (by rw [← Hp.out]; simp [h1])
    have h3' : decide (0 ≤ a) = false := by simpa using h1
    go_enter Tryz.func73, Tryz.ntmps73
    go_wp2_with fail
    go_ret
    exact ⟨by rw [HH.out]; rfl, below_alloc _ _⟩
set_option maxHeartbeats 400000 in
theorem refstr_any (s : Tm) (w : World) : Calls Tryz.prog 76 #[s.val] w fun e w' => e = .returned (.bool (stR s)) ∧ Below w.heap.size w w' := by
  generalize hp : stR s = p
  have Hp := Lib.hid hp
  clear hp
  obtain ⟨a, t, m⟩ := s
  unfold Tm.val
  unfold stR at Hp
  simp only at Hp ⊢
  by_cases h1 : 0 ≤ a
  · have HH : Hid (p = decide (a ≤ 4611686018427387904)) := Lib.hid (by rw [← Hp.out]; simp [h1])
    go_enter Tryz.func76, Tryz.ntmps76
    go_wp2_with fail
    go_ret
    exact ⟨by rw [HH.out]; rfl, below_alloc _ _⟩
  · have HH : Hid (p = false) := Lib.hid (by rw [← Hp.out]; simp [h1])
    have h3' : decide (0 ≤ a) = false := by simpa using h1
    go_enter Tryz.func76, Tryz.ntmps76
    go_wp2_with fail
    go_ret
    exact ⟨by rw [HH.out]; rfl, below_alloc _ _⟩
theorem to_any1 (s : Tm) (w : World) : Calls Tryz.prog 11 #[s.val] w fun e w' => e = .returned s.val ∧ Below w.heap.size w w' := by
  unfold Tm.val
  go_enter Tryz.func11, Tryz.ntmps11
  go_wp2_with fail
  refine bodyPost_ret (v := s.val) (by simp [results, Tryz.results11, go_sem, Tm.val]) rfl ⟨rfl, (below_alloc _ _).alloc (by simp) _⟩
theorem from_any1 (s : Tm) (w : World) : Calls Tryz.prog 13 #[s.val] w fun e w' => e = .returned s.val ∧ Below w.heap.size w w' := by
  unfold Tm.val
  go_enter Tryz.func13, Tryz.ntmps13
  go_wp2_with fail
  refine bodyPost_ret (v := s.val) (by simp [results, Tryz.results13, go_sem, Tm.val]) rfl ⟨rfl, (below_alloc _ _).alloc (by simp) _⟩
theorem sign_any (b : Bool) (w : World) : Calls Tryz.prog 118 #[.bool b] w fun e w' => e = .returned (.int .i64 (if b then -1 else 1)) ∧ w = w' := by
  cases b
  · go_enter Tryz.func118, Tryz.ntmps118
    go_wp2
    go_ret
    exact ⟨rfl, rfl⟩
  · go_enter Tryz.func118, Tryz.ntmps118
    go_wp2
    go_ret
    exact ⟨rfl, rfl⟩
theorem cmpT_cases (a b : Tm) : (a.wall ≠ b.wall ∧ cmpT a b = if decide (a.wall < b.wall) = true then -1 else 1) ∨ (a.wall = b.wall ∧ a.tick ≠ b.tick ∧ cmpT a b = if decide (a.tick < b.tick) = true then -1 else 1) ∨ (a.wall = b.wall ∧ a.tick = b.tick ∧ a.mark ≠ b.mark ∧ cmpT a b = if decide (a.mark < b.mark) = true then -1 else 1) ∨ (a.wall = b.wall ∧ a.tick = b.tick ∧ a.mark = b.mark ∧ cmpT a b = 0) := by
  unfold cmpT
  simp only [decide_eq_true_eq]
  by_cases p : a.lt b
  · rw [if_pos p]
    unfold Tm.lt at p
    by_cases h1 : a.wall = b.wall
    · by_cases h2 : a.tick = b.tick
      · refine .inr (.inr (.inl ⟨h1, h2, by omega, ?_⟩))
        rw [if_pos (by omega)]
      · refine .inr (.inl ⟨h1, h2, ?_⟩)
        rw [if_pos (by omega)]
    · refine .inl ⟨h1, ?_⟩
      rw [if_pos (by omega)]
  · rw [if_neg p]
    unfold Tm.lt at p
    by_cases q : b.lt a
    · rw [if_pos q]
      unfold Tm.lt at q
      by_cases h1 : a.wall = b.wall
      · by_cases h2 : a.tick = b.tick
        · refine .inr (.inr (.inl ⟨h1, h2, by omega, ?_⟩))
          rw [if_neg (by omega)]
        · refine .inr (.inl ⟨h1, h2, ?_⟩)
          rw [if_neg (by omega)]
      · refine .inl ⟨h1, ?_⟩
        rw [if_neg (by omega)]
    · rw [if_neg q]
      unfold Tm.lt at q
      exact .inr (.inr (.inr ⟨by omega, by omega, by omega, rfl⟩))
set_option maxHeartbeats 1000000 in
theorem compare_any (a b : Tm) (w : World) : Calls Tryz.prog 93 #[a.val, b.val] w fun e w' => e = .returned (.int .i64 (cmpT a b)) ∧ Below w.heap.size w w' := by
  have hc := cmpT_cases a b
  generalize hp : cmpT a b = p at hc ⊢
  clear hp
  obtain ⟨aw, at_, am⟩ := a
  obtain ⟨bw, bt, bm⟩ := b
  unfold Tm.val
  simp only at hc ⊢
  have hS := Lib.hid (fun (c : Bool) (W : World) => sign_any c W)
  rcases hc with ⟨h1, hc⟩ | ⟨rfl, h1, hc⟩ | ⟨rfl, rfl, h1, hc⟩ | ⟨rfl, rfl, rfl, hc⟩
  · have e1 : (aw == bw) = false := by simpa using h1
    clear h1
    by_cases h2 : aw < bw
    · rw [if_pos (by simpa using h2)] at hc
      subst hc
      go_enter Tryz.func93, Tryz.ntmps93
      go_wp2_with (go_at_call 118; refine (hS.out _ _).mono ?_; rintro e w1 ⟨rfl, rfl⟩)
      go_ret
      exact ⟨rfl, bel_alloc (below_alloc _ _)⟩
    · rw [if_neg (by simpa using h2)] at hc
      subst hc
      go_enter Tryz.func93, Tryz.ntmps93
      go_wp2_with (go_at_call 118; refine (hS.out _ _).mono ?_; rintro e w1 ⟨rfl, rfl⟩)
      go_ret
      exact ⟨rfl, bel_alloc (below_alloc _ _)⟩
  · have e1 : (at_ == bt) = false := by simpa using h1
    clear h1
    by_cases h2 : at_ < bt
    · rw [if_pos (by simpa using h2)] at hc
      subst hc
      go_enter Tryz.func93, Tryz.ntmps93
      go_wp2_with (go_at_call 118; refine (hS.out _ _).mono ?_; rintro e w1 ⟨rfl, rfl⟩)
      go_ret
      exact ⟨rfl, bel_alloc (below_alloc _ _)⟩
    · rw [if_neg (by simpa using h2)] at hc
      subst hc
      go_enter Tryz.func93, Tryz.ntmps93
      go_wp2_with (go_at_call 118; refine (hS.out _ _).mono ?_; rintro e w1 ⟨rfl, rfl⟩)
      go_ret
      exact ⟨rfl, bel_alloc (below_alloc _ _)⟩
  · have e1 : (am == bm) = false := by simpa using h1
    clear h1
    by_cases h2 : am < bm
    · rw [if_pos (by simpa using h2)] at hc
      subst hc
      go_enter Tryz.func93, Tryz.ntmps93
      go_wp2_with (go_at_call 118; refine (hS.out _ _).mono ?_; rintro e w1 ⟨rfl, rfl⟩)
      go_ret
      exact ⟨rfl, bel_alloc (below_alloc _ _)⟩
    · rw [if_neg (by simpa using h2)] at hc
      subst hc
      go_enter Tryz.func93, Tryz.ntmps93
      go_wp2_with (go_at_call 118; refine (hS.out _ _).mono ?_; rintro e w1 ⟨rfl, rfl⟩)
      go_ret
      exact ⟨rfl, bel_alloc (below_alloc _ _)⟩
  · subst hc
    go_enter Tryz.func93, Tryz.ntmps93
    go_wp2_with (go_at_call 118; refine (hS.out _ _).mono ?_; rintro e w1 ⟨rfl, rfl⟩)
    go_ret
    exact ⟨rfl, bel_alloc (below_alloc _ _)⟩
theorem blw_cases (a b : Tm) : (a.wall ≠ b.wall ∧ decide (a.lt b) = decide (a.wall < b.wall)) ∨ (a.wall = b.wall ∧ a.tick ≠ b.tick ∧ decide (a.lt b) = decide (a.tick < b.tick)) ∨ (a.wall = b.wall ∧ a.tick = b.tick ∧ decide (a.lt b) = decide (a.mark < b.mark)) := by
  by_cases h1 : a.wall = b.wall
  · by_cases h2 : a.tick = b.tick
    · exact .inr (.inr ⟨h1, h2, decide_eq_decide.2 (by unfold Tm.lt; omega)⟩)
    · exact .inr (.inl ⟨h1, h2, decide_eq_decide.2 (by unfold Tm.lt; omega)⟩)
  · exact .inl ⟨h1, decide_eq_decide.2 (by unfold Tm.lt; omega)⟩
set_option maxHeartbeats 1000000 in
theorem below_any (a b : Tm) (w : World) : Calls Tryz.prog 12 #[a.val, b.val] w fun e w' => e = .returned (.bool (decide (a.lt b))) ∧ Below w.heap.size w w' := by
  have hc := blw_cases a b
  generalize hp : decide (a.lt b) = p at hc ⊢
  clear hp
  obtain ⟨aw, at_, am⟩ := a
  obtain ⟨bw, bt, bm⟩ := b
  unfold Tm.val
  simp only at hc ⊢
  rcases hc with ⟨h1, hc⟩ | ⟨rfl, h1, hc⟩ | ⟨rfl, rfl, hc⟩
  · have Hc := Lib.hid hc
    clear hc
    have e1 : (aw == bw) = false := by simpa using h1
    clear h1
    go_enter Tryz.func12, Tryz.ntmps12
    go_wp2_with fail
    go_ret
    exact ⟨ret_bool Hc.out.symm, bel_alloc (below_alloc _ _)⟩
  · have Hc := Lib.hid hc
    clear hc
    have e1 : (at_ == bt) = false := by simpa using h1
    clear h1
    go_enter Tryz.func12, Tryz.ntmps12
    go_wp2_with fail
    go_ret
    exact ⟨ret_bool Hc.out.symm, bel_alloc (below_alloc _ _)⟩
  · have Hc := Lib.hid hc
    clear hc
    go_enter Tryz.func12, Tryz.ntmps12
    go_wp2_with fail
    go_ret
    exact ⟨ret_bool Hc.out.symm, bel_alloc (below_alloc _ _)⟩
end Go.Proofs.YtplieoalfbpniaaGreat
