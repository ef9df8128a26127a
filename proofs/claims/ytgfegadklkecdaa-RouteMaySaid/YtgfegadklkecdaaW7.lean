/- Seats: route.Pick (6). -/
import Derived.Test.YtgfegadklkecdaaW6
import Derived.Deep.CutBlock
import Derived.Deep.DeepCutAuto
namespace Go.Proofs.Ytgfegadklkecdaa
open Go.RowKit Go.Kt

/-- what a Pick ends in -/
def Picked (r : Int ⊕ List Int) (w : World) (e : Ending) (w' : World) : Prop :=
  Below w.heap.size w w' ∧ ((∃ c, r = .inl c ∧ e = .returned (.tuple #[.slice none 0 0, .int .i64 c])) ∨ ∃ out v, r = .inr out ∧ e = .returned (.tuple #[v, .int .i64 0]) ∧ RdI w' v out)
theorem picked_err {r : Int ⊕ List Int} {c : Int} {w w' : World} (h : r = .inl c) (hb : Below w.heap.size w w') : Picked r w (.returned (.tuple #[.slice none 0 0, .int .i64 c])) w' := ⟨hb, .inl ⟨c, h, rfl⟩⟩
structure SeatsOk (l : List Seat) : Prop where
  node : ∀ s ∈ l, 0 ≤ s.node ∧ s.node ≤ 9223372036854775807
  load : ∀ s ∈ l, -9223372036854775808 ≤ s.load ∧ s.load ≤ 9223372036854775807
theorem maxLoad_put (l : List Seat) (k : Nat) (x : Seat) (h : l[k]? = some x) : (fun y => if y = x.node then max (maxLoad (l.take k) x.node) x.load else maxLoad (l.take k) y) = maxLoad (l.take (k + 1)) := by
  funext y
  rw [maxLoad_snoc l y k x h]
  by_cases hy : y = x.node
  · subst hy
    rw [if_pos rfl]
    by_cases h2 : maxLoad (l.take k) x.node < x.load
    · rw [if_pos ⟨rfl, h2⟩]; omega
    · rw [if_neg (fun h => h2 h.2)]; omega
  · rw [if_neg hy, if_neg (fun h => hy h.1.symm)]

set_option maxHeartbeats 2000000 in
theorem pick_no (v : Value) (l : List Seat) (shards : Int) (t : St) (w : World) (hv : RdS w v l) (hno : shards < 1 ∨ 4 < shards ∨ stR t = false ∨ 32 < (l.length : Int)) :
    Calls Try.prog 6 #[v, .int .i64 shards, t.val] w (Picked (pickF l shards t) w) := by
  have HP : Hid (pickF l shards t = .inl 1) := Lib.hid (by unfold pickF; rw [if_pos hno])
  obtain ⟨a, cap, rfl, hcap, hbig, hcell⟩ := hv.open
  clear hcell hv
  unfold St.val
  by_cases h1 : shards < 1
  · clear hno
    go_enter Try.func6, Try.ntmps6
    go_wp2_with fail
    go_ret2
    exact picked_err HP.out (bel_alloc (bel_refl _))
  by_cases h2 : 4 < shards
  · have d1 : decide (shards < 1) = false := by simpa using h1
    clear hno
    go_enter Try.func6, Try.ntmps6
    go_wp2_with fail
    go_ret2
    exact picked_err HP.out (bel_alloc (bel_refl _))
  have d1 : decide (shards < 1) = false := by simpa using h1
  have d2 : decide (4 < shards) = false := by simpa using h2
  cases h3 : stR t with
  | false =>
    have H3 := Lib.hid h3
    clear hno h3
    go_enter Try.func6, Try.ntmps6
    go_wp2_with fail
    refine (str_any t _).mono ?_
    rw [H3.out]
    rintro e w1 ⟨rfl, hb⟩
    have Hb := Lib.hid (bel_trans (bel_alloc (bel_refl w)) hb)
    clear hb
    go_wp2_with fail
    go_ret2
    exact picked_err HP.out Hb.out
  | true =>
    have h4 : 32 < (l.length : Int) := by
      rcases hno with h | h | h | h
      · omega
      · omega
      · rw [h3] at h; cases h
      · exact h
    have H3 := Lib.hid h3
    clear hno h3
    go_enter Try.func6, Try.ntmps6
    go_wp2_with fail
    refine (str_any t _).mono ?_
    rw [H3.out]
    rintro e w1 ⟨rfl, hb⟩
    have Hb := Lib.hid (bel_trans (bel_alloc (bel_refl w)) hb)
    clear hb
    go_wp2_with fail
    go_ret2
    exact picked_err HP.out Hb.out
end Go.Proofs.Ytgfegadklkecdaa
