/- Seats: the document's Pick (9). -/
import Derived.Test.YtgfegadklkecdaaW8
namespace Go.Proofs.Ytgfegadklkecdaa
open Go.RowKit Go.Kt

set_option maxHeartbeats 2000000 in
theorem refpick_no (v : Value) (l : List Seat) (shards : Int) (t : St) (w : World) (hv : RdS w v l) (hno : shards < 1 ∨ 4 < shards ∨ stR t = false ∨ 32 < (l.length : Int)) :
    Calls Try.prog 9 #[v, .int .i64 shards, t.val] w (Picked (pickF l shards t) w) := by
  have HP : Hid (pickF l shards t = .inl 1) := Lib.hid (by unfold pickF; rw [if_pos hno])
  obtain ⟨a, cap, rfl, hcap, hbig, hcell⟩ := hv.open
  clear hcell hv
  unfold St.val
  by_cases h1 : shards < 1
  · clear hno
    go_enter Try.func9, Try.ntmps9
    go_wp2_with fail
    go_ret2
    exact picked_err HP.out (bel_alloc (bel_refl _))
  by_cases h2 : 4 < shards
  · have d1 : decide (shards < 1) = false := by simpa using h1
    clear hno
    go_enter Try.func9, Try.ntmps9
    go_wp2_with fail
    go_ret2
    exact picked_err HP.out (bel_alloc (bel_refl _))
  have d1 : decide (shards < 1) = false := by simpa using h1
  have d2 : decide (4 < shards) = false := by simpa using h2
  cases h3 : stR t with
  | false =>
    have H3 := Lib.hid h3
    clear hno h3
    go_enter Try.func9, Try.ntmps9
    go_wp2_with fail
    refine (refstr_any t _).mono ?_
    rw [H3.out]
    rintro e w1 ⟨rfl, hb⟩
    have Hb := Lib.hid (bel_trans (bel_alloc (bel_refl w)) hb)
    clear hb
    go_wp2_with fail
    go_ret2
    exact picked_err HP.out Hb.out
  | true =>
    have h4 : 32 < (l.length : Int) := by
      rcases hno with h | h | h | h
      · omega
      · omega
      · rw [h3] at h; cases h
      · exact h
    have H3 := Lib.hid h3
    clear hno h3
    go_enter Try.func9, Try.ntmps9
    go_wp2_with fail
    refine (refstr_any t _).mono ?_
    rw [H3.out]
    rintro e w1 ⟨rfl, hb⟩
    have Hb := Lib.hid (bel_trans (bel_alloc (bel_refl w)) hb)
    clear hb
    go_wp2_with fail
    go_ret2
    exact picked_err HP.out Hb.out
end Go.Proofs.Ytgfegadklkecdaa
