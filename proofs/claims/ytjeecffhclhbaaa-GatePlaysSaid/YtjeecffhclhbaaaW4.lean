/- Gates: the contracts of New (7), Left (10), Clients (13), Ask (9). -/
import Derived.Test.YtjeecffhclhbaaaW3
namespace Go.Proofs.Ytjeecffhclhbaaa
open Go.RowKit Go.Kt

theorem below_drewN (w : World) (n : Nat) : Below w.heap.size w (w.drewN n) := ⟨rfl, rfl, rfl, Nat.le_refl _, fun _ _ => rfl⟩
open Classical in
noncomputable def setF (f : Lit → Option (Int × Int)) (k : Lit) (b : Int × Int) : Lit → Option (Int × Int) := fun x => if x = k then some b else f x
theorem upd_setF (f : Lit → Option (Int × Int)) (k : Lit) (b : Int × Int) : upd (fun x => (f x).map bkt) k (bkt b) = fun x => (setF f k b x).map bkt := by
  funext x
  unfold upd setF
  by_cases h : x = k <;> simp [h]
noncomputable def asked (G : Gt) (s : ByteArray) (cost t : Int) : Gt := { G with f := setF G.f (kl s) ((findF G s t).1 - cost, (findF G s t).2), n := if (G.f (kl s)).isSome then G.n else G.n + 1 }
noncomputable def askF (G : Gt) (s : ByteArray) (cost t : Int) : Int × Gt :=
  if rightB s t = false ∨ cost < 1 then (1, G)
  else if G.burst < cost then (8, G)
  else if (G.f (kl s)).isSome = false ∧ G.room ≤ G.n then (4, G)
  else if (findF G s t).1 < cost then (4, G)
  else (0, asked G s cost t)

set_option maxHeartbeats 1000000 in
theorem clients_any (g m : Nat) (G : Gt) (w : World) (hG : GateAt w g m G) :
    Calls Try.prog 13 #[.pointer (some ⟨g, 0, none⟩)] w fun e w' => e = .returned (.int .i64 (G.n : Int)) ∧ w = w' := by
  obtain ⟨c0, c1, c2, c3⟩ := hG.cell
  have hn := hG.2.len Try.underlying49 3
  clear hG
  go_enter Try.func13, Try.ntmps13
  go_wp2_with fail
  go_ret
  exact ⟨rfl, rfl⟩
theorem clients_nil (w : World) : Calls Try.prog 13 #[.pointer none] w fun e w' => e = .returned (.int .i64 0) ∧ w = w' := by
  go_enter Try.func13, Try.ntmps13
  go_wp2_with fail
  go_ret
  exact ⟨rfl, rfl⟩

def leftF (G : Gt) (s : ByteArray) (t : Int) : Int := if rightB s t then (findF G s t).1 else 0
theorem rightB_t {s : ByteArray} {t : Int} (h : rightB s t = true) : 0 ≤ t ∧ t ≤ 4611686018427387904 := by
  simp only [rightB, Bool.and_eq_true, decide_eq_true_eq] at h
  exact ⟨h.1.2, h.2⟩
set_option maxHeartbeats 1000000 in
theorem left_any (g m : Nat) (G : Gt) (s : ByteArray) (t : Int) (w : World) (hG : GateAt w g m G) (hok : G.ok) (hs : s.size ≤ 9223372036854775807) :
    Calls Try.prog 10 #[.pointer (some ⟨g, 0, none⟩), .string s, .int .i64 t] w fun e w' => e = .returned (.int .i64 (leftF G s t)) ∧ Below w.heap.size w w' := by
  have HG := Lib.hid hG
  have Hok := Lib.hid hok
  generalize hp : leftF G s t = p
  have Hp := Lib.hid hp
  clear hp hG hok
  unfold leftF at Hp
  cases hr : rightB s t with
  | false =>
    have HH : Hid (p = 0) := Lib.hid (by rw [← Hp.out, hr]; rfl)
    have Hr := Lib.hid hr
    clear hr
    go_enter Try.func10, Try.ntmps10
    go_wp2_with (go_at_call 16; refine (right_any s t _ hs).mono ?_; rw [Hr.out]; rintro e w1 ⟨rfl, rfl⟩)
    go_ret
    exact ⟨by rw [HH.out]; rfl, bel_refl _⟩
  | true =>
    have HH : Hid (p = (findF G s t).1) := Lib.hid (by rw [← Hp.out, hr]; rfl)
    obtain ⟨t1, t2⟩ := rightB_t hr
    have Hr := Lib.hid hr
    clear hr
    go_enter Try.func10, Try.ntmps10
    go_wp2_with (first
      | (go_at_call 16; refine (right_any s t _ hs).mono ?_; rw [Hr.out]; rintro e w1 ⟨rfl, rfl⟩)
      | (go_at_call 17; refine (find_any g m G s t _ HG.out Hok.out hs t1 t2).mono ?_; rintro e w2 ⟨rfl, hb⟩; have Hb := Lib.hid hb; clear hb))
    go_ret
    exact ⟨by rw [HH.out]; rfl, bel_alloc Hb.out⟩
theorem left_nil (s : ByteArray) (t : Int) (w : World) : Calls Try.prog 10 #[.pointer none, .string s, .int .i64 t] w fun e w' => e = .returned (.int .i64 0) ∧ w = w' := by
  go_enter Try.func10, Try.ntmps10
  go_wp2_with fail
  go_ret
  exact ⟨rfl, rfl⟩
end Go.Proofs.Ytjeecffhclhbaaa
