/- Seats: the map of loads; ahead (14). -/
import Derived.Test.YtgfegadklkecdaaW5
namespace Go.Proofs.Ytgfegadklkecdaa
open Go.RowKit Go.Kt

theorem key3 : Maps.Keyed Try.prog 3 := Maps.int_keyed Try.underlying3
theorem zero3 (w : World) : (zeroValue 3).run Try.prog w = .ok (.int .i64 0) w := by kernel_rfl
def In64 (n : Int) : Prop := -9223372036854775808 ≤ n ∧ n ≤ 9223372036854775807
theorem In64.wf {n : Int} (h : In64 n) : (Lit.int .i64 n).wf = true := by
  obtain ⟨h1, h2⟩ := h
  simp [Lit.wf, IntKind.min, IntKind.max, IntKind.signed, IntKind.bits]
  omega
/-- block mb is a map that has a load for each node -/
def LdMap (w : World) (mb : Nat) (ld : Int → Int) (N : Nat) : Prop :=
  ∃ f n, MapIs Try.prog 3 w mb f n ∧ n ≤ N ∧ ∀ nd : Int, (f (.int .i64 nd)).getD (.int .i64 0) = .int .i64 (ld nd)
theorem LdMap.lt {w : World} {mb : Nat} {ld : Int → Int} {N : Nat} (h : LdMap w mb ld N) : mb < w.heap.size := by obtain ⟨f, n, h, _⟩ := h; exact h.lt
theorem LdMap.below {w w' : World} {mb : Nat} {ld : Int → Int} {N : Nat} (h : LdMap w mb ld N) (hb : Below w.heap.size w w') : LdMap w' mb ld N := by
  obtain ⟨f, n, h1, h2⟩ := h
  exact ⟨f, n, h1.below hb, h2⟩
theorem LdMap.setCell {w : World} {mb : Nat} {ld : Int → Int} {N : Nat} (h : LdMap w mb ld N) {p : Addr} (hp : mb ≠ p.block) (u : Value) : LdMap (w.setCell p u) mb ld N := by
  obtain ⟨f, n, h1, h2⟩ := h
  exact ⟨f, n, h1.setCell hp u, h2⟩
theorem LdMap.grown {w w' : World} {mb : Nat} {ld : Int → Int} {N : Nat} (h : LdMap w mb ld N) {r : Option Nat} (hg : w.grownBy w' r) (hne : some mb ≠ r) : LdMap w' mb ld N := by
  obtain ⟨f, n, h1, h2⟩ := h
  exact ⟨f, n, h1.grown hg hne, h2⟩
theorem LdMap.drewN {w : World} {mb : Nat} {ld : Int → Int} {N : Nat} (h : LdMap w mb ld N) (k : Nat) : LdMap (w.drewN k) mb ld N := by
  obtain ⟨f, n, h1, h2⟩ := h
  exact ⟨f, n, h1.drewN k, h2⟩
theorem LdMap.look {w : World} {mb : Nat} {ld : Int → Int} {N : Nat} (h : LdMap w mb ld N) {nd : Int} (hn : In64 nd) : (Instr.lookup 43 (.map (some mb)) (.int .i64 nd) false).run Try.prog w = .ok (.int .i64 (ld nd)) w := by
  obtain ⟨f, n, h1, _, h2⟩ := h
  rw [h1.look1 key3 Try.underlying43 (zero3 w) (Maps.keyOf_int_mk Try.underlying3 hn.wf), h2]
theorem LdMap.put {w : World} {mb : Nat} {ld : Int → Int} {N : Nat} (h : LdMap w mb ld N) (hN : N < 1000000) {nd : Int} (hn : In64 nd) (v : Int) :
    ∃ w', (Instr.mapUpdate 43 (.map (some mb)) (.int .i64 nd) (.int .i64 v)).run Try.prog w = .ok () w' ∧ LdMap w' mb (fun x => if x = nd then v else ld x) (N + 1) ∧ w.grownBy w' (some mb) := by
  obtain ⟨f, n, h1, h3, h2⟩ := h
  obtain ⟨w', hr, h4, h5⟩ := h1.put key3 Try.underlying43 (by unfold maxLen; omega) (.int .i64 v) (Maps.keyOf_int_mk Try.underlying3 hn.wf) trivial
  refine ⟨w', hr, ⟨_, _, h4, by split <;> omega, fun x => ?_⟩, h5⟩
  show _ = Value.int .i64 (if x = nd then v else ld x)
  unfold upd
  by_cases hx : x = nd
  · subst hx
    rw [if_pos rfl, if_pos rfl]; rfl
  · rw [if_neg (fun e => hx (by injection e)), if_neg hx]
    exact h2 x
theorem LdMap.new (w : World) : LdMap (w.alloc (.map #[] 0)) w.heap.size (fun _ => 0) 0 := ⟨_, _, MapIs.made w Try.prog 3, Nat.le_refl _, fun _ => rfl⟩

set_option maxHeartbeats 2000000 in
theorem ahead_any (a b : Seat) (mb : Nat) (ld : Int → Int) (N : Nat) (w : World) (hm : LdMap w mb ld N) (ha : In64 a.node) (hb : In64 b.node) :
    Calls Try.prog 14 #[a.val, b.val, .map (some mb)] w fun e w' => e = .returned (.bool (ahead ld a b)) ∧ Below w.heap.size w w' := by
  generalize hp : ahead ld a b = p
  have Hp := Lib.hid hp
  clear hp
  have hla : ∀ (o1 o2 : Obj) (k : Nat), (Instr.lookup 43 (.map (some mb)) (.int .i64 a.node) false).run Try.prog (((w.alloc o1).alloc o2).drewN k) = .ok (.int .i64 (ld a.node)) (((w.alloc o1).alloc o2).drewN k) := fun o1 o2 k => (((hm.below (below_alloc w o1)).below (below_alloc _ o2)).drewN k).look ha
  have hlb : ∀ (o1 o2 : Obj) (k : Nat), (Instr.lookup 43 (.map (some mb)) (.int .i64 b.node) false).run Try.prog (((w.alloc o1).alloc o2).drewN k) = .ok (.int .i64 (ld b.node)) (((w.alloc o1).alloc o2).drewN k) := fun o1 o2 k => (((hm.below (below_alloc w o1)).below (below_alloc _ o2)).drewN k).look hb
  unfold ahead at Hp
  unfold Seat.val
  clear hm
  obtain ⟨a1, a2, a3, ap, a5, a6, a7, a8⟩ := a
  obtain ⟨b1, b2, b3, bp, b5, b6, b7, b8⟩ := b
  simp only at *
  cases ap <;> cases bp
  case false.false =>
    by_cases h2 : ld a2 = ld b2
    · have d2 : (ld a2 != ld b2) = false := by simp [h2]
      have HH : Hid (p = decide (a2 < b2)) := Lib.hid (by rw [← Hp.out]; simp [h2])
      clear h2
      go_enter Try.func14, Try.ntmps14
      go_wp2_with fail
      go_quiet (fail)
      go_wp2_with fail
      go_ret
      exact ⟨by rw [HH.out]; rfl, bel_drewN (bel_alloc (bel_alloc (bel_refl _))) _⟩
    · have d2 : (ld a2 != ld b2) = true := by simp [h2]
      have HH : Hid (p = decide (ld a2 < ld b2)) := Lib.hid (by rw [← Hp.out]; simp [h2])
      clear h2
      go_enter Try.func14, Try.ntmps14
      go_wp2_with fail
      go_quiet (fail)
      go_wp2_with fail
      go_ret
      exact ⟨by rw [HH.out]; rfl, bel_drewN (bel_alloc (bel_alloc (bel_refl _))) _⟩
  case false.true =>
    have HH : Hid (p = true) := Lib.hid (by rw [← Hp.out]; simp)
    go_enter Try.func14, Try.ntmps14
    go_wp2_with fail
    go_quiet (fail)
    go_wp2_with fail
    go_ret
    exact ⟨by rw [HH.out]; rfl, bel_drewN (bel_alloc (bel_alloc (bel_refl _))) _⟩
  case true.false =>
    have HH : Hid (p = false) := Lib.hid (by rw [← Hp.out]; simp)
    go_enter Try.func14, Try.ntmps14
    go_wp2_with fail
    go_quiet (fail)
    go_wp2_with fail
    go_ret
    exact ⟨by rw [HH.out]; rfl, bel_drewN (bel_alloc (bel_alloc (bel_refl _))) _⟩
  case true.true =>
    by_cases h2 : ld a2 = ld b2
    · have d2 : (ld a2 != ld b2) = false := by simp [h2]
      have HH : Hid (p = decide (a2 < b2)) := Lib.hid (by rw [← Hp.out]; simp [h2])
      clear h2
      go_enter Try.func14, Try.ntmps14
      go_wp2_with fail
      go_quiet (fail)
      go_wp2_with fail
      go_ret
      exact ⟨by rw [HH.out]; rfl, bel_drewN (bel_alloc (bel_alloc (bel_refl _))) _⟩
    · have d2 : (ld a2 != ld b2) = true := by simp [h2]
      have HH : Hid (p = decide (ld a2 < ld b2)) := Lib.hid (by rw [← Hp.out]; simp [h2])
      clear h2
      go_enter Try.func14, Try.ntmps14
      go_wp2_with fail
      go_quiet (fail)
      go_wp2_with fail
      go_ret
      exact ⟨by rw [HH.out]; rfl, bel_drewN (bel_alloc (bel_alloc (bel_refl _))) _⟩
end Go.Proofs.Ytgfegadklkecdaa
