/- Same (12): are two rows of rows of bytes the same? -/
import Derived.Test.YtokmiphgalpahaaV2
import Derived.Test.YtokmiphgalpahaaKtL
import Derived.BigQuiet
import Derived.Deep.QuietTactic
import Derived.Deep.RegionHeld3
namespace Go.Proofs.Ytokmiphgalpahaa
open Go.RowKit Go.Kt
set_option maxRecDepth 100000
variable {F G K : Nat → Prop} {w w' w0 w1 w2 W : World}
theorem below_drew2 (w : World) (n m : Nat) : Below w.heap.size w ((w.drewN n).drewN m) := ⟨rfl, rfl, rfl, Nat.le_refl _, fun _ _ => rfl⟩
set_option maxHeartbeats 2000000 in
theorem same_any (v1 v2 : Value) (a b : List (List UInt8)) (w : World) (h1 : RdBs w v1 a) (h2 : RdBs w v2 b) :
    Calls Try.prog 12 #[v1, v2] w fun e w' => e = .returned (.bool (decide (a = b))) ∧ Below w.heap.size w w' := by
  obtain ⟨aa, ac, rfl, ha1, ha2, ha3⟩ := h1.open
  obtain ⟨ba, bc, rfl, hb1, hb2, hb3⟩ := h2.open
  have HA := Lib.hid ha3
  have HB := Lib.hid hb3
  have Hans : Hid (∃ ans, decide (a = b) = ans) := Lib.hid ⟨_, rfl⟩
  obtain ⟨ans, hans⟩ := Hans.out
  have Hans := Lib.hid hans
  rw [hans]
  clear ha3 hb3 h1 h2
  by_cases hl : a.length = b.length
  · have ht : ((a.length : Int) != (b.length : Int)) = false := by rw [hl]; simp
    have hSl : b.length ≤ a.length := by omega
    have Hl := Lib.hid hl
    clear hl hans
    go_enter Try.func12, Try.ntmps12
    go_wp2_with fail
    go_loopw [5] (fun i wr => ∃ k : Nat, k ≤ a.length ∧ i = .int .i64 k ∧ (∃ q, wr = w.drewN q) ∧ Hid (∀ i, i < k → a[i]? = b[i]?)) (fun i _ => a.length - (intOf i).toNat)
    case atStart => exact ⟨0, by omega, rfl, ⟨0, rfl⟩, Lib.hid (by intro i hi; omega)⟩
    case round =>
      obtain ⟨k, hk, rfl, ⟨q, rfl⟩, Hk⟩ := hrel
      by_cases hlt : k < a.length
      · obtain ⟨x, hx⟩ : ∃ x, a[k]? = some x := ⟨a[k], List.getElem?_eq_getElem hlt⟩
        obtain ⟨y, hy⟩ : ∃ y, b[k]? = some y := ⟨b[k]'(by have := Hl.out; omega), List.getElem?_eq_getElem (by have := Hl.out; omega)⟩
        obtain ⟨b1, o1, vx, rfl, c1, hrx⟩ := HA.out k x hx
        obtain ⟨b2, o2, vy, rfl, c2, hry⟩ := HB.out k y hy
        have sx := fun n => run_str8 (P := Try.prog) (dst := 9) Try.underlying22 Try.underlying5 Try.underlying9 (hrx.drewN n)
        have sy := fun n => run_str8 (P := Try.prog) (dst := 9) Try.underlying22 Try.underlying5 Try.underlying9 (hry.drewN n)
        have Hpx := Lib.hid hx
        have Hpy := Lib.hid hy
        have hi1 : (k : Int) < ↑a.length := by omega
        have hi2 : (k : Int) < ↑b.length := by have := Hl.out; omega
        clear hx hy hrx hry
        by_cases hll : x = y
        · have hd2 : (x == y) = true := by simpa using hll
          have Hnext : Hid (∀ i, i < k + 1 → a[i]? = b[i]?) := Lib.hid (by
            intro i hi
            by_cases hik : i = k
            · rw [hik, Hpx.out, Hpy.out, hll]
            · exact Hk.out i (by omega))
          clear hll
          go_wp2_with fail
          go_quiet (fail)
          go_wp2_with fail
          go_roundw
          case rel => exact ⟨k + 1, by omega, by go_num, ⟨_, rfl⟩, Hnext⟩
          case measure => simp [intOf]; omega
        · have hd2 : (x == y) = false := by simpa using hll
          have Ha : Hid (ans = false) := Lib.hid (by
            rw [← Hans.out, decide_eq_false_iff_not]
            intro h
            rw [h, Hpy.out] at Hpx
            have := Hpx.out
            simp only [Option.some.injEq] at this
            exact hll this.symm)
          clear hll
          go_wp2_with fail
          go_quiet (fail)
          go_wp2_with fail
          go_ret
          exact ⟨by rw [Ha.out]; rfl, below_drew2 _ _ _⟩
      · obtain rfl : k = a.length := by omega
        have Ha : Hid (ans = true) := Lib.hid (by
          rw [← Hans.out, decide_eq_true_iff]
          apply List.ext_getElem?
          intro i
          by_cases hi : i < a.length
          · exact Hk.out i hi
          · have := Hl.out
            rw [List.getElem?_eq_none (by omega), List.getElem?_eq_none (by omega)])
        go_wp2_with fail
        go_ret
        exact ⟨by rw [Ha.out]; rfl, below_drewN _ _⟩
  · have ht : ((a.length : Int) != (b.length : Int)) = true := by rw [bne_iff_ne]; omega
    have Ha : Hid (ans = false) := Lib.hid (by
      rw [← hans, decide_eq_false_iff_not]
      intro h
      exact hl (by rw [h]))
    clear hl hans
    go_enter Try.func12, Try.ntmps12
    go_wp2_with fail
    go_ret
    exact ⟨by rw [Ha.out]; rfl, bel_refl w⟩
end Go.Proofs.Ytokmiphgalpahaa
