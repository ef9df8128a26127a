/- The contracts of From (function 20) and Same (function 19): pieces as the document's; are two slices of pieces the same? -/
import Derived.Test.YtokmiphgalpahaaFW9
namespace Go.Proofs.Ytokmiphgalpahaa.Fm
open Go.RowKit Go.Kt

/-- the form in which a walk reads pieces -/
theorem rdPcs_open {w : World} {v : Value} {T : List Pc} (h : RdRow 2 w v T.length (cellsOf T)) : ∃ a cap, v = .slice a T.length cap ∧ T.length ≤ cap ∧ cap ≤ maxLen ∧
    ∀ (i : Nat) (x : Pc), T[i]? = some x → ∃ b o, a = some ⟨b, o, none⟩ ∧ w.cell? ⟨b, o + i * 2, none⟩ = some (.int .u8 (x.1.toNat : Int)) ∧ w.cell? ⟨b, o + i * 2 + 1, none⟩ = some x.2.1 := by
  obtain ⟨_, a, cap, rfl, h1, h2, _, h5⟩ := h
  refine ⟨a, cap, rfl, h1, h2, fun i x hi => ?_⟩
  obtain ⟨c1, c2⟩ := cellsOf_get T i x hi
  obtain ⟨b, o, rfl, hc⟩ := h5 _ _ c1
  obtain ⟨b', o', e, hc'⟩ := h5 _ _ c2
  cases e
  exact ⟨b, o, rfl, hc, by rw [Nat.add_assoc]; exact hc'⟩
theorem cellsOf_take (T : List Pc) (k : Nat) (x : Pc) (h : T[k]? = some x) : cellsOf (T.take (k + 1)) = cellsOf (T.take k) ++ [by8 x.1, x.2.1] := by
  obtain ⟨hk, rfl⟩ := List.getElem?_eq_some_iff.1 h
  rw [List.take_succ_eq_append_getElem hk, cellsOf_append]; rfl

theorem plain_get (T : List Pc) (i : Nat) (x : Pc) (h : T[i]? = some x) : (plain T)[i]? = some (x.1, x.2.2) := by
  simp [plain, h]
theorem below_drewN2 (w : World) (n m : Nat) : Below w.heap.size w ((w.drewN n).drewN m) := ⟨rfl, rfl, rfl, Nat.le_refl _, fun _ _ => rfl⟩

end Go.Proofs.Ytokmiphgalpahaa.Fm
