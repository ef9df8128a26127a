/- The contract of FrameJoins (function 9). -/
import Derived.Test.YtokmiphgalpahaaFWA
import Derived.Deep.CutBlock
import Derived.Deep.DeepCutAuto
namespace Go.Proofs.Ytokmiphgalpahaa.Fm
open Go.RowKit Go.Kt

namespace Fr
def joined : List (UInt8 × List UInt8) → List UInt8
  | [] => []
  | x :: t => sealed x.1 x.2 ++ joined t
theorem joined_append (l r : List (UInt8 × List UInt8)) : joined (l ++ r) = joined l ++ joined r := by
  induction l with
  | nil => rfl
  | cons x t ih => simp only [List.cons_append, joined, ih, List.append_assoc]
theorem joined_len (l : List (UInt8 × List UInt8)) (h : ∀ x ∈ l, x.2.length ≤ 2000) : (joined l).length ≤ l.length * 2009 := by
  induction l with
  | nil => simp [joined]
  | cons x t ih =>
    have h1 := h x (by simp)
    have h2 := ih (fun y hy => h y (by simp [hy]))
    simp only [joined, List.length_append, sealed_len, List.length_cons]
    omega
theorem scan_joined (b : List UInt8) : ∀ (l : List (UInt8 × List UInt8)), (∀ x ∈ l, x.2.length ≤ 2000) → scan (joined l ++ b) = (l ++ (scan b).1, (joined l).length + (scan b).2)
  | [], _ => by simp [joined]
  | x :: t, h => by
    have h1 := h x (by simp)
    have ih := scan_joined b t (fun y hy => h y (by simp [hy]))
    have ho := opened_sealed x.1 x.2 (joined t ++ b) (by omega)
    have hs := scan_ok (sealed x.1 x.2 ++ (joined t ++ b)) (by rw [ho])
    rw [ho] at hs
    have hd : (sealed x.1 x.2 ++ (joined t ++ b)).drop (9 + x.2.length) = joined t ++ b := by
      rw [← sealed_len x.1 x.2, List.drop_left]
    rw [hd, ih] at hs
    show scan ((sealed x.1 x.2 ++ joined t) ++ b) = _
    rw [List.append_assoc, hs]
    simp only [joined, List.length_append, sealed_len, List.cons_append]
    exact Prod.ext rfl (by simp only; omega)
end Fr

theorem cellsOf_cut (T : List Pc) (k : Nat) : (cellsOf T).take (k * 2) = cellsOf (T.take k) ∧ (cellsOf T).drop (k * 2) = cellsOf (T.drop k) := by
  induction T generalizing k with
  | nil => simp [cellsOf]
  | cons x t ih =>
    match k with
    | 0 => simp [cellsOf]
    | k + 1 =>
      rw [show (k + 1) * 2 = k * 2 + 1 + 1 by omega]
      simp only [cellsOf, List.take_succ_cons, List.drop_succ_cons]
      exact ⟨by rw [(ih k).1], (ih k).2⟩
theorem plain_take (T : List Pc) (k : Nat) : plain (T.take k) = (plain T).take k := by simp [plain]
theorem plain_drop (T : List Pc) (k : Nat) : plain (T.drop k) = (plain T).drop k := by simp [plain]
theorem plain_len (T : List Pc) : (plain T).length = T.length := by simp [plain]

section
variable {P : Program} {ops : Array Oper} {rest : List Oper} {a : Act} {Q : Exit → Act → World → Prop} {w : World} {d : Option Tmp} {t ty : TypeId} {x : Operand} {pos : String} {af : Array Edge} {g : Option (Nat × Bool)}
theorem wpList_pcs_hi {e : TypeId} {z : Value} {bytes : Nat} (ok : ElemOk P t e z 2 bytes) {h : Operand} (hw : Region.wanted ⟨d, .slice t x none (some h) none, ty, pos, af, g⟩ (yielded ops a.tmps) = true) {vx : Value} {ps : List (UInt8 × List UInt8)} (hi : Nat) {kh : IntKind} {H : Int}
    (hx : a.eval x = vx) (hh : a.eval h = .int kh H) (eH : H = hi) (hrd : RdPcs w vx ps) (h2 : hi ≤ ps.length)
    (hK : ∀ v', (∀ (w0 : World) (ps : List (UInt8 × List UInt8)), RdPcs w0 vx ps → RdPcs w0 v' (ps.take hi)) → wpList P ops Q rest (a.put d v') w) : wpList P ops Q (⟨d, .slice t x none (some h) none, ty, pos, af, g⟩ :: rest) a w := by
  obtain ⟨T, hT, hr, hb⟩ := hrd
  have hl : T.length = ps.length := by rw [← hT, plain_len]
  refine wpList_cut_hi ok hw hi hx hh eH hr (by omega) fun v' h' => hK v' fun w0 ps' hrd' => ?_
  obtain ⟨T', hT', hr', hb'⟩ := hrd'
  have hn : T'.length = T.length := by
    obtain ⟨_, _, _, e, _⟩ := hr
    obtain ⟨_, _, _, e', _⟩ := hr'
    rw [e] at e'
    injection e' with _ e' _
    exact e'.symm
  rw [hn] at hr'
  have h'' := h' w0 _ hr'
  rw [(cellsOf_cut T' hi).1] at h''
  refine ⟨T'.take hi, by rw [plain_take, hT'], ?_, fun y hy => hb' y (List.mem_of_mem_take hy)⟩
  rw [List.length_take, Nat.min_eq_left (by omega)]
  exact h''
theorem wpList_pcs_lo {e : TypeId} {z : Value} {bytes : Nat} (ok : ElemOk P t e z 2 bytes) {l : Operand} (hw : Region.wanted ⟨d, .slice t x (some l) none none, ty, pos, af, g⟩ (yielded ops a.tmps) = true) {vx : Value} {ps : List (UInt8 × List UInt8)} (lo : Nat) {kl : IntKind} {L : Int}
    (hx : a.eval x = vx) (hl : a.eval l = .int kl L) (eL : L = lo) (hrd : RdPcs w vx ps) (h1 : lo ≤ ps.length)
    (hK : ∀ v', (∀ (w0 : World) (ps : List (UInt8 × List UInt8)), RdPcs w0 vx ps → RdPcs w0 v' (ps.drop lo)) → wpList P ops Q rest (a.put d v') w) : wpList P ops Q (⟨d, .slice t x (some l) none none, ty, pos, af, g⟩ :: rest) a w := by
  obtain ⟨T, hT, hr, hb⟩ := hrd
  have hle : T.length = ps.length := by rw [← hT, plain_len]
  refine wpList_cut_lo' ok hw lo hx hl eL hr (by omega) fun v' h' => hK v' fun w0 ps' hrd' => ?_
  obtain ⟨T', hT', hr', hb'⟩ := hrd'
  have hn : T'.length = T.length := by
    obtain ⟨_, _, _, e, _⟩ := hr
    obtain ⟨_, _, _, e', _⟩ := hr'
    rw [e] at e'
    injection e' with _ e' _
    exact e'.symm
  rw [hn] at hr'
  have h'' := h' w0 _ hr'
  rw [(cellsOf_cut T' lo).2] at h''
  refine ⟨T'.drop lo, by rw [plain_drop, hT'], ?_, fun y hy => hb' y (List.mem_of_mem_drop hy)⟩
  rw [List.length_drop, hn]
  exact h''
end

theorem RdPcs.form {w : World} {v : Value} {ps : List (UInt8 × List UInt8)} (h : RdPcs w v ps) : ∃ a cap, v = .slice a ps.length cap ∧ ps.length ≤ cap ∧ cap ≤ 9223372036854775807 := by
  obtain ⟨T, hT, hr, _⟩ := h
  obtain ⟨a, cap, rfl, h1, h2, _⟩ := rdPcs_open hr
  rw [← hT, plain_len]
  exact ⟨a, cap, rfl, h1, h2⟩

end Go.Proofs.Ytokmiphgalpahaa.Fm
