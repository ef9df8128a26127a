/- A log on a disk whose power stays: what it is after each step (plain). -/
import Derived.Test.YtokmiphgalpahaaPX
import Derived.Test.YtokmiphgalpahaaFWD
namespace Go.Proofs.Ytokmiphgalpahaa
open Go.RowKit Go.Kt

theorem tailF_true : ∀ recs : List (List UInt8), tailF true (recs.map fun r => ((1 : UInt8), r)) = (recs, (recsB recs).length, true)
  | [] => rfl
  | r :: t => by
    have ih := tailF_true t
    have hs := Fm.Fr.sealed_len 1 r
    rw [List.map_cons, tailF, if_pos rfl, ih]
    simp only [recsB, List.map_cons, List.flatten_cons, List.length_append] at hs ⊢
    rw [hs]
theorem tailF_false (recs : List (List UInt8)) : tailF false (((3 : UInt8), []) :: recs.map fun r => ((1 : UInt8), r)) = (recs, 9 + (recsB recs).length, true) := by
  rw [tailF, if_neg (by decide), if_pos ⟨rfl, rfl⟩, tailF_true]
  simp
theorem joined_recs : ∀ recs : List (List UInt8), Fm.Fr.joined (recs.map fun r => ((1 : UInt8), r)) = recsB recs
  | [] => rfl
  | r :: t => by
    rw [List.map_cons, Fm.Fr.joined, joined_recs t]
    simp [recsB]
/-- what a log's segment holds -/
def segB (base : List UInt8) (recs : List (List UInt8)) : List UInt8 := wholeW base [] ++ recsB recs
theorem segB_joined (base : List UInt8) (recs : List (List UInt8)) : segB base recs = Fm.Fr.joined (((2 : UInt8), base) :: ((3 : UInt8), []) :: recs.map fun r => ((1 : UInt8), r)) := by
  rw [Fm.Fr.joined, Fm.Fr.joined, joined_recs]
  simp [segB, wholeW, recsB]
theorem segB_len (base : List UInt8) (recs : List (List UInt8)) : (segB base recs).length = 18 + base.length + (recsB recs).length := by
  have e1 := Fm.Fr.sealed_len 2 base
  have e2 := Fm.Fr.sealed_len 3 []
  simp only [segB, wholeW, recsB, List.map_nil, List.flatten_nil, List.append_nil, List.length_append, e1, e2, List.length_nil]
  omega
theorem segB_add (base : List UInt8) (recs : List (List UInt8)) (p : List UInt8) : segB base recs ++ Fm.Fr.sealed 1 p = segB base (recs ++ [p]) := by
  simp [segB, recsB, List.append_assoc]
theorem scan_empty : (Fm.Fr.scan []).1 = [] ∧ (Fm.Fr.scan []).2 = 0 := by
  have h : (Fm.Fr.opened []).err ≠ 0 := by decide
  rw [Fm.Fr.scan_bad [] h]
  exact ⟨rfl, rfl⟩
theorem segB_stands (base : List UInt8) (recs : List (List UInt8)) (hb : base.length ≤ 2000) (hr : ∀ r ∈ recs, r.length ≤ 2000) : standsW (segB base recs) = some ⟨base, recs, (segB base recs).length⟩ := by
  have hl : (segB base recs).length = 9 + base.length + (9 + (recsB recs).length) := by rw [segB_len]; omega
  have hs := Fm.Fr.scan_joined [] (((2 : UInt8), base) :: ((3 : UInt8), []) :: recs.map fun r => ((1 : UInt8), r)) (by
    intro x hx
    simp only [List.mem_cons, List.mem_map] at hx
    rcases hx with rfl | rfl | ⟨r, hr1, rfl⟩
    · exact hb
    · simp
    · exact hr r hr1)
  rw [List.append_nil, ← segB_joined, scan_empty.1, List.append_nil] at hs
  rw [hl]
  unfold standsW
  rw [hs]
  simp only [standsL]
  rw [tailF_false]
  simp
/-- the disk under such a log -/
def onP (seg : Int) (b : List UInt8) (s : Nat) (k : Bool) : Pd := ⟨4194304, -1, false, [⟨seg, b, s, k⟩]⟩
theorem powF_neg : powF (-1) = -1 := by decide
theorem hasP_one (seg : Int) (b : List UInt8) (s : Nat) (k : Bool) : HasP seg (onP seg b s k).L := ⟨_, List.mem_cons_self, rfl⟩
theorem onP_app {seg : Int} {b : List UInt8} {s : Nat} {k : Bool} {l : List UInt8} (h1 : 1 ≤ seg) (hl : b.length + l.length ≤ 4194304) : (onP seg b s k).app seg l = (0, onP seg (b ++ l) s k) := by
  unfold Pd.app
  rw [if_neg (by simp [onP]), if_neg (by omega), if_neg, if_neg (by simp [onP])]
  · unfold appP
    rw [if_pos (hasP_one seg b s k)]
    simp [onP, addP, powF_neg]
  · rintro (h | h)
    · simp [onP, usedP] at h
      omega
    · exact h.1 (hasP_one seg b s k)
theorem onP_sync (seg : Int) (b : List UInt8) (s : Nat) (k : Bool) : (onP seg b s k).sync seg = (0, onP seg b b.length true) := by
  unfold Pd.sync
  rw [if_neg (by simp [onP]), if_neg (by simpa using hasP_one seg b s k), if_neg (by simp [onP])]
  simp [onP, syncP, powF_neg]
theorem openW_on {seg : Int} {s : Nat} {k : Bool} {base : List UInt8} {recs : List (List UInt8)} (hb : base.length ≤ 2000) (hr : ∀ r ∈ recs, r.length ≤ 2000) : openW (onP seg (segB base recs) s k) = (0, some ⟨seg, base, recs⟩, onP seg (segB base recs) s k) := by
  have hf : findW (onP seg (segB base recs) s k) = some (⟨seg, segB base recs, s, k⟩, ⟨base, recs, (segB base recs).length⟩) := by
    have h := segB_stands base recs hb hr
    simp only [findW, onP, List.length_cons, List.length_nil, Nat.zero_add, lastF, List.getElem?_cons_zero, h]
  have hw : wholeP (onP seg (segB base recs) s k) = some (⟨seg, segB base recs, s, k⟩, ⟨base, recs, (segB base recs).length⟩) := by
    unfold wholeP
    rw [hf]
    simp [onP]
  unfold openW
  rw [if_neg (by simp [onP]), hw]
theorem recW_on {seg : Int} {s : Nat} {k : Bool} {base p : List UInt8} {recs : List (List UInt8)} (h1 : 1 ≤ seg) (hp : p.length ≤ 2000) (hl : (segB base recs).length + (9 + p.length) ≤ 4194304) : recW (onP seg (segB base recs) s k) seg p = (0, onP seg (segB base (recs ++ [p])) s k) := by
  have hs := Fm.Fr.sealed_len 1 p
  unfold recW
  rw [if_neg (by omega), onP_app h1 (by rw [hs]; omega), segB_add]
theorem rebaseW_on {seg : Int} {s : Nat} {k : Bool} {b p : List UInt8} (h1 : 1 ≤ seg) (hp : p.length ≤ 2000) (hl : b.length + (18 + p.length) ≤ 4194304) : rebaseW (onP seg b s k) seg p = (0, seg + 1, onP (seg + 1) (segB p []) (18 + p.length) true) := by
  have hw : (wholeW p []).length = 18 + p.length := by
    have := segB_len p []
    simp [segB, recsB] at this
    omega
  have hsg : segB p [] = wholeW p [] := by simp [segB, recsB]
  have hne : seg ≠ seg + 1 := by omega
  have ha : (onP seg b s k).app (seg + 1) (wholeW p []) = (0, ⟨4194304, -1, false, [⟨seg, b, s, k⟩, ⟨seg + 1, wholeW p [], 0, false⟩]⟩) := by
    have hno : ¬ HasP (seg + 1) (onP seg b s k).L := by
      rintro ⟨q, hq, e⟩
      simp only [onP, List.mem_cons, List.not_mem_nil, or_false] at hq
      subst hq
      simp only at e
      omega
    unfold Pd.app
    rw [if_neg (by simp [onP]), if_neg (by omega), if_neg, if_neg (by simp [onP])]
    · unfold appP
      rw [if_neg hno]
      simp [onP, insP, powF_neg, show seg < seg + 1 by omega]
    · rintro (h | h)
      · simp [onP, usedP] at h
        omega
      · have := h.2
        simp [onP] at this
  have hb : (⟨4194304, -1, false, [⟨seg, b, s, k⟩, ⟨seg + 1, wholeW p [], 0, false⟩]⟩ : Pd).sync (seg + 1) = (0, ⟨4194304, -1, false, [⟨seg, b, s, k⟩, ⟨seg + 1, wholeW p [], 18 + p.length, true⟩]⟩) := by
    have hy : HasP (seg + 1) [⟨seg, b, s, k⟩, ⟨seg + 1, wholeW p [], 0, false⟩] := ⟨⟨seg + 1, wholeW p [], 0, false⟩, by simp, rfl⟩
    unfold Pd.sync
    rw [if_neg (by simp), if_neg (by simpa using hy), if_neg (by simp)]
    simp [syncP, powF_neg, hne, hw]
  have hd : (⟨4194304, -1, false, [⟨seg, b, s, k⟩, ⟨seg + 1, wholeW p [], 18 + p.length, true⟩]⟩ : Pd).drop seg = (0, onP (seg + 1) (wholeW p []) (18 + p.length) true) := by
    have hy : HasP seg [⟨seg, b, s, k⟩, ⟨seg + 1, wholeW p [], 18 + p.length, true⟩] := ⟨⟨seg, b, s, k⟩, by simp, rfl⟩
    have hne' : seg + 1 ≠ seg := by omega
    unfold Pd.drop
    rw [if_neg (by simp), if_neg (by simpa using hy), if_neg (by simp)]
    simp [onP, dropP, powF_neg, hne']
  unfold rebaseW
  rw [if_neg (by omega), ha]
  simp only [ne_eq, not_true_eq_false, if_false]
  rw [hb]
  simp only [ne_eq, not_true_eq_false, if_false]
  rw [hd, hsg]
end Go.Proofs.Ytokmiphgalpahaa
