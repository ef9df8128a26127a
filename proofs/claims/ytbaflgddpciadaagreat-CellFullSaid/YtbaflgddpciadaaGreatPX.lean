/- CellFull in plain: a cell that is full of batches that were dropped. -/
import Derived.Test.YtbaflgddpciadaaGreatPW
set_option linter.unusedVariables false
set_option linter.unusedSimpArgs false
namespace Go.Cx
open Go.Sx Go.Ix Go.Proofs.YtbaflgddpciadaaGreat
/-- the tokens -/
def ftok (k : Nat) : ByteArray := ⟨#[UInt8.ofNat (65 + k / 64), UInt8.ofNat (48 + k % 64)]⟩
def fw : Wp := ⟨[], 0, 3, 0, ⟨#[]⟩⟩
def fen (k : Nat) : En := ⟨ftok k, (k : Int) * 4 + 1 + 1, 1, t0, [fw]⟩
def fdd (k : Nat) : Dd := ⟨(k : Int) + 1, 3, t0, []⟩
def fullC (k : Nat) : Cl := { newC 1 with book := (List.range k).map fen, deeds := (List.range k).map fdd }
def halfC (k : Nat) : Cl := { newC 1 with book := (List.range (k + 1)).map fen, deeds := (List.range k).map fdd }
def fbegin (t : ByteArray) : Cmd := ⟨1, 0, t0, false, t, 0, 0, [fw]⟩
def fresolve (d : Int) : Cmd := ⟨4, d, t0, false, ⟨#[]⟩, 0, 0, []⟩
def fprepare (d : Int) : Cmd := ⟨3, d, t0, false, ⟨#[]⟩, 0, 0, [fw]⟩
theorem rightP_nil : RightP [] := by
  unfold RightP; simp
theorem fw_right : RightWp fw := ⟨rightP_nil, by decide, by decide, by unfold verR fw; decide⟩
theorem fw_batch : Batch [fw] := ⟨by decide, by decide, fun w hw => by rw [List.mem_singleton.1 hw]; exact fw_right, by simp⟩
theorem two_token (a b : Nat) (ha : 33 ≤ a ∧ a ≤ 126) (hb : 33 ≤ b ∧ b ≤ 126) : Token ⟨#[UInt8.ofNat a, UInt8.ofNat b]⟩ := by
  refine ⟨by show 1 ≤ 2; decide, by show 2 ≤ 32; decide, fun i hi => ?_⟩
  have e : bl ⟨#[UInt8.ofNat a, UInt8.ofNat b]⟩ = [UInt8.ofNat a, UInt8.ofNat b] := rfl
  simp only [e, List.length_cons, List.length_nil] at hi ⊢
  match i, hi with
  | 0, _ => simp only [List.getElem_cons_zero]; unfold tokAt; simp; omega
  | 1, _ => simp only [List.getElem_cons_succ, List.getElem_cons_zero]; unfold tokAt; simp; omega
theorem ftok_token (k : Nat) (hk : k < 1024) : Token (ftok k) := two_token _ _ (by omega) (by omega)
theorem two_inj {a b c d : Nat} (ha : a < 256) (hb : b < 256) (hc : c < 256) (hd : d < 256) (h : (⟨#[UInt8.ofNat a, UInt8.ofNat b]⟩ : ByteArray) = ⟨#[UInt8.ofNat c, UInt8.ofNat d]⟩) : a = c ∧ b = d := by
  injection h with h
  have h := congrArg Array.toList h
  simp only [List.cons.injEq, and_true] at h
  obtain ⟨h1, h2⟩ := h
  have h1 := congrArg UInt8.toNat h1
  have h2 := congrArg UInt8.toNat h2
  simp at h1 h2
  omega
theorem ftok_inj {i j : Nat} (hi : i < 1024) (hj : j < 1024) (h : ftok i = ftok j) : i = j := by
  have := two_inj (by omega) (by omega) (by omega) (by omega) h
  omega
theorem find_not {i k : Nat} {t : ByteArray} (h : ∀ j, j < k → ftok j ≠ t) : ((List.range k).map fen).find? (fun x => decide (x.token = t)) = none := by
  rw [List.find?_eq_none]
  intro x hx
  obtain ⟨j, hj, rfl⟩ := List.mem_map.1 hx
  have := h j (List.mem_range.1 hj)
  exact fun e => this (of_decide_eq_true e)
theorem findD_not {k : Nat} {d : Int} (h : (k : Int) < d) : findD ((List.range k).map fdd) d = none := by
  unfold findD
  rw [List.find?_eq_none]
  intro x hx
  obtain ⟨j, hj, rfl⟩ := List.mem_map.1 hx
  have := List.mem_range.1 hj
  intro e
  have e : (fdd j).id = d := of_decide_eq_true e
  have e2 : (fdd j).id = (j : Int) + 1 := rfl
  omega
theorem full_begin (k : Nat) (hk : k < 1024) : doC (fullC k) (fbegin (ftok k)) = (⟨0, (k : Int) * 4 + 1 + 1, 1, t0⟩, halfC k) := by
  have e : doC (fullC k) (fbegin (ftok k)) = beginC (fullC k) (fbegin (ftok k)) := by unfold doC; simp [fbegin]
  rw [e]
  unfold beginC
  rw [if_neg (fun h => h ⟨ftok_token k hk, fw_batch⟩)]
  have hf : (fullC k).book.find? (fun x => decide (x.token = (fbegin (ftok k)).token)) = none := find_not (i := 0) (fun j hj h => by have := ftok_inj (by omega) hk h; omega)
  rw [hf]
  simp only
  rw [if_neg (by simp [fullC]; omega)]
  simp [halfC, fullC, List.range_succ, En.told, fbegin, newC, fen]
theorem putD_last {k : Nat} {d : Dd} (h : d.id = (k : Int) + 1) : putD ((List.range k).map fdd) d = (List.range k).map fdd ++ [d] := by
  unfold putD
  have h1 : ((List.range k).map fdd).filter (fun x => decide (x.id < d.id)) = (List.range k).map fdd := by
    rw [List.filter_eq_self]
    intro x hx
    obtain ⟨j, hj, rfl⟩ := List.mem_map.1 hx
    have := List.mem_range.1 hj
    have e2 : (fdd j).id = (j : Int) + 1 := rfl
    exact decide_eq_true (by omega)
  have h2 : ((List.range k).map fdd).filter (fun x => decide (d.id < x.id)) = [] := by
    rw [List.filter_eq_nil_iff]
    intro x hx
    obtain ⟨j, hj, rfl⟩ := List.mem_map.1 hx
    have := List.mem_range.1 hj
    have e2 : (fdd j).id = (j : Int) + 1 := rfl
    exact fun e => absurd (of_decide_eq_true e) (by omega)
  rw [h1, h2]
theorem full_resolve (k : Nat) (hk : k < 1024) : doC (halfC k) (fresolve ((k : Int) + 1)) = (⟨0, (k : Int) + 1, 3, t0⟩, fullC (k + 1)) := by
  have e : doC (halfC k) (fresolve ((k : Int) + 1)) = resolveC (halfC k) (fresolve ((k : Int) + 1)) := by unfold doC; simp [fresolve]
  rw [e]
  unfold resolveC
  simp only
  have hf : findD (halfC k).deeds (fresolve ((k : Int) + 1)).deed = none := findD_not (by simp [fresolve]; omega)
  rw [hf]
  simp only
  rw [if_neg (by simp [fresolve]; omega), if_neg (by simp [fresolve]), if_neg (by simp [halfC]; omega), if_neg (by simp [fresolve])]
  have hp : putD (halfC k).deeds ⟨(fresolve ((k : Int) + 1)).deed, 3, t0, []⟩ = (List.range (k + 1)).map fdd := by
    have : (halfC k).deeds = (List.range k).map fdd := rfl
    rw [this, putD_last rfl, List.range_succ, List.map_append]
    rfl
  have hy : (fresolve ((k : Int) + 1)).yes = false := rfl
  simp only [hy, Bool.false_eq_true, if_false]
  rw [hp]
  rfl
theorem full_a {n : Nat} (hn : n = 1024) : doC (fullC n) (fbegin ⟨#[122, 122]⟩) = (bad 4, fullC n) := by
  have e : doC (fullC n) (fbegin ⟨#[122, 122]⟩) = beginC (fullC n) (fbegin ⟨#[122, 122]⟩) := by unfold doC; simp [fbegin]
  rw [e]
  unfold beginC
  rw [if_neg (fun h => h ⟨two_token 122 122 (by decide) (by decide), fw_batch⟩)]
  have hf : (fullC n).book.find? (fun x => decide (x.token = (fbegin ⟨#[122, 122]⟩).token)) = none := find_not (i := 0) (fun j hj h => by
    have := two_inj (c := 122) (d := 122) (by omega) (by omega) (by omega) (by omega) h
    omega)
  rw [hf]
  simp only
  rw [if_pos (by simp [fullC]; omega)]
theorem full_b {n : Nat} (hn : n = 1024) : doC (fullC n) (fresolve 5000) = (bad 4, fullC n) := by
  have e : doC (fullC n) (fresolve 5000) = resolveC (fullC n) (fresolve 5000) := by unfold doC; simp [fresolve]
  rw [e]
  unfold resolveC
  simp only
  have hf : findD (fullC n).deeds (fresolve 5000).deed = none := findD_not (by simp only [fresolve]; omega)
  rw [hf]
  simp only
  rw [if_neg (by simp [fresolve]), if_neg (by simp [fresolve]), if_pos (by simp [fullC]; omega)]
theorem full_d {n : Nat} (hn : n = 1024) : doC (fullC n) (fprepare 5000) = (bad 4, fullC n) := by
  have e : doC (fullC n) (fprepare 5000) = prepareC (fullC n) (fprepare 5000) := by unfold doC; simp [fprepare]
  rw [e]
  unfold prepareC
  have hf : findD (fullC n).deeds (fprepare 5000).deed = none := findD_not (by simp only [fprepare]; omega)
  rw [hf]
  simp only
  rw [if_neg (by rintro (h | h | h); · simp [fprepare] at h
                 · exact h fw_batch
                 · exact h (by unfold tmR fprepare t0; decide)), if_pos (.inl (by simp [fullC]; omega))]
theorem full_e {n : Nat} (hn : n = 1024) : doC (fullC n) (fbegin ⟨#[65, 48]⟩) = (⟨0, 2, 1, t0⟩, fullC n) := by
  have e : doC (fullC n) (fbegin ⟨#[65, 48]⟩) = beginC (fullC n) (fbegin ⟨#[65, 48]⟩) := by unfold doC; simp [fbegin]
  rw [e]
  unfold beginC
  rw [if_neg (fun h => h ⟨two_token 65 48 (by decide) (by decide), fw_batch⟩)]
  have hb : (fullC n).book = fen 0 :: (List.range' 1 (n - 1)).map fen := by
    show (List.range n).map fen = _
    obtain ⟨m, rfl⟩ : ∃ m, n = m + 1 := ⟨n - 1, by omega⟩
    rw [List.range_eq_range', List.range'_succ]
    rfl
  have hf : (fullC n).book.find? (fun x => decide (x.token = (fbegin ⟨#[65, 48]⟩).token)) = some (fen 0) := by
    rw [hb, List.find?_cons]
    have : decide ((fen 0).token = (fbegin ⟨#[65, 48]⟩).token) = true := by rw [decide_eq_true_eq]; rfl
    rw [this]
  rw [hf]
  simp only
  rw [if_pos (show (fen 0).ws = (fbegin ⟨#[65, 48]⟩).ws from rfl)]
  rfl
end Go.Cx
