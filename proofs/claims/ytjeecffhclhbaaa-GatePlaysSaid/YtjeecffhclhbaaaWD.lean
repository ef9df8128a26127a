/- Gates: the document's gate: Fits (11), Right (14), Find (18), Has (15). -/
import Derived.Test.YtjeecffhclhbaaaWC
namespace Go.Proofs.Ytjeecffhclhbaaa
open Go.RowKit Go.Kt

/-- a client of the document's: name, left, tick -/
structure Cl where
  name : ByteArray
  left : Int
  tick : Int
theorem ok40 : ElemOk Try.prog 40 58 (.agg #[.string ⟨#[]⟩, .int .i64 0, .int .i64 0]) 3 32 := ⟨Try.underlying40, info_parts (by kernel_rfl), rfl, by decide⟩
def flatC : List Cl → List Value
  | [] => []
  | x :: l => .string x.name :: .int .i64 x.left :: .int .i64 x.tick :: flatC l
theorem flatC_len (T : List Cl) : (flatC T).length = T.length * 3 := by
  induction T with
  | nil => rfl
  | cons x t ih => simp only [flatC, List.length_cons, ih]; omega
theorem flatC_append (T S : List Cl) : flatC (T ++ S) = flatC T ++ flatC S := by
  induction T with
  | nil => rfl
  | cons x t ih => simp only [List.cons_append, flatC, ih]
theorem flatC_get (T : List Cl) : ∀ (i : Nat) (x : Cl), T[i]? = some x → (flatC T)[i * 3]? = some (.string x.name) ∧ (flatC T)[i * 3 + 1]? = some (.int .i64 x.left) ∧ (flatC T)[i * 3 + 2]? = some (.int .i64 x.tick) := by
  induction T with
  | nil => intro i x h; simp at h
  | cons y t ih =>
    intro i x h
    match i with
    | 0 => simp at h; subst h; exact ⟨rfl, rfl, rfl⟩
    | i + 1 =>
      simp only [List.getElem?_cons_succ] at h
      have := ih i x h
      rw [show (i + 1) * 3 = i * 3 + 1 + 1 + 1 by omega]
      exact this
theorem flatC_one (T : List Cl) : ∀ u ∈ flatC T, u.oneCell' = true := by
  induction T with
  | nil => intro u hu; simp [flatC] at hu
  | cons y t ih =>
    intro u hu
    simp only [flatC, List.mem_cons] at hu
    rcases hu with rfl | rfl | rfl | hu
    · rfl
    · rfl
    · rfl
    · exact ih u hu
def RdCl (w : World) (v : Value) (l : List Cl) : Prop := RdRow 3 w v l.length (flatC l)
theorem RdCl.below {w w' : World} {v : Value} {l : List Cl} (h : RdCl w v l) (hb : Below w.heap.size w w') : RdCl w' v l := RdRow.below h hb
theorem RdCl.open {w : World} {v : Value} {l : List Cl} (h : RdCl w v l) : ∃ a cap, v = .slice a l.length cap ∧ l.length ≤ cap ∧ cap ≤ 9223372036854775807 ∧
    ∀ (i : Nat) (x : Cl), l[i]? = some x → ∃ b o, a = some ⟨b, o, none⟩ ∧ w.cell? ⟨b, o + i * 3, none⟩ = some (.string x.name) ∧ w.cell? ⟨b, o + i * 3 + 1, none⟩ = some (.int .i64 x.left) ∧ w.cell? ⟨b, o + i * 3 + 2, none⟩ = some (.int .i64 x.tick) := by
  obtain ⟨_, a, cap, rfl, h1, h2, _, h5⟩ := h
  refine ⟨a, cap, rfl, h1, h2, fun i x hi => ?_⟩
  obtain ⟨c1, c2, c3⟩ := flatC_get l i x hi
  obtain ⟨b, o, rfl, hc⟩ := h5 _ _ c1
  obtain ⟨b', o', e, hc'⟩ := h5 _ _ c2
  cases e
  obtain ⟨b', o', e, hc''⟩ := h5 _ _ c3
  cases e
  exact ⟨b, o, rfl, hc, by rw [Nat.add_assoc]; exact hc', by rw [Nat.add_assoc]; exact hc''⟩
theorem cell_no_map {w : World} {m c : Nat} {P : Program} {k : TypeId} {F : Lit → Option Value} (hm : MapIs P k w m F c) (o : Nat) : w.cell? ⟨m, o, none⟩ = none := by
  obtain ⟨D, ⟨es, clock, hb, _⟩, _⟩ := hm
  simp [World.cell?, hb]
/-- a row that is read, behind a step that turned a map alone -/
theorem rdRow_grown {size : Nat} {w w' : World} {v : Value} {n m c : Nat} {xs : List Value} {P : Program} {k : TypeId} {F : Lit → Option Value} (h : RdRow size w v n xs) (hm : MapIs P k w m F c) (hg : w.grownBy w' (some m)) : RdRow size w' v n xs := by
  obtain ⟨hl, a, cap, rfl, h1, h2, h3, h5⟩ := h
  refine ⟨hl, a, cap, rfl, h1, h2, h3, fun j u hj => ?_⟩
  obtain ⟨b, o, ha, hc⟩ := h5 j u hj
  refine ⟨b, o, ha, ?_⟩
  have hne : b ≠ m := by
    rintro rfl
    rw [cell_no_map hm] at hc
    cases hc
  rw [← hc]
  exact World.cell?_of_block (hg.block b (World.block_lt_of_cell? w _ hc) (fun e => hne (by injection e)))

set_option maxHeartbeats 400000 in
theorem fits_any (b e r : Int) (w : World) : Calls Try.prog 11 #[.int .i64 b, .int .i64 e, .int .i64 r] w fun en w' => en = .returned (.bool (fitsB b e r)) ∧ w = w' := by
  generalize hp : fitsB b e r = p
  have Hp := Lib.hid hp
  clear hp
  by_cases h1 : 1 ≤ b
  case neg =>
    have HH : Hid (p = false) := Lib.hid (by rw [← Hp.out]; simp [fitsB, h1])
    have d : decide (1 ≤ b) = false := by simpa using h1
    go_enter Try.func11, Try.ntmps11; go_wp2_with fail; go_ret; exact ⟨by rw [HH.out]; rfl, rfl⟩
  by_cases h2 : b ≤ 1099511627776
  case neg =>
    have HH : Hid (p = false) := Lib.hid (by rw [← Hp.out]; simp [fitsB, h2])
    have d : decide (b ≤ 1099511627776) = false := by simpa using h2
    go_enter Try.func11, Try.ntmps11; go_wp2_with fail; go_ret; exact ⟨by rw [HH.out]; rfl, rfl⟩
  by_cases h3 : 0 ≤ e
  case neg =>
    have HH : Hid (p = false) := Lib.hid (by rw [← Hp.out]; simp [fitsB, h3])
    have d : decide (0 ≤ e) = false := by simpa using h3
    go_enter Try.func11, Try.ntmps11; go_wp2_with fail; go_ret; exact ⟨by rw [HH.out]; rfl, rfl⟩
  by_cases h4 : e ≤ 1099511627776
  case neg =>
    have HH : Hid (p = false) := Lib.hid (by rw [← Hp.out]; simp [fitsB, h4])
    have d : decide (e ≤ 1099511627776) = false := by simpa using h4
    go_enter Try.func11, Try.ntmps11; go_wp2_with fail; go_ret; exact ⟨by rw [HH.out]; rfl, rfl⟩
  by_cases h5 : 1 ≤ r
  case neg =>
    have HH : Hid (p = false) := Lib.hid (by rw [← Hp.out]; simp [fitsB, h5])
    have d : decide (1 ≤ r) = false := by simpa using h5
    go_enter Try.func11, Try.ntmps11; go_wp2_with fail; go_ret; exact ⟨by rw [HH.out]; rfl, rfl⟩
  have HH : Hid (p = decide (r ≤ 65536)) := Lib.hid (by rw [← Hp.out]; simp [fitsB, h1, h2, h3, h4, h5])
  go_enter Try.func11, Try.ntmps11
  go_wp2_with fail
  go_ret
  exact ⟨by rw [HH.out]; rfl, rfl⟩
theorem size_toList (s : ByteArray) : s.toList = [] ↔ s.size = 0 := by
  rw [ByteArray.toList_eq]
  rcases s with ⟨⟨s⟩⟩
  simp [ByteArray.size]
set_option maxHeartbeats 400000 in
theorem refright_any (s : ByteArray) (t : Int) (w : World) (hs : s.size ≤ 9223372036854775807) : Calls Try.prog 14 #[.string s, .int .i64 t] w fun e w' => e = .returned (.bool (rightB s t)) ∧ w = w' := by
  generalize hp : rightB s t = p
  have Hp := Lib.hid hp
  clear hp
  by_cases h1 : (1 : Int) ≤ s.size
  case neg =>
    have HH : Hid (p = false) := Lib.hid (by rw [← Hp.out]; simp [rightB, (size_toList s).2 (by omega)])
    have d : decide ((1 : Int) ≤ s.size) = false := by simpa using h1
    go_enter Try.func14, Try.ntmps14; go_wp2_with fail; go_ret; exact ⟨by rw [HH.out]; rfl, rfl⟩
  have hne : ¬ s.toList = [] := fun h => by have := (size_toList s).1 h; omega
  by_cases h2 : (s.size : Int) ≤ 32
  case neg =>
    have HH : Hid (p = false) := Lib.hid (by rw [← Hp.out]; simp [rightB, h2])
    have d : decide ((s.size : Int) ≤ 32) = false := by simpa using h2
    clear hne
    go_enter Try.func14, Try.ntmps14; go_wp2_with fail; go_ret; exact ⟨by rw [HH.out]; rfl, rfl⟩
  by_cases h3 : 0 ≤ t
  case neg =>
    have HH : Hid (p = false) := Lib.hid (by rw [← Hp.out]; simp [rightB, h3])
    have d : decide (0 ≤ t) = false := by simpa using h3
    clear hne
    go_enter Try.func14, Try.ntmps14; go_wp2_with fail; go_ret; exact ⟨by rw [HH.out]; rfl, rfl⟩
  have HH : Hid (p = decide (t ≤ 4611686018427387904)) := Lib.hid (by rw [← Hp.out]; simp [rightB, hne, h2, h3])
  clear hne
  go_enter Try.func14, Try.ntmps14
  go_wp2_with fail
  go_ret
  exact ⟨by rw [HH.out]; rfl, rfl⟩
end Go.Proofs.Ytjeecffhclhbaaa
