/- Gates: the record of what was let in, in memory. -/
import Derived.Test.YtjeecffhclhbaaaWA
namespace Go.Proofs.Ytjeecffhclhbaaa
open Go.RowKit Go.Kt

theorem ok33 : ElemOk Try.prog 33 35 (.agg #[.int .i64 0, .int .i64 0]) 2 16 := ⟨Try.underlying33, info_parts (by kernel_rfl), rfl, by decide⟩
theorem zero33 (w : World) : (zeroValue 33).run Try.prog w = .ok (.slice none 0 0) w := by kernel_rfl
def flat2 : List (Int × Int) → List Value
  | [] => []
  | x :: l => .int .i64 x.1 :: .int .i64 x.2 :: flat2 l
theorem flat2_len (T : List (Int × Int)) : (flat2 T).length = T.length * 2 := by
  induction T with
  | nil => rfl
  | cons x t ih => simp only [flat2, List.length_cons, ih]; omega
theorem flat2_append (T S : List (Int × Int)) : flat2 (T ++ S) = flat2 T ++ flat2 S := by
  induction T with
  | nil => rfl
  | cons x t ih => simp only [List.cons_append, flat2, ih]
theorem flat2_get (T : List (Int × Int)) : ∀ (i : Nat) (x : Int × Int), T[i]? = some x → (flat2 T)[i * 2]? = some (.int .i64 x.1) ∧ (flat2 T)[i * 2 + 1]? = some (.int .i64 x.2) := by
  induction T with
  | nil => intro i x h; simp at h
  | cons y t ih =>
    intro i x h
    match i with
    | 0 => simp at h; subst h; exact ⟨rfl, rfl⟩
    | i + 1 =>
      simp only [List.getElem?_cons_succ] at h
      have := ih i x h
      rw [show (i + 1) * 2 = i * 2 + 1 + 1 by omega]
      exact this
theorem flat2_one (T : List (Int × Int)) : ∀ u ∈ flat2 T, u.oneCell' = true := by
  induction T with
  | nil => intro u hu; simp [flat2] at hu
  | cons y t ih =>
    intro u hu
    simp only [flat2, List.mem_cons] at hu
    rcases hu with rfl | rfl | hu
    · rfl
    · rfl
    · exact ih u hu

/-- the map of what was let in: of each client a row of its own -/
structure Book (w0 w : World) (am : Nat) (F : Lit → Option Value) (L : Lit → List (Int × Int)) (n : Nat) : Prop where
  map : MapIs Try.prog 9 w am F n
  ge : w0.heap.size ≤ am
  none_ : ∀ k, F k = none → L k = []
  row : ∀ k v, F k = some v → Own 35 2 w v (L k).length (flat2 (L k)) ∧ (∀ b, v.ownBlock = some b → w0.heap.size ≤ b)
  apart : ∀ k v k' v', F k = some v → F k' = some v' → k ≠ k' → ∀ b, v.ownBlock = some b → v'.ownBlock ≠ some b
theorem Book.new (w0 w : World) (h : w0.heap.size ≤ w.heap.size) : Book w0 (w.alloc (.map #[] 0)) w.heap.size (fun _ => none) (fun _ => []) 0 :=
  ⟨MapIs.made w Try.prog 9, h, fun _ _ => rfl, fun _ _ h => (by cases h), fun _ _ _ _ h => (by cases h)⟩
theorem own_no_map {w : World} {e : TypeId} {size n m : Nat} {v : Value} {xs : List Value} {P : Program} {k : TypeId} {F : Lit → Option Value} {c : Nat} (h : Own e size w v n xs) (hm : MapIs P k w m F c) : v.ownBlock ≠ some m := by
  intro hb
  rcases h.2 with ⟨rfl, _⟩ | ⟨g, cap, cur, rfl, _, hg, _⟩
  · cases hb
  · have : g = m := by simpa [Value.ownBlock] using hb
    subst this
    obtain ⟨D, ⟨es, clock, hb', _⟩, _⟩ := hm
    rw [hg] at hb'
    cases hb'
theorem own_no_gate {w : World} {n : Nat} {v : Value} {xs : List Value} {g m : Nat} {G : Gt} (h : Own 35 2 w v n xs) (hm : GateAt w g m G) : v.ownBlock ≠ some g := by
  intro hb
  rcases h.2 with ⟨rfl, _⟩ | ⟨g', cap, cur, rfl, _, hg, _⟩
  · cases hb
  · have : g' = g := by simpa [Value.ownBlock] using hb
    subst this
    rw [hm.1] at hg
    injection hg with hg
    injection hg with _ hg
    cases hg
/-- behind a step that turned one block alone, and that is neither the map's nor a row's -/
theorem Book.grown {w0 w w' : World} {am : Nat} {F : Lit → Option Value} {L : Lit → List (Int × Int)} {n m : Nat} (h : Book w0 w am F L n) (hg : w.grownBy w' (some m)) (h1 : am ≠ m) (h2 : ∀ k v, F k = some v → v.ownBlock ≠ some m) : Book w0 w' am F L n :=
  ⟨h.map.grown hg (fun e => h1 (by injection e)), h.ge, h.none_, fun k v hv => ⟨(h.row k v hv).1.grown hg (fun b hb e => h2 k v hv (by rw [hb]; exact e.symm)), (h.row k v hv).2⟩, h.apart⟩
theorem Book.below {w0 w w' : World} {am : Nat} {F : Lit → Option Value} {L : Lit → List (Int × Int)} {n : Nat} (h : Book w0 w am F L n) (hb : Below w.heap.size w w') : Book w0 w' am F L n :=
  ⟨h.map.below hb, h.ge, h.none_, fun k v hv => ⟨(h.row k v hv).1.below' hb, (h.row k v hv).2⟩, h.apart⟩
/-- what is read at a client -/
theorem Book.look {w0 w : World} {am : Nat} {F : Lit → Option Value} {L : Lit → List (Int × Int)} {n : Nat} (h : Book w0 w am F L n) (k : Lit) :
    Own 35 2 w ((F k).getD (.slice none 0 0)) (L k).length (flat2 (L k)) ∧ ∀ b, ((F k).getD (.slice none 0 0)).ownBlock = some b → w0.heap.size ≤ b := by
  cases hf : F k with
  | none =>
    rw [h.none_ k hf]
    exact ⟨own_nil w 35 2, fun b hb => (by cases hb)⟩
  | some v => exact h.row k v hf
open Classical in
/-- one client's list made longer -/
noncomputable def setL (L : Lit → List (Int × Int)) (k : Lit) (l : List (Int × Int)) : Lit → List (Int × Int) := fun x => if x = k then l else L x
/-- behind the append, and behind the store into the map -/
theorem Book.push {w0 w w1 w2 : World} {am : Nat} {F : Lit → Option Value} {L : Lit → List (Int × Int)} {n n' : Nat} (h : Book w0 w am F L n) (k : Lit) {v' : Value} {l : List (Int × Int)}
    (ho : Own 35 2 w1 v' l.length (flat2 l)) (hg : w.grownBy w1 ((F k).getD (.slice none 0 0)).ownBlock) (hn : ∀ b, v'.ownBlock = some b → ((F k).getD (.slice none 0 0)).ownBlock = some b ∨ w.heap.size ≤ b) (hz : w0.heap.size ≤ w.heap.size)
    (hm : MapIs Try.prog 9 w2 am (upd F k v') n') (hg2 : w1.grownBy w2 (some am)) (hm1 : MapIs Try.prog 9 w1 am F n) : Book w0 w2 am (upd F k v') (setL L k l) n' := by
  have hne : ∀ k' v'', F k' = some v'' → k' ≠ k → ∀ b, v''.ownBlock = some b → v'.ownBlock ≠ some b ∧ ((F k).getD (.slice none 0 0)).ownBlock ≠ some b := by
    intro k' v'' hf hk b hb
    have h1 : ((F k).getD (.slice none 0 0)).ownBlock ≠ some b := by
      cases hfk : F k with
      | none => intro e; cases e
      | some v => exact h.apart k' v'' k v hf hfk hk b hb
    refine ⟨fun e => ?_, h1⟩
    rcases hn b e with h2 | h2
    · exact h1 h2
    · have := (h.row k' v'' hf).1.lt b hb
      omega
  refine ⟨hm, h.ge, fun x hx => ?_, fun x v hx => ?_, fun x v x' v'' hx hx' hxx b hb => ?_⟩
  · unfold upd at hx
    by_cases e : x = k
    · rw [if_pos e] at hx; cases hx
    · rw [if_neg e] at hx
      unfold setL
      rw [if_neg e]
      exact h.none_ x hx
  · unfold upd at hx
    unfold setL
    by_cases e : x = k
    · rw [if_pos e] at hx ⊢
      cases hx
      refine ⟨ho.grown hg2 (fun b hb e' => own_no_map ho hm1 (by rw [hb]; exact e'.symm)), fun b hb => ?_⟩
      rcases hn b hb with h2 | h2
      · exact (h.look k).2 b h2
      · omega
    · rw [if_neg e] at hx ⊢
      obtain ⟨r1, r2⟩ := h.row x v hx
      have r3 := r1.grown hg (fun b hb e' => (hne x v hx e b hb).2 e')
      exact ⟨r3.grown hg2 (fun b hb e' => own_no_map r3 hm1 (by rw [hb]; exact e'.symm)), r2⟩
  · unfold upd at hx hx'
    by_cases e : x = k
    · rw [if_pos e] at hx
      cases hx
      have e' : ¬ x' = k := fun h' => hxx (by rw [e, h'])
      rw [if_neg e'] at hx'
      exact fun hb' => (hne x' v'' hx' e' b hb').1 hb
    · rw [if_neg e] at hx
      by_cases e' : x' = k
      · rw [if_pos e'] at hx'
        cases hx'
        exact (hne x v hx e b hb).1
      · rw [if_neg e'] at hx'
        exact h.apart x v x' v'' hx hx' hxx b hb
end Go.Proofs.Ytjeecffhclhbaaa
