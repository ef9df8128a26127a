/- Gates: GateApart (4). -/
import Derived.Test.YtjeecffhclhbaaaW6
import Derived.Test.YtjeecffhclhbaaaW7
namespace Go.Proofs.Ytjeecffhclhbaaa
open Go.RowKit Go.Kt

theorem kl_inj {a b : ByteArray} (h : kl a = kl b) : a = b := by
  unfold kl at h
  injection h with h
  rcases a with ⟨⟨a⟩⟩
  rcases b with ⟨⟨b⟩⟩
  simp only at h
  rw [h]
theorem setF_other (f : Lit → Option (Int × Int)) {k k' : Lit} (b : Int × Int) (h : k' ≠ k) : setF f k b k' = f k' := by unfold setF; rw [if_neg h]

/-- two gates that know one client alike -/
structure Alike (G H : Gt) (c : ByteArray) (n : Nat) : Prop where
  b : G.burst = H.burst
  e : G.each = H.each
  r : G.room = 100
  r' : H.room = 100
  f : G.f (kl c) = H.f (kl c)
  k1 : G.n ≤ n
  k2 : H.n ≤ n
theorem Alike.find {G H : Gt} {c : ByteArray} {n : Nat} (h : Alike G H c n) (t : Int) : findF G c t = findF H c t := by
  unfold findF
  rw [h.f]
  cases H.f (kl c) with
  | none => simp only [h.b]
  | some b => unfold fillF; simp only [h.b, h.e]
theorem Alike.left {G H : Gt} {c : ByteArray} {n : Nat} (h : Alike G H c n) (t : Int) : leftF G c t = leftF H c t := by
  unfold leftF; rw [h.find]
theorem asked_n (G : Gt) (s : ByteArray) (cost t : Int) : (asked G s cost t).n ≤ G.n + 1 := by
  show (if (G.f (kl s)).isSome then G.n else G.n + 1) ≤ _
  split <;> omega
theorem askF_two (G : Gt) (s : ByteArray) (cost t : Int) : ((askF G s cost t).2 = G ∧ (askF G s cost t).1 ≠ 0) ∨ askF G s cost t = (0, asked G s cost t) := by
  unfold askF
  split
  · exact .inl ⟨rfl, by simp⟩
  · split
    · exact .inl ⟨rfl, by simp⟩
    · split
      · exact .inl ⟨rfl, by simp⟩
      · split
        · exact .inl ⟨rfl, by simp⟩
        · exact .inr rfl
/-- what another client asks -/
theorem Alike.other {G H : Gt} {c s : ByteArray} {n : Nat} (h : Alike G H c n) (hs : s ≠ c) (cost t : Int) : Alike (askF G s cost t).2 H c (n + 1) ∧ ∀ u, leftF (askF G s cost t).2 c u = leftF G c u := by
  rcases askF_two G s cost t with ⟨h1, _⟩ | h1
  · rw [h1]
    exact ⟨⟨h.b, h.e, h.r, h.r', h.f, by have := h.k1; omega, by have := h.k2; omega⟩, fun _ => rfl⟩
  · rw [h1]
    have hf : (asked G s cost t).f (kl c) = G.f (kl c) := setF_other _ _ (fun h => hs (kl_inj h).symm)
    refine ⟨⟨h.b, h.e, h.r, h.r', hf.trans h.f, by have := asked_n G s cost t; have := h.k1; simp only; omega, by have := h.k2; omega⟩, fun u => ?_⟩
    unfold leftF findF
    simp only
    rw [hf]
    rfl
theorem askF_no {G : Gt} {s : ByteArray} {cost t : Int} (h : (askF G s cost t).1 ≠ 0) : (askF G s cost t).2 = G := by
  rcases askF_two G s cost t with ⟨h1, _⟩ | h1
  · exact h1
  · rw [h1] at h; exact (h rfl).elim
theorem Alike.same {G H : Gt} {c : ByteArray} {n : Nat} (h : Alike G H c n) (hn : n < 100) (cost t : Int) : (askF G c cost t).1 = (askF H c cost t).1 ∧ Alike (askF G c cost t).2 (askF H c cost t).2 c (n + 1) := by
  have hfi := h.find t
  have hh : Alike G H c (n + 1) := ⟨h.b, h.e, h.r, h.r', h.f, by have := h.k1; omega, by have := h.k2; omega⟩
  have r1 : ¬ (G.room ≤ (G.n : Int)) := by rw [h.r]; have := h.k1; omega
  have r2 : ¬ (H.room ≤ (H.n : Int)) := by rw [h.r']; have := h.k2; omega
  unfold askF
  rw [hfi, h.b]
  by_cases h1 : rightB c t = false ∨ cost < 1
  · rw [if_pos h1, if_pos h1]; exact ⟨rfl, hh⟩
  rw [if_neg h1, if_neg h1]
  by_cases h2 : H.burst < cost
  · rw [if_pos h2, if_pos h2]; exact ⟨rfl, hh⟩
  rw [if_neg h2, if_neg h2, if_neg (c := (G.f (kl c)).isSome = false ∧ G.room ≤ (G.n : Int)) (fun h => r1 h.2), if_neg (c := (H.f (kl c)).isSome = false ∧ H.room ≤ (H.n : Int)) (fun h => r2 h.2)]
  by_cases h4 : (findF H c t).1 < cost
  · rw [if_pos h4, if_pos h4]; exact ⟨rfl, hh⟩
  rw [if_neg h4, if_neg h4]
  refine ⟨rfl, h.b, h.e, h.r, h.r', ?_, ?_, ?_⟩
  · show setF G.f (kl c) _ (kl c) = setF H.f (kl c) _ (kl c)
    rw [setF_same, setF_same, hfi]
  · have := asked_n G c cost t; have := h.k1; simp only; omega
  · have := asked_n H c cost t; have := h.k2; simp only; omega
theorem u64_mod (x d : Int) (h0 : 0 < d) (h1 : d ≤ 1000000) : ∃ y : Int, 0 ≤ y ∧ y < d ∧ wrap64 ((IntKind.u64.wrap x).tmod d) = y := by
  have h0' := wrap_u64_nonneg x
  have h2 := Int.emod_nonneg (IntKind.u64.wrap x) (b := d) (by omega)
  have h3 := Int.emod_lt_of_pos (IntKind.u64.wrap x) (b := d) (by omega)
  refine ⟨(IntKind.u64.wrap x) % d, h2, h3, ?_⟩
  rw [Int.tmod_eq_emod_of_nonneg h0', IntWalk.wrap64_in _ ⟨by omega, by omega⟩]
end Go.Proofs.Ytjeecffhclhbaaa
