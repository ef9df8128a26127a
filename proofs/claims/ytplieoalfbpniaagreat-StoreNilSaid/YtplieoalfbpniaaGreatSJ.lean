/- The series and the times of a store in their order: the told list is their row. -/
import Derived.Test.YtplieoalfbpniaaGreatSG
namespace Go.Proofs.YtplieoalfbpniaaGreat
open Go.RowKit Go.Kt Go.Ix Go.Sx
set_option maxRecDepth 100000
variable {F F' : Nat → Prop} {w w' : World} {s om : Nat} {S : Sp} {L : List It} {N : Nat}

/-- the series' keys in the order of their sets -/
structure KeysOf (S : Sp) (ks : List Lit) : Prop where
  rise : ks.Pairwise (fun a b => ltS (S.d a) (S.d b))
  mem : ∀ k, k ∈ ks ↔ (S.f k).isSome = true
/-- a series' times in their order -/
structure TimesOf (S : Sp) (k : Lit) (ts : List Int) : Prop where
  rise : ts.Pairwise (fun a b => a < b)
  mem : ∀ z, z ∈ ts ↔ (S.g k (litT z)).isSome = true
theorem times_one {k : Lit} {A B : List Int} (hA : TimesOf S k A) (hB : TimesOf S k B) : A = B :=
  rise_ext (lt := fun a b : Int => a < b) (fun a => Int.lt_irrefl a) (fun h1 h2 => Int.lt_trans h1 h2) hA.rise hB.rise (fun x => by rw [hA.mem, hB.mem])
open Classical in
noncomputable def tsOf (S : Sp) (k : Lit) : List Int := if h : ∃ ts, TimesOf S k ts then h.choose else []
theorem tsOf_eq {k : Lit} {ts : List Int} (h : TimesOf S k ts) : tsOf S k = ts := by
  unfold tsOf
  rw [dif_pos ⟨ts, h⟩]
  exact times_one (Exists.choose_spec (⟨ts, h⟩ : ∃ ts, TimesOf S k ts)) h
def itemOf (S : Sp) (k : Lit) (z : Int) : It := ⟨S.d k, z, S.l k (litT z)⟩
noncomputable def rowOf (S : Sp) (ks : List Lit) : List It := ks.flatMap fun k => (tsOf S k).map (itemOf S k)
theorem told_row (h : StAt F w s om S L N) {ks : List Lit} (hk : KeysOf S ks) (ht : ∀ k ∈ ks, TimesOf S k (tsOf S k)) : L = rowOf S ks := by
  refine rise_store line_sets h.ok.rise ?_ (fun it => ?_)
  · unfold rowOf Rise
    rw [List.pairwise_flatMap]
    refine ⟨fun k hk' => ?_, ?_⟩
    · rw [List.pairwise_map]
      refine List.Pairwise.imp ?_ (ht k hk').rise
      intro a b hab
      exact .inr ⟨rfl, hab⟩
    · refine List.Pairwise.imp ?_ hk.rise
      intro a b hab x hx y hy
      obtain ⟨z, _, rfl⟩ := List.mem_map.1 hx
      obtain ⟨z', _, rfl⟩ := List.mem_map.1 hy
      exact .inl hab
  · rw [h.told]
    unfold rowOf
    rw [List.mem_flatMap]
    constructor
    · rintro ⟨k, u, z, v, hu, hv, rfl⟩
      have hm : k ∈ ks := (hk.mem k).2 (by rw [hu]; rfl)
      exact ⟨k, hm, List.mem_map.2 ⟨z, ((ht k hm).mem z).2 (by rw [hv]; rfl), rfl⟩⟩
    · rintro ⟨k, hm, hx⟩
      obtain ⟨z, hz, rfl⟩ := List.mem_map.1 hx
      obtain ⟨u, hu⟩ := Option.isSome_iff_exists.1 ((hk.mem k).1 hm)
      obtain ⟨v, hv⟩ := Option.isSome_iff_exists.1 (((ht k hm).mem z).1 hz)
      exact ⟨k, u, z, v, hu, hv, rfl⟩
theorem rowOf_take (S : Sp) (ks : List Lit) (i : Nat) (hi : i < ks.length) : rowOf S (ks.take (i + 1)) = rowOf S (ks.take i) ++ (tsOf S ks[i]).map (itemOf S ks[i]) := by
  unfold rowOf
  rw [List.take_succ_eq_append_getElem hi, List.flatMap_append]
  simp
/-- what stands ahead of a place of the row is no more than the row -/
theorem scanL_append (A B : List It) (p : List Pr → Bool) (a b : Int) (t : Tm) : scanL (A ++ B) p a b t = scanL A p a b t ++ scanL B p a b t := by
  unfold scanL
  rw [List.filterMap_append]
theorem keptL_append (A B : List It) : keptL (A ++ B) = keptL A ++ keptL B := by
  unfold keptL
  rw [List.flatMap_append]
theorem scanL_len (L : List It) (hL : ∀ x ∈ L, x.l ≠ []) (p : List Pr → Bool) (a b : Int) (t : Tm) : (scanL L p a b t).length ≤ lenL L := by
  induction L with
  | nil => exact Nat.zero_le _
  | cons x L ih =>
    have h1 := ih (fun y hy => hL y (by simp [hy]))
    have h2 : 1 ≤ x.l.length := by
      have := hL x (by simp)
      cases hx : x.l with
      | nil => exact absurd hx this
      | cons a l => simp
    rw [lenL_cons]
    unfold scanL at h1 ⊢
    rw [List.filterMap_cons]
    split
    · omega
    · rw [List.length_cons]; omega
theorem lenL_sub {A B : List It} (h : A.Sublist B) : lenL A ≤ lenL B := by
  induction h with
  | slnil => exact Nat.le_refl _
  | cons a _ ih => rw [lenL_cons]; omega
  | cons_cons a _ ih => rw [lenL_cons, lenL_cons]; omega
end Go.Proofs.YtplieoalfbpniaaGreat
