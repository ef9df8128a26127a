/- The times of a series in their order: maps.Keys (36), slices.Sorted (35). -/
import Derived.Test.YtplieoalfbpniaaGreatSK
namespace Go.Proofs.YtplieoalfbpniaaGreat
open Go.RowKit Go.Maps Go.Sort Go.Shelf Go.Proofs Go.Kt
set_option maxRecDepth 100000

theorem sortsA (m : Nat) : AnyZI.SortsIn Tryz.prog sortedA_ren Fence.wide m :=
  ⟨fun blk off cap ss W hH hblk hsz => callsIn_wide.2 (AnyM.slices_Sort_int sortA blk off cap ss W hH hblk hsz),
   fun p cap W => callsIn_wide.2 (AnyM.slices_Sort_int_none sortA p cap W)⟩

theorem tkeys_any (mb : Option Nat) (W : World) : Calls Tryz.prog 36 #[.map mb] W fun e w' => e = .returned (.func (.func 64) #[] #[.pointer (some ⟨W.heap.size, 0, none⟩)]) ∧ w' = W.alloc (.cells #[.map mb] 88) := by
  refine (callsIn_wide (n := 5)).1 ?_
  have := AnyZI.keys_in keysA Fence.wide 5 trivial rfl mb W
  exact this

/-- slices.Sorted of the iterator that maps.Keys has handed back for the map b: a new row of the map's keys, sorted. -/
theorem tsorted_any {H : Type} (b nn : Nat) (D0 : DataW H) (R : Value → Option (DataW H × List MemPlace)) (w : World) (hown : w.ownsMap Tryz.prog 2 R b nn D0) (hmax : Maps.size D0 ≤ maxLen) (hbytes : Maps.size D0 * 8 ≤ 140737488355328) :
    Calls Tryz.prog 35 #[.func (.func 64) #[] #[.pointer (some ⟨w.heap.size, 0, none⟩)]] (w.alloc (.cells #[.map (some b)] 88)) fun e w' => ∃ (v : Value) (ss : List Int), e = .returned v ∧ ss.Perm (intKeys D0) ∧
      w'.ownsRow (w.heap.size + 1) 2 1 v ss.length ((ss.mergeSort (fun x y => decide (x ≤ y))).map encZ) ∧ (v = .slice none 0 0 ↔ ss = []) ∧ Below (w.heap.size + 1) (w.alloc (.cells #[.map (some b)] 88)) w' := by
  refine (callsIn_wide (n := 5)).1 ?_
  have hbl := hown.lt
  have hseq : SeqGives Fence.wide 2 Tryz.prog 64 #[.pointer (some ⟨w.heap.size, 0, none⟩)] encZ (fun ss => ss.Perm (intKeys D0)) (Maps.size D0) (w.alloc (.cells #[.map (some b)] 88)) :=
    AnyZI.keys_gives (ρ := keysA_ren) { keysA with } Fence.wide _ trivial rfl (by omega) w.heap.size b nn D0 _ (by simp) (by simp) (by
      obtain ⟨es, clock, hb, Ft, hs, hD⟩ := hown
      exact ⟨es, clock, (Below.heap_alloc _ _ b hbl).trans hb, Ft, hs, hD⟩)
  have cS := AnyZI.sorted_in sortedA Fence.wide 5 trivial trivial trivial trivial rfl (by omega) (sortsA _) (enters_of Tryz.func63 (by kernel_rfl) rfl) 64 #[.pointer (some ⟨w.heap.size, 0, none⟩)] trivial (enters_of Tryz.func64 (by kernel_rfl) rfl) _ _ hmax hbytes _ hseq
  change CallsIn _ _ Tryz.prog 35 _ _ _ at cS
  refine cS.mono ?_
  rintro e w' ⟨v, ss, rfl, hS, hrow, hnil, hb⟩
  refine ⟨v, ss, rfl, hS, ?_, hnil, ?_⟩
  · have h26 : sortedA_ren.t 26 = 2 := rfl
    rw [h26] at hrow
    simpa using hrow
  · simpa using hb

theorem intKeys_mem {H : Type} {R : Value → Option (DataW H × List MemPlace)} {w : World} {b n : Nat} {D0 : DataW H} (hown : w.ownsMap Tryz.prog 2 R b n D0) : (intKeys D0).Nodup ∧ ∀ x, x ∈ intKeys D0 ↔ Maps.has D0 (.int .i64 x) = true := by
  obtain ⟨es, hD, hpw, _⟩ := hown.entries key2
  obtain ⟨es', hD', hko⟩ := hown.keysOf
  obtain rfl : es = es' := by rw [hD] at hD'; simpa using hD'
  subst hD
  have hk : ∀ p ∈ es, ∃ x, p.1 = .int .i64 x := fun p hp => by obtain ⟨v, hv⟩ := hko p hp; obtain ⟨x, _, hx, _⟩ := Maps.keyOf_i64 Tryz.underlying2 hv; exact ⟨x, hx⟩
  constructor
  · show (es.map fun p => Go.intOf p.1).Nodup
    refine List.pairwise_map.2 (hpw.imp_of_mem fun {p q} hp' hq' hne e => hne ?_)
    obtain ⟨a, ha⟩ := hk p hp'
    obtain ⟨b, hb⟩ := hk q hq'
    rw [ha, hb] at e ⊢
    exact congrArg _ e
  · intro x
    rw [has_eq, List.any_eq_true]
    show x ∈ es.map (fun p => Go.intOf p.1) ↔ _
    rw [List.mem_map]
    constructor
    · rintro ⟨p, hp', rfl⟩
      obtain ⟨a, ha⟩ := hk p hp'
      exact ⟨p, hp', by rw [ha]; simp [Lit.sameKey, Go.intOf]⟩
    · rintro ⟨p, hp', hs⟩
      obtain ⟨a, ha⟩ := hk p hp'
      rw [ha] at hs
      exact ⟨p, hp', by rw [ha]; simpa [Lit.sameKey, Go.intOf] using hs⟩
variable {F F' : Nat → Prop} {w w' : World} {s om : Nat} {S : Sp} {L : List It} {N : Nat}
/-- the times of a series, in a row of the call's own -/
theorem times_any (w : World) {k : Lit} {u : Value} (h : SerAt F w om k u S) (hN : S.c k ≤ 1000000) :
    Calls Tryz.prog 35 #[.func (.func 64) #[] #[.pointer (some ⟨w.heap.size, 0, none⟩)]] (w.alloc (.cells #[.map (some (S.b k))] 88)) fun e w' => ∃ v, e = .returned v ∧ TimesOf S k (tsOf S k) ∧ Mine 2 1 w w' v (tsOf S k).length ((tsOf S k).map encZ) := by
  obtain ⟨D, ho, hsz, hcf⟩ := h.map
  have hkm := intKeys_mem ho
  have hts : TimesOf S k ((intKeys D).mergeSort (fun x y => decide (x ≤ y))) := by
    have hp := List.mergeSort_perm (intKeys D) (fun x y => decide (x ≤ y))
    have hnd := hp.nodup_iff.2 hkm.1
    refine ⟨?_, fun z => ?_⟩
    · have h1 : ((intKeys D).mergeSort leI).Pairwise (fun a b => leI a b = true) := List.pairwise_mergeSort (fun a b c h1 h2 => by simp only [leI, decide_eq_true_eq] at *; exact Int.le_trans h1 h2) (fun a b => by simp only [leI, Bool.or_eq_true, decide_eq_true_eq]; exact Int.le_total a b) _
      refine List.Pairwise.imp ?_ (List.Pairwise.and h1 (List.nodup_iff_pairwise_ne.1 hnd))
      rintro a b ⟨h1, h2⟩
      simp only [leI, decide_eq_true_eq] at h1
      omega
    · rw [hp.mem_iff, hkm.2]
      constructor
      · intro hh
        cases hg : S.g k (litT z) with
        | none => rw [show (Lit.int .i64 z) = litT z from rfl, (hcf _).1 hg] at hh; cases hh
        | some v => rfl
      · intro hh
        obtain ⟨v, hv⟩ := Option.isSome_iff_exists.1 hh
        exact ((hcf _).2 v hv).1
  rw [tsOf_eq hts]
  refine (tsorted_any (S.b k) (S.c k) D anyElem w ho (by rw [hsz]; simp only [maxLen]; omega) (by rw [hsz]; omega)).mono ?_
  rintro e w' ⟨v, ss, rfl, hp, hrow, -, hb⟩
  have e1 : ss.mergeSort (fun x y => decide (x ≤ y)) = (intKeys D).mergeSort (fun x y => decide (x ≤ y)) := mergeSort_of_perm_i hp
  have e2 : ss.length = ((intKeys D).mergeSort (fun x y => decide (x ≤ y))).length := by rw [← e1, List.length_mergeSort]
  rw [e1, e2] at hrow
  refine ⟨v, rfl, hts, ownsRow_base_a hrow (Nat.zero_le _), fun b hb' => by have := (hrow.lt b hb').1; omega, ?_⟩
  exact (bel_trans (bel_alloc (bel_refl w)) (by simpa using hb))
end Go.Proofs.YtplieoalfbpniaaGreat
