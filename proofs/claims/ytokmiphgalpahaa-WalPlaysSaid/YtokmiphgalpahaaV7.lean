/- Segs (20) and Read (21) of a disk in memory; what Open hands out. -/
import Derived.Test.YtokmiphgalpahaaV6
import Derived.Test.YtokmiphgalpahaaWU
namespace Go.Proofs.Ytokmiphgalpahaa
open Go.RowKit Go.Kt
set_option maxRecDepth 100000
variable {F G K : Nat → Prop} {w w' w0 w1 w2 W : World} {d mb : Nat}

theorem segs_up {P : Pd} (h : DAt F w d mb P) (hd : P.down = false) : Calls Try.prog 20 #[.pointer (some ⟨d, 0, none⟩)] w fun e w' => ∃ v, e = .returned (.tuple #[v, .int .i64 0]) ∧ RdZ w' v (numsP P) ∧ (∀ x, v.ownBlock = some x → w.heap.size ≤ x ∧ x < w'.heap.size) ∧ Below w.heap.size w w' := by
  obtain ⟨l, hD, hL⟩ := h
  rw [hd] at hD
  refine (segs_yes hD).mono ?_
  rintro e w1 ⟨v, rfl, hrow, hb⟩
  have e1 : numsP P = l.map (·.n) := by
    unfold numsP
    rw [← hL, List.map_map]
    rfl
  have e2 : (numsP P).map encZ = l.map (fun s => encZ s.n) := by rw [e1, List.map_map]; rfl
  have e3 : (numsP P).length = l.length := by rw [e1, List.length_map]
  have ho : Own 3 1 w1 v l.length (l.map (fun s => encZ s.n)) := ⟨hrow.1, hrow.2.imp id (fun ⟨g, cap, cur, q1, _, q3⟩ => ⟨g, cap, cur, q1, Nat.zero_le _, q3⟩)⟩
  refine ⟨v, rfl, ?_, fun x hx => ⟨?_, Own.lt ho x hx⟩, hb⟩
  · unfold RdZ
    rw [e2, e3]
    exact ho.rd
  · rcases hrow.2 with ⟨rfl, _⟩ | ⟨g, cap, cur, rfl, hg, _⟩
    · cases hx
    · cases hx; exact hg
theorem segs_dn {P : Pd} (h : DAt F w d mb P) (hd : P.down = true) : Calls Try.prog 20 #[.pointer (some ⟨d, 0, none⟩)] w fun e w' => e = .returned (.tuple #[.slice none 0 0, .int .i64 5]) ∧ w = w' := by
  obtain ⟨l, hD, hL⟩ := h
  rw [hd] at hD
  exact segs_down hD
theorem read_at {P : Pd} (h : DAt F w d mb P) (hd : P.down = false) {p : Pg} (hp : p ∈ P.L) : Calls Try.prog 21 #[.pointer (some ⟨d, 0, none⟩), .int .i64 p.n] w fun e w' => ∃ v, e = .returned (.tuple #[v, .int .i64 0]) ∧ Mine8 5 w w' v p.b ∧ Below w.heap.size w w' := by
  obtain ⟨l, hD, hL⟩ := h
  rw [hd] at hD
  rw [← hL] at hp
  obtain ⟨s, hs, rfl⟩ := List.mem_map.1 hp
  exact read_yes hD hs
theorem usedP_has {p : Pg} : ∀ {L : List Pg}, p ∈ L → p.b.length ≤ usedP L
  | [], h => by cases h
  | t :: ks, h => by
    have e : usedP (t :: ks) = t.b.length + usedP ks := by simp [usedP]
    rcases List.mem_cons.1 h with rfl | h
    · omega
    · have := usedP_has h; omega
theorem PdOk.small {P : Pd} (h : PdOk P) {p : Pg} (hp : p ∈ P.L) : p.b.length ≤ 67108864 := by
  have h1 := usedP_has hp
  have h2 := h.tot
  have h3 := h.room1
  omega
theorem lastF_succ {L : List Pg} {k : Nat} {p : Pg} (h : L[k]? = some p) : lastF L (k + 1) = match standsW p.b with
    | some s => some (p, s)
    | none => lastF L k := by cases hs : standsW p.b <;> simp [lastF, h, hs]
theorem lastF_mem {L : List Pg} {p : Pg} {s : Std} : ∀ {k : Nat}, lastF L k = some (p, s) → p ∈ L ∧ standsW p.b = some s
  | 0, h => by cases h
  | k + 1, h => by
    rw [lastF] at h
    cases hL : L[k]? with
    | none => rw [hL] at h; exact lastF_mem h
    | some q =>
      rw [hL] at h
      simp only at h
      cases hs : standsW q.b with
      | none => rw [hs] at h; exact lastF_mem h
      | some t =>
        rw [hs] at h
        cases h
        exact ⟨List.mem_of_getElem? hL, hs⟩
/-- what Open returns -/
def OpenRet (K : Nat → Prop) (w : World) (d : Nat) (r : Int × Option Opn × Pd) (e : Ending) : Prop := match r.2.1 with
  | none => e = .returned (.tuple #[.pointer none, .slice none 0 0, .slice none 0 0, .int .i64 r.1])
  | some o => ∃ wb bv rv, e = .returned (.tuple #[.pointer (some ⟨wb, 0, none⟩), bv, rv, .int .i64 0]) ∧ K wb ∧ Blk w wb #[.pointer (some ⟨d, 0, none⟩), .int .i64 o.seg] 64 ∧ In8 K w bv o.base ∧ OwnBs K w rv o.recs
/-- what Open does -/
def OpenIs (F : Nat → Prop) (w : World) (d mb : Nat) (P : Pd) (e : Ending) (w' : World) : Prop :=
  ∃ K F' : Nat → Prop, OpenRet K w' d (openW P) e ∧ DAt F' w' d mb (openW P).2.2 ∧ (∀ x, F' x → Plus F w w' x ∧ ¬ K x) ∧ (∀ x, K x → w.heap.size ≤ x ∧ x < w'.heap.size) ∧ Turn F w w'
theorem nextW_nil {P : Pd} (h : P.L = []) : nextW P = 1 := by unfold nextW; rw [h]; rfl
theorem nextW_last {P : Pd} {p : Pg} (h : P.L[P.L.length - 1]? = some p) : nextW P = p.n + 1 := by
  unfold nextW
  rw [List.getLast?_eq_getElem?, h]
set_option maxHeartbeats 1000000 in
theorem open_dn {P : Pd} (h : DAt F w d mb P) (hd : P.down = true) : Calls Try.prog 6 #[.pointer (some ⟨d, 0, none⟩)] w (OpenIs F w d mb P) := by
  have HS := Lib.hid (segs_dn h hd)
  have H := Lib.hid h
  have HO : Hid (openW P = (5, none, P)) := Lib.hid (by unfold openW; rw [if_pos hd])
  clear h hd
  go_enter Try.func6, Try.ntmps6
  go_wp2_with fail
  refine HS.out.mono ?_
  rintro e w1 ⟨rfl, rfl⟩
  go_wp2_with fail
  try simp only [Exit.inBlock, Exit.then]
  refine bodyPost_ret (results_tmp4 rfl _ _ _) rfl ?_
  refine ⟨fun _ => False, F, ?_, ?_, fun x hx => ⟨.inl hx, id⟩, fun x hx => hx.elim, Turn.refl _ _⟩
  · rw [HO.out]; rfl
  · rw [HO.out]; exact H.out
theorem open_nil (w : World) : Calls Try.prog 6 #[.pointer none] w fun e w' => e = .returned (.tuple #[.pointer none, .slice none 0 0, .slice none 0 0, .int .i64 2]) ∧ w = w' := by
  go_enter Try.func6, Try.ntmps6
  go_wp2_with fail
  refine (segs_nil _).mono ?_
  rintro e w1 ⟨rfl, rfl⟩
  go_wp2_with fail
  try simp only [Exit.inBlock, Exit.then]
  refine bodyPost_ret (results_tmp4 rfl _ _ _) rfl ?_
  exact ⟨rfl, rfl⟩
end Go.Proofs.Ytokmiphgalpahaa
