/- Seats: both Picks, whatever the arguments; what the picks are; awake (10). -/
import Derived.Test.YtgfegadklkecdaaWA
namespace Go.Proofs.Ytgfegadklkecdaa
open Go.RowKit Go.Kt

def PickRes (r : Int ⊕ List Int) (c : Int) (out : List Int) : Prop := (r = .inl c ∧ out = []) ∨ (r = .inr out ∧ c = 0)
theorem PickRes.one {r : Int ⊕ List Int} {c d : Int} {o p : List Int} (h : PickRes r c o) (g : PickRes r d p) : c = d ∧ o = p := by
  rcases h with ⟨h1, rfl⟩ | ⟨h1, rfl⟩ <;> rcases g with ⟨g1, rfl⟩ | ⟨g1, rfl⟩ <;> rw [h1] at g1 <;> cases g1 <;> exact ⟨rfl, rfl⟩
def Pickd (r : Int ⊕ List Int) (w : World) (e : Ending) (w' : World) : Prop :=
  ∃ v c out, e = .returned (.tuple #[v, .int .i64 c]) ∧ PickRes r c out ∧ RdI w' v out ∧ Below w.heap.size w w'
theorem picked_d {r : Int ⊕ List Int} {w w' : World} {e : Ending} (h : Picked r w e w') : Pickd r w e w' := by
  obtain ⟨hb, ⟨c, hr, he⟩ | ⟨out, v, hr, he, hv⟩⟩ := h
  · exact ⟨_, c, [], he, .inl ⟨hr, rfl⟩, (own_nil w' 3 1).rd, hb⟩
  · exact ⟨v, 0, out, he, .inr ⟨hr, rfl⟩, hv, hb⟩
theorem pick_any (v : Value) (l : List Seat) (shards : Int) (t : St) (w : World) (hv : RdS w v l) (hok : SeatsOk l) : Calls Try.prog 6 #[v, .int .i64 shards, t.val] w (Pickd (pickF l shards t) w) := by
  by_cases hno : shards < 1 ∨ 4 < shards ∨ stR t = false ∨ 32 < (l.length : Int)
  · exact (pick_no v l shards t w hv hno).mono fun e w' h => picked_d h
  · exact (pick_yes v l shards t w hv hok (by omega) (by omega) (by cases h : stR t with | true => rfl | false => exact (hno (.inr (.inr (.inl h)))).elim) (by omega)).mono fun e w' h => picked_d h
theorem refpick_any (v : Value) (l : List Seat) (shards : Int) (t : St) (w : World) (hv : RdS w v l) (hok : SeatsOk l) : Calls Try.prog 9 #[v, .int .i64 shards, t.val] w (Pickd (pickF l shards t) w) := by
  by_cases hno : shards < 1 ∨ 4 < shards ∨ stR t = false ∨ 32 < (l.length : Int)
  · exact (refpick_no v l shards t w hv hno).mono fun e w' h => picked_d h
  · exact (refpick_yes v l shards t w hv hok (by omega) (by omega) (by cases h : stR t with | true => rfl | false => exact (hno (.inr (.inr (.inl h)))).elim) (by omega)).mono fun e w' h => picked_d h
/-- who is picked of a shard -/
def Good (l : List Seat) (t : St) (k : Nat) (node : Int) : Prop :=
  ∃ b, b ∈ l ∧ b.node = node ∧ mayB b k t = true ∧ ∀ s ∈ l, mayB s k t = true → s.prim = false → b.prim = false
theorem picks_spec (l : List Seat) (t : St) : ∀ n, match picks l t n with
    | .inl c => c ≠ 0
    | .inr out => out.length = n ∧ ∀ k node, out[k]? = some node → Good l t k node
  | 0 => ⟨rfl, fun k node h => by simp at h⟩
  | n + 1 => by
    have ih := picks_spec l t n
    unfold picks
    cases h : picks l t n with
    | inl e => rw [h] at ih; exact ih
    | inr out =>
      rw [h] at ih
      simp only at ih ⊢
      have hp := pick_ok (loadN l out) n t l
      have hm := pick_may (loadN l out) n t l
      generalize shardPick (loadN l out) n t l = p at *
      cases hb : p.best with
      | none =>
        simp only
        cases hy : p.young with
        | true => rw [(hp.young hy).2 hb]; decide
        | false =>
          cases hu : p.up with
          | true => rw [(hp.old hu hy).1]; decide
          | false => rw [(hp.no hu).1]; decide
      | some b =>
        refine ⟨by simp [ih.1], fun k node hk => ?_⟩
        by_cases hkn : k < n
        · rw [List.getElem?_append_left (by omega)] at hk
          exact ih.2 k node hk
        · rw [List.getElem?_append_right (by omega), ih.1] at hk
          have : k = n := by
            by_cases h0 : k - n = 0
            · omega
            · rw [List.getElem?_eq_none (by simp; omega)] at hk; cases hk
          subst this
          simp at hk
          refine ⟨b, (hm.mem b hb).1, hk, (hm.mem b hb).2, fun s hs hms hpr => ?_⟩
          obtain ⟨b', hb', hq⟩ := hm.back s hs hms
          rw [hb] at hb'
          cases hb'
          exact hq hpr
theorem pickF_spec (l : List Seat) (shards : Int) (t : St) {c : Int} {out : List Int} (h : PickRes (pickF l shards t) c out) :
    (c ≠ 0 ∧ out = []) ∨ (c = 0 ∧ (out.length : Int) = shards ∧ ∀ k node, out[k]? = some node → Good l t k node) := by
  unfold pickF at h
  split at h
  · rcases h with ⟨h1, h2⟩ | ⟨h1, h2⟩
    · injection h1 with h1; exact .inl ⟨by omega, h2⟩
    · cases h1
  · rename_i hno
    have hs := picks_spec l t shards.toNat
    rcases h with ⟨h1, h2⟩ | ⟨h1, h2⟩
    · rw [h1] at hs; exact .inl ⟨hs, h2⟩
    · rw [h1] at hs; exact .inr ⟨h2, by omega, hs.2⟩
theorem fit_ok (l : List Seat) (h : ∀ s ∈ l, In64 s.node ∧ In64 s.load) : SeatsOk ((l.take 40).map fitS) := by
  have key : ∀ s ∈ (l.take 40).map fitS, ∃ x ∈ l, s = fitS x := by
    intro s hs
    obtain ⟨x, hx, rfl⟩ := List.mem_map.1 hs
    exact ⟨x, List.mem_of_mem_take hx, rfl⟩
  refine ⟨fun s hs => ?_, fun s hs => ?_⟩
  · obtain ⟨x, hx, rfl⟩ := key s hs
    obtain ⟨h1, h2⟩ := (h x hx).1
    exact ⟨by simp only [fitS]; omega, by simp only [fitS]; omega⟩
  · obtain ⟨x, hx, rfl⟩ := key s hs
    exact (h x hx).2
theorem fit_len (l : List Seat) : ((l.take 40).map fitS).length ≤ 40 := by simp; omega

def exSeats : List Seat := [⟨0, 0, true, true, ⟨0, 0, 0⟩, ⟨0, 0, 0⟩, false, 0⟩, ⟨0, 1, true, false, ⟨0, 0, 0⟩, ⟨0, 0, 0⟩, false, 0⟩, ⟨0, 2, true, false, ⟨0, 0, 0⟩, ⟨0, 0, 0⟩, false, 0⟩]
theorem ex_pick : pickF exSeats 1 ⟨0, 0, 0⟩ = .inr [1] := by decide +kernel
theorem ex_ok : SeatsOk exSeats := by
  refine ⟨fun s hs => ?_, fun s hs => ?_⟩ <;> simp [exSeats] at hs <;> rcases hs with rfl | rfl | rfl <;> decide

set_option maxRecDepth 100000 in
set_option maxHeartbeats 2000000 in
theorem awake_any (w : World) : Calls Try.prog 10 #[] w fun e w' => e = .returned (.bool true) ∧ Below w.heap.size w w' := by
  go_enter Try.func10, Try.ntmps10
  go_wp2_with fail
  have HO := own_lit w 45 12 (flatS exSeats).toArray 3 (by decide) rfl
  have hpk := fun v w1 h => pick_any v exSeats 1 ⟨0, 0, 0⟩ w1 h ex_ok
  rw [ex_pick] at hpk
  refine (hpk _ _ (by exact HO.rd)).mono ?_
  rintro e w1 ⟨v1, c1, out, rfl, hres, hv1, hb⟩
  obtain ⟨rfl, rfl⟩ : out = [1] ∧ c1 = 0 := by
    rcases hres with ⟨h, _⟩ | ⟨h, h2⟩
    · cases h
    · injection h with h; exact ⟨h.symm, h2⟩
  obtain ⟨a, cap, rfl, hc1, hc2, hcell⟩ := hv1.open
  obtain ⟨b, o, rfl, c0⟩ := hcell 0 1 rfl
  have Hb := Lib.hid (bel_trans (below_alloc w _) hb)
  clear hb HO hcell hv1 hpk hres
  have c0' : w1.cell? ⟨b, o, none⟩ = some (.int .i64 1) := c0
  clear c0
  go_wp2_with fail
  go_ret
  exact ⟨rfl, Hb.out⟩
end Go.Proofs.Ytgfegadklkecdaa
