/- Segs (20). -/
import Derived.Test.YtokmiphgalpahaaWG
namespace Go.Proofs.Ytokmiphgalpahaa
open Go.RowKit Go.Kt
set_option maxRecDepth 100000
variable {F : Nat → Prop} {w w' : World} {d mb : Nat} {room fuse : Int} {down : Bool} {l : List Sg}
theorem nums_sorted {ss : List Int} {D : DataW Value} {f : Lit → Option Value} {n : Nat} (hl : l.Pairwise (fun a b => a.n < b.n)) (hf : SegMap f l) (hcf : ∀ kl, (f kl = none → Maps.has D kl = false) ∧ ∀ v, f kl = some v → Maps.has D kl = true ∧ ∀ z, D.atKey kl z = .held v)
    (hown : w.ownsMap Try.prog 3 anyElem mb n D) (hp : ss.Perm (intKeys D)) : ss.mergeSort (fun x y => decide (x ≤ y)) = l.map (·.n) := by
  have h1 : (l.map (·.n)).Perm (intKeys D) := by
    refine CollectedI.perm (left := fun _ => false) (ss := l.map (·.n)) ⟨?_, fun x => ⟨fun hx => ⟨?_, rfl⟩, fun hx => ?_⟩⟩ hown key3 Try.underlying3 (fun _ => rfl)
    · exact List.pairwise_map.2 (hl.imp fun h => by omega)
    · obtain ⟨s, hs, rfl⟩ := List.mem_map.1 hx
      exact ((hcf _).2 _ ((hf _ _).2 ⟨s, hs, rfl, rfl⟩)).1
    · cases he : f (.int .i64 x) with
      | none => rw [(hcf _).1 he] at hx; cases hx.1
      | some v =>
        obtain ⟨s, hs, e1, _⟩ := (hf _ _).1 he
        injection e1 with _ e1
        exact List.mem_map.2 ⟨s, hs, e1.symm⟩
  have h2 := mergeSort_of_perm_i (hp.trans h1.symm)
  refine h2.trans (List.mergeSort_of_pairwise ?_)
  exact List.pairwise_map.2 (hl.imp fun h => by simp; omega)
theorem segs_yes (h : DiskIs F w d mb room fuse false l) : Calls Try.prog 20 #[.pointer (some ⟨d, 0, none⟩)] w fun e w' => ∃ v, e = .returned (.tuple #[v, .int .i64 0]) ∧ w'.ownsRow w.heap.size 3 1 v l.length (l.map (fun s => encZ s.n)) ∧ Below w.heap.size w w' := by
  obtain ⟨c0, c1, c2, c3⟩ := h.cell
  obtain ⟨f, ⟨D, hD, hsz, hcf⟩, hf⟩ := h.map
  have hlen := h.len
  have cS := sorted_any mb l.length D anyElem w hD (by unfold maxLen; omega) (by omega)
  have CS := Lib.hid cS
  have HN : Hid (∀ ss : List Int, ss.Perm (intKeys D) → ss.mergeSort (fun x y => decide (x ≤ y)) = l.map (·.n)) := Lib.hid (fun ss hp => nums_sorted h.inc hf hcf hD hp)
  have H := Lib.hid h
  clear h hD hsz hcf hf cS
  go_enter Try.func20, Try.ntmps20
  go_wp2_with (first
    | (go_at_call 44; refine (up_any H.out).mono ?_; rintro e w1 ⟨rfl, rfl⟩)
    | (go_at_call 46; refine (keys_any (some mb) _).mono ?_; rintro e w1 ⟨rfl, rfl⟩)
    | (go_at_call 45; refine CS.out.mono ?_; rintro e w2 ⟨v, ss, rfl, hp, hrow, hnil, hb⟩; have hm := HN.out ss hp; have hll : ss.length = l.length := (by have := congrArg List.length hm; simpa using this); rw [hm, hll] at hrow; have Hrow := Lib.hid hrow; have Hb := Lib.hid hb; clear hp hrow hnil hb hm hll))
  go_ret2
  refine ⟨_, rfl, ?_, ?_⟩
  · have := Hrow.out
    rw [List.map_map] at this
    exact ownsRow_base_a this (by simp)
  · exact ((Below.refl _ w).alloc (Nat.le_refl _) _).trans (Hb.out.mono (by simp))
theorem segs_down (h : DiskIs F w d mb room fuse true l) : Calls Try.prog 20 #[.pointer (some ⟨d, 0, none⟩)] w fun e w' => e = .returned (.tuple #[.slice none 0 0, .int .i64 5]) ∧ w = w' := by
  have H := Lib.hid h
  clear h
  go_enter Try.func20, Try.ntmps20
  go_wp2_with (go_at_call 44; refine (up_any H.out).mono ?_; rintro e w1 ⟨rfl, rfl⟩)
  go_ret2
  exact ⟨rfl, rfl⟩
theorem segs_nil (w : World) : Calls Try.prog 20 #[.pointer none] w fun e w' => e = .returned (.tuple #[.slice none 0 0, .int .i64 2]) ∧ w = w' := by
  go_enter Try.func20, Try.ntmps20
  go_wp2_with (go_at_call 44; refine (up_nil _).mono ?_; rintro e w1 ⟨rfl, rfl⟩)
  go_ret2
  exact ⟨rfl, rfl⟩
end Go.Proofs.Ytokmiphgalpahaa
