/- Lists of labels as the program's, as the document's: law05.To (26), From (29); equal lists: Compare (46), Same (28). -/
import Derived.Test.YtplieoalfbpniaaGreatI5
namespace Go.Proofs.YtplieoalfbpniaaGreat
open Go.RowKit Go.Kt Go.Ix
set_option maxRecDepth 100000

theorem ok67 : ElemOk Tryz.prog 33 69 (.agg #[.string ⟨#[]⟩, .string ⟨#[]⟩]) 2 32 := ok75
theorem ok62 : ElemOk Tryz.prog 41 152 (.agg #[.string ⟨#[]⟩, .string ⟨#[]⟩]) 2 32 := ok112
theorem pair_one (p : Pr) : ∀ u ∈ (#[Value.string p.n, Value.string p.v] : Array Value).toList, u.oneCell' = true := by
  intro u hu
  simp only [List.mem_cons, List.not_mem_nil, or_false] at hu
  rcases hu with rfl | rfl <;> rfl
def MineP (e : TypeId) (w0 w : World) (v : Value) (l : List Pr) : Prop := Mine e 2 w0 w v l.length (flatP l)
theorem MineP.rd {e : TypeId} {w0 w : World} {v : Value} {l : List Pr} (h : MineP e w0 w v l) : RdP w v l := h.1.rd
theorem MineP.bel {e : TypeId} {w0 w : World} {v : Value} {l : List Pr} (h : MineP e w0 w v l) : Below w0.heap.size w0 w := h.2.2

set_option maxHeartbeats 1000000 in
theorem to_any (v : Value) (l : List Pr) (w : World) (hv : RdP w v l) (hlen : l.length ≤ 4398046511104) :
    Calls Tryz.prog 41 #[v] w fun e w' => ∃ v', e = .returned v' ∧ MineP 69 w w' v' l := by
  obtain ⟨a, cap, rfl, hcap, hbig, hcell⟩ := hv.open
  have Hcell := Lib.hid hcell
  clear hcell hv
  go_enter Tryz.func41, Tryz.ntmps41
  go_wp2_with fail
  go_loopw [3, 5, 8] (fun v _ i wr => ∃ k : Nat, k ≤ l.length ∧ i = .int .i64 k ∧ Hid (MineP 69 w wr v (l.take k))) (fun _ _ i _ => l.length - (intOf i).toNat)
  case atStart => exact ⟨0, by omega, rfl, Lib.hid (mine_nil 69 2 w)⟩
  case round =>
    obtain ⟨k, hk, rfl, HM⟩ := hrel
    by_cases hlt : k < l.length
    · obtain ⟨p, hp⟩ : ∃ x, l[k]? = some x := ⟨l[k], List.getElem?_eq_getElem hlt⟩
      obtain ⟨b, o, rfl, c1, c2⟩ := Hcell.out k p hp
      have lb := World.block_lt_of_cell? w _ c1
      have c1' : wr.cell? ⟨b, o + k * 2, none⟩ = some (.string p.n) := (HM.out.2.2.cell (p := ⟨b, o + k * 2, none⟩) lb).trans c1
      have c2' : wr.cell? ⟨b, o + k * 2 + 1, none⟩ = some (.string p.v) := (HM.out.2.2.cell (p := ⟨b, o + k * 2 + 1, none⟩) lb).trans c2
      have HT := Lib.hid (flatP_take l k p hp)
      have Hkl : Hid ((l.take k).length = k) := Lib.hid (by rw [List.length_take]; omega)
      clear c1 c2 hp lb
      go_wp2_with (at_builtin; apply Hold.mk)
      unfold Hold
      refine mine_app rfl _ _ 33 rfl ok67 (by rfl) (by rfl) HM.out (by repeat (first | exact bel_refl _ | apply bel_alloc | apply bel_drew)) (by exact rd_lit 2 #[.string p.n, .string p.v] 1 (by simp) one_le rfl) (pair_one p) (by rw [Hkl.out]; simp only [maxLen]; omega) (by rw [Hkl.out]; omega) ?_
      intro v7 w7 hm7 hg7
      rw [Hkl.out, show (#[Value.string p.n, Value.string p.v] : Array Value).toList = [.string p.n, .string p.v] from rfl, ← HT.out] at hm7
      have HM7 : Hid (MineP 69 w w7 v7 (l.take (k + 1))) := Lib.hid (by unfold MineP; rw [List.length_take, Nat.min_eq_left (by omega)]; exact hm7)
      clear hm7 hg7
      go_wp2_with fail
      go_roundw
      case rel => exact ⟨k + 1, by omega, by go_num, HM7⟩
      case measure => simp [intOf]; omega
    · obtain rfl : k = l.length := by omega
      rw [List.take_length] at HM
      go_wp2_with fail
      go_ret
      exact ⟨_, rfl, HM.out⟩

set_option maxHeartbeats 1000000 in
theorem from_any (v : Value) (l : List Pr) (w : World) (hv : RdP w v l) (hlen : l.length ≤ 4398046511104) :
    Calls Tryz.prog 42 #[v] w fun e w' => ∃ v', e = .returned v' ∧ MineP 152 w w' v' l := by
  obtain ⟨a, cap, rfl, hcap, hbig, hcell⟩ := hv.open
  have Hcell := Lib.hid hcell
  clear hcell hv
  go_enter Tryz.func42, Tryz.ntmps42
  go_wp2_with fail
  go_loopw [3, 5, 8] (fun v _ i wr => ∃ k : Nat, k ≤ l.length ∧ i = .int .i64 k ∧ Hid (MineP 152 w wr v (l.take k))) (fun _ _ i _ => l.length - (intOf i).toNat)
  case atStart => exact ⟨0, by omega, rfl, Lib.hid (mine_nil 152 2 w)⟩
  case round =>
    obtain ⟨k, hk, rfl, HM⟩ := hrel
    by_cases hlt : k < l.length
    · obtain ⟨p, hp⟩ : ∃ x, l[k]? = some x := ⟨l[k], List.getElem?_eq_getElem hlt⟩
      obtain ⟨b, o, rfl, c1, c2⟩ := Hcell.out k p hp
      have lb := World.block_lt_of_cell? w _ c1
      have c1' : wr.cell? ⟨b, o + k * 2, none⟩ = some (.string p.n) := (HM.out.2.2.cell (p := ⟨b, o + k * 2, none⟩) lb).trans c1
      have c2' : wr.cell? ⟨b, o + k * 2 + 1, none⟩ = some (.string p.v) := (HM.out.2.2.cell (p := ⟨b, o + k * 2 + 1, none⟩) lb).trans c2
      have HT := Lib.hid (flatP_take l k p hp)
      have Hkl : Hid ((l.take k).length = k) := Lib.hid (by rw [List.length_take]; omega)
      clear c1 c2 hp lb
      go_wp2_with (at_builtin; apply Hold.mk)
      unfold Hold
      refine mine_app rfl _ _ 41 rfl ok62 (by rfl) (by rfl) HM.out (by repeat (first | exact bel_refl _ | apply bel_alloc | apply bel_drew)) (by exact rd_lit 2 #[.string p.n, .string p.v] 1 (by simp) one_le rfl) (pair_one p) (by rw [Hkl.out]; simp only [maxLen]; omega) (by rw [Hkl.out]; omega) ?_
      intro v7 w7 hm7 hg7
      rw [Hkl.out, show (#[Value.string p.n, Value.string p.v] : Array Value).toList = [.string p.n, .string p.v] from rfl, ← HT.out] at hm7
      have HM7 : Hid (MineP 152 w w7 v7 (l.take (k + 1))) := Lib.hid (by unfold MineP; rw [List.length_take, Nat.min_eq_left (by omega)]; exact hm7)
      clear hm7 hg7
      go_wp2_with fail
      go_roundw
      case rel => exact ⟨k + 1, by omega, by go_num, HM7⟩
      case measure => simp [intOf]; omega
    · obtain rfl : k = l.length := by omega
      rw [List.take_length] at HM
      go_wp2_with fail
      go_ret
      exact ⟨_, rfl, HM.out⟩

set_option maxHeartbeats 1000000 in
/-- two lists that say one thing compare equal -/
theorem compare_yes (v u : Value) (l : List Pr) (w : World) (hv : RdP w v l) (hu : RdP w u l) :
    Calls Tryz.prog 70 #[v, u] w fun e w' => e = .returned (.int .i64 0) ∧ ∃ t, w' = w.drewN t := by
  obtain ⟨a, cap, rfl, hcap, hbig, hcell⟩ := hv.open
  obtain ⟨a2, cap2, rfl, hcap2, hbig2, hcell2⟩ := hu.open
  have Hcell := Lib.hid hcell
  have Hcell2 := Lib.hid hcell2
  clear hcell hv hcell2 hu
  go_enter Tryz.func70, Tryz.ntmps70
  go_wp2_with fail
  go_loopw [5] (fun i wr => ∃ k : Nat, k ≤ l.length ∧ i = .int .i64 k ∧ Hid (∃ t, wr = w.drewN t)) (fun i _ => l.length - (intOf i).toNat)
  case atStart => exact ⟨0, by omega, rfl, Lib.hid ⟨0, rfl⟩⟩
  case round =>
    obtain ⟨k, hk, rfl, HT⟩ := hrel
    have Hb : Hid (Below w.heap.size w wr) := Lib.hid (by
      obtain ⟨t, ht⟩ := HT.out
      rw [ht]
      exact bel_drewN (bel_refl w) t)
    by_cases hlt : k < l.length
    · obtain ⟨p, hp⟩ : ∃ x, l[k]? = some x := ⟨l[k], List.getElem?_eq_getElem hlt⟩
      obtain ⟨b, o, rfl, c1, c2⟩ := Hcell.out k p hp
      obtain ⟨b2, o2, rfl, d1, d2⟩ := Hcell2.out k p hp
      have lb := World.block_lt_of_cell? w _ c1
      have ld := World.block_lt_of_cell? w _ d1
      have c1' : wr.cell? ⟨b, o + k * 2, none⟩ = some (.string p.n) := (Hb.out.cell (p := ⟨b, o + k * 2, none⟩) lb).trans c1
      have c2' : wr.cell? ⟨b, o + k * 2 + 1, none⟩ = some (.string p.v) := (Hb.out.cell (p := ⟨b, o + k * 2 + 1, none⟩) lb).trans c2
      have d1' : wr.cell? ⟨b2, o2 + k * 2, none⟩ = some (.string p.n) := (Hb.out.cell (p := ⟨b2, o2 + k * 2, none⟩) ld).trans d1
      have d2' : wr.cell? ⟨b2, o2 + k * 2 + 1, none⟩ = some (.string p.v) := (Hb.out.cell (p := ⟨b2, o2 + k * 2 + 1, none⟩) ld).trans d2
      have hk1 : (0 : Int) ≤ (k : Int) := by omega
      have hk2 : (k : Int) < (l.length : Int) := by omega
      clear c1 c2 d1 d2 lb ld hp
      go_wp2_with fail
      go_quiet (fail)
      go_wp2_with fail
      go_quiet (fail)
      go_wp2_with fail
      go_roundw
      case rel => exact ⟨k + 1, by omega, by go_num, Lib.hid (by
        obtain ⟨t, ht⟩ := HT.out
        rw [ht]
        exact ⟨_, World.drewN_drewN _ _ _⟩)⟩
      case measure => simp [intOf]; omega
    · obtain rfl : k = l.length := by omega
      go_wp2_with fail
      go_ret
      exact ⟨rfl, HT.out⟩
theorem same_yes (v u : Value) (l : List Pr) (w : World) (hv : RdP w v l) (hu : RdP w u l) :
    Calls Tryz.prog 43 #[v, u] w fun e w' => e = .returned (.bool true) ∧ ∃ t, w' = w.drewN t := by
  have HV := Lib.hid hv
  have HU := Lib.hid hu
  clear hv hu
  go_enter Tryz.func43, Tryz.ntmps43
  go_wp2_with (first | (go_at_call 70; refine (compare_yes v u l w HV.out HU.out).mono ?_; rintro e w2 ⟨rfl, ht⟩) | fail)
  go_ret
  exact ⟨rfl, ht⟩
end Go.Proofs.YtplieoalfbpniaaGreat
