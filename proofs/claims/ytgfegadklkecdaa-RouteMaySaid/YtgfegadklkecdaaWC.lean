/- Seats: RoutePicks (3). -/
import Derived.Test.YtgfegadklkecdaaWB
namespace Go.Proofs.Ytgfegadklkecdaa
open Go.RowKit Go.Kt

theorem To7.elim {l : List Seat} {w w' : World} {e : Ending} (h : To7 l w e w') : ∃ v, e = .returned v ∧ RdS w' v l ∧ Below w.heap.size w w' := h

set_option maxRecDepth 100000 in
set_option maxHeartbeats 4000000 in
theorem picks_any (v : Value) (l : List Seat) (shards : Int) (t : St) (w : World) (hv : RdS w v l) (hI : ∀ s ∈ l, In64 s.node ∧ In64 s.load) :
    Calls Try.prog 3 #[v, .int .i64 shards, t.val] w fun e w' => e = .returned (.bool true) ∧ Below w.heap.size w w' := by
  have Hok := Lib.hid (fit_ok l hI)
  have hlen := fit_len l
  have Hv := Lib.hid hv
  have HT := Lib.hid (Blk.new w #[.int .i64 t.wall, .int .u32 t.tick, .int .u32 t.mark] 25)
  clear hv hI
  unfold St.val
  go_enter Try.func3, Try.ntmps3
  go_wp2_with fail
  refine (fit_any v l _ (Hv.out.below (below_alloc _ _))).mono ?_
  rintro e w1 ⟨v1, rfl, hr1, hb1⟩
  generalize (l.take 40).map fitS = L at *
  have Hr1 := Lib.hid hr1
  have HB1 := Lib.hid (bel_trans (below_alloc w _) hb1)
  have HT1 := Lib.hid (HT.out.next hb1)
  have hs1 := HB1.out.size
  clear hr1 hb1 HT Hv
  generalize hR : pickF L shards t = R at *
  have HR := Lib.hid hR
  clear hR
  have m0 : w1.cell? ⟨w.heap.size, 0, none⟩ = some (.int .i64 t.wall) := HT1.out.cell 0
  have m1 : w1.cell? ⟨w.heap.size, 1, none⟩ = some (.int .u32 t.tick) := HT1.out.cell 1
  have m2 : w1.cell? ⟨w.heap.size, 2, none⟩ = some (.int .u32 t.mark) := HT1.out.cell 2
  have hx1 := bel_refl w1
  have hl1 := HT1.out.lt
  have HK : Hid (∀ w', Below w1.heap.size w1 w' → w'.cell? ⟨w.heap.size, 0, none⟩ = some (.int .i64 t.wall) ∧ w'.cell? ⟨w.heap.size, 1, none⟩ = some (.int .u32 t.tick) ∧ w'.cell? ⟨w.heap.size, 2, none⟩ = some (.int .u32 t.mark)) := Lib.hid (fun w' h => by
    have r := HT1.out.next h
    exact ⟨r.cell 0, r.cell 1, r.cell 2⟩)
  go_wp2_with fail
  go_region_held3 (fun w' => w'.cell? ⟨w.heap.size, 0, none⟩ = some (.int .i64 t.wall) ∧ w'.cell? ⟨w.heap.size, 1, none⟩ = some (.int .u32 t.tick) ∧ w'.cell? ⟨w.heap.size, 2, none⟩ = some (.int .u32 t.mark))
    (first | go_keep | (exact HK.out _ (by repeat (first | assumption | apply bel_alloc | apply bel_drew))))
    (first
      | (go_at_call 7; refine (to_any v1 L _ (Hr1.out.below (by repeat (first | assumption | apply bel_alloc | apply bel_drew))) (by omega)).mono ?_; intro e w3 h3; obtain ⟨vt, rfl, ht3, hb3⟩ := h3.elim; clear h3; have hx3 : Below w1.heap.size w1 w3 := bel_trans (by repeat (first | assumption | apply bel_alloc | apply bel_drew)) hb3; have Ht3 := Lib.hid ht3; clear ht3 hb3)
      | (go_at_call 8; refine (to_any1 t _).mono ?_; rintro e w4 ⟨rfl, hb4⟩; have hx4 : Below w1.heap.size w1 w4 := bel_trans (by repeat (first | assumption | apply bel_alloc | apply bel_drew)) hb4; first | (have hx34 : Below w3.heap.size w3 w4 := bel_trans (by have := bel_refl w3; repeat (first | assumption | apply bel_alloc | apply bel_drew)) hb4; clear hb4) | clear hb4)
      | (go_at_call 6; refine (pick_any vt L shards t _ (Ht3.out.below (by have := bel_refl w3; repeat (first | assumption | apply bel_alloc | apply bel_drew))) Hok.out).mono ?_; rintro e w5 ⟨pv, pc, out, rfl, hres, hpv, hb5⟩; have hx5 : Below w1.heap.size w1 w5 := bel_trans (by repeat (first | assumption | apply bel_alloc | apply bel_drew)) hb5; have Hres := Lib.hid hres; have Hpv := Lib.hid hpv; clear hres hpv hb5))
  all_goals (go_wp2_with fail)
  have Hx5 := Lib.hid hx5
  clear m0 m1 m2 hx1
  refine (refpick_any v1 L shards t _ (Hr1.out.below Hx5.out) Hok.out).mono ?_
  rintro e w6 ⟨qv, qc, out2, rfl, hres2, hqv, hb6⟩
  obtain ⟨rfl, rfl⟩ := Hres.out.one hres2
  obtain ⟨qa, qcap, rfl, hq1, hq2, hqcell⟩ := hqv.open
  obtain ⟨pa, pcap, rfl, hp1, hp2, hpcell⟩ := (Hpv.out.below hb6).open
  have Hqc := Lib.hid hqcell
  have Hpc := Lib.hid hpcell
  have HB6 := Lib.hid (bel_trans HB1.out (bel_trans Hx5.out hb6))
  clear hqcell hpcell hb6 hqv hres2
  go_wp2_with fail
  refine (awake_any _).mono ?_
  rintro e w7 ⟨rfl, hb7⟩
  have Hb7 := Lib.hid hb7
  clear hb7
  go_wp2_with fail
  go_loopw [11, 46] (fun _ iv wr => ∃ k : Nat, k ≤ out.length ∧ iv = .int .i64 k ∧ Hid (Below w7.heap.size w7 wr)) (fun _ iv _ => out.length - (intOf iv).toNat)
  case atStart => exact ⟨0, by omega, rfl, Lib.hid (bel_refl w7)⟩
  case round =>
    obtain ⟨k, hk, rfl, HW⟩ := hrel
    by_cases hlt : k < out.length
    · obtain ⟨x, hx⟩ : ∃ x, out[k]? = some x := ⟨out[k], List.getElem?_eq_getElem hlt⟩
      obtain ⟨b, o, rfl, c0⟩ := Hpc.out k x hx
      obtain ⟨b2, o2, rfl, c1⟩ := Hqc.out k x hx
      have k0 : wr.cell? ⟨b, o + k, none⟩ = some (.int .i64 x) := ((bel_trans Hb7.out HW.out).cell (p := ⟨b, o + k, none⟩) (World.block_lt_of_cell? _ _ c0)).trans c0
      have k1 : wr.cell? ⟨b2, o2 + k, none⟩ = some (.int .i64 x) := ((bel_trans Hb7.out HW.out).cell (p := ⟨b2, o2 + k, none⟩) (World.block_lt_of_cell? _ _ c1)).trans c1
      clear hx c0 c1
      go_wp2_with fail
      go_quiet (fail)
      go_wp2_with fail
      go_roundw
      case rel => exact ⟨k + 1, by omega, by go_num, Lib.hid (bel_drewN HW.out _)⟩
      case measure => simp [intOf]; omega
    · obtain rfl : k = out.length := by omega
      go_wp2_with fail
      go_ret
      exact ⟨rfl, bel_trans HB6.out (bel_trans Hb7.out HW.out)⟩
end Go.Proofs.Ytgfegadklkecdaa
