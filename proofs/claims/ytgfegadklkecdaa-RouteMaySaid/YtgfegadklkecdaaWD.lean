/- Seats: RouteMay (4). -/
import Derived.Test.YtgfegadklkecdaaWC
namespace Go.Proofs.Ytgfegadklkecdaa
open Go.RowKit Go.Kt

def mayN (k : Int) (t : St) (node : Int) (s : Seat) : Bool := mayB s k t && (s.node == node)
def backB (k : Int) (t : St) (s : Seat) : Bool := mayB s k t && !s.prim
def selfB (k : Int) (t : St) (node : Int) (s : Seat) : Bool := mayB s k t && ((s.node == node) && !s.prim)
theorem any_snoc (f : Seat → Bool) (l : List Seat) (j : Nat) (x : Seat) (h : l[j]? = some x) : (l.take (j + 1)).any f = ((l.take j).any f || f x) := by
  obtain ⟨hk, rfl⟩ := List.getElem?_eq_some_iff.1 h
  rw [List.take_succ_eq_append_getElem hk, List.any_append]
  simp
theorem good_any {l : List Seat} {t : St} {k : Nat} {node : Int} (h : Good l t k node) : l.any (mayN k t node) = true ∧ (l.any (backB k t) = true → l.any (selfB k t node) = true) := by
  obtain ⟨b, hb, hn, hm, hg⟩ := h
  refine ⟨List.any_eq_true.2 ⟨b, hb, by simp [mayN, hm, hn]⟩, fun h => ?_⟩
  obtain ⟨s, hs, h2⟩ := List.any_eq_true.1 h
  simp [backB] at h2
  exact List.any_eq_true.2 ⟨b, hb, by simp [selfB, hm, hn, hg s hs h2.1 h2.2]⟩

set_option maxRecDepth 100000 in
set_option maxHeartbeats 4000000 in
theorem may_law (v : Value) (l : List Seat) (shards : Int) (t : St) (w : World) (hv : RdS w v l) (hI : ∀ s ∈ l, In64 s.node ∧ In64 s.load) :
    Calls Try.prog 4 #[v, .int .i64 shards, t.val] w fun e w' => e = .returned (.bool true) ∧ Below w.heap.size w w' := by
  have Hok := Lib.hid (fit_ok l hI)
  have hlen := fit_len l
  have Hv := Lib.hid hv
  have HT := Lib.hid (Blk.new w #[.int .i64 t.wall, .int .u32 t.tick, .int .u32 t.mark] 25)
  clear hv hI
  unfold St.val
  go_enter Try.func4, Try.ntmps4
  go_wp2_with fail
  refine (fit_any v l _ (Hv.out.below (below_alloc _ _))).mono ?_
  rintro e w1 ⟨v1, rfl, hr1, hb1⟩
  generalize (l.take 40).map fitS = L at *
  have Hr1 := Lib.hid hr1
  have HB1 := Lib.hid (bel_trans (below_alloc w _) hb1)
  have HT1 := Lib.hid (HT.out.next hb1)
  have hs1 := HB1.out.size
  clear hr1 hb1 HT Hv
  generalize hR : pickF L shards t = R at *
  have HR := Lib.hid hR
  clear hR
  have m0 : w1.cell? ⟨w.heap.size, 0, none⟩ = some (.int .i64 t.wall) := HT1.out.cell 0
  have m1 : w1.cell? ⟨w.heap.size, 1, none⟩ = some (.int .u32 t.tick) := HT1.out.cell 1
  have m2 : w1.cell? ⟨w.heap.size, 2, none⟩ = some (.int .u32 t.mark) := HT1.out.cell 2
  have hx1 := bel_refl w1
  have hl1 := HT1.out.lt
  have HK : Hid (∀ w', Below w1.heap.size w1 w' → w'.cell? ⟨w.heap.size, 0, none⟩ = some (.int .i64 t.wall) ∧ w'.cell? ⟨w.heap.size, 1, none⟩ = some (.int .u32 t.tick) ∧ w'.cell? ⟨w.heap.size, 2, none⟩ = some (.int .u32 t.mark)) := Lib.hid (fun w' h => by
    have r := HT1.out.next h
    exact ⟨r.cell 0, r.cell 1, r.cell 2⟩)
  go_wp2_with fail
  go_region_held3 (fun w' => w'.cell? ⟨w.heap.size, 0, none⟩ = some (.int .i64 t.wall) ∧ w'.cell? ⟨w.heap.size, 1, none⟩ = some (.int .u32 t.tick) ∧ w'.cell? ⟨w.heap.size, 2, none⟩ = some (.int .u32 t.mark))
    (first | go_keep | (exact HK.out _ (by repeat (first | assumption | apply bel_alloc | apply bel_drew))))
    (first
      | (go_at_call 7; refine (to_any v1 L _ (Hr1.out.below (by repeat (first | assumption | apply bel_alloc | apply bel_drew))) (by omega)).mono ?_; intro e w3 h3; obtain ⟨vt, rfl, ht3, hb3⟩ := h3.elim; clear h3; have hx3 : Below w1.heap.size w1 w3 := bel_trans (by repeat (first | assumption | apply bel_alloc | apply bel_drew)) hb3; have Ht3 := Lib.hid ht3; clear ht3 hb3)
      | (go_at_call 8; refine (to_any1 t _).mono ?_; rintro e w4 ⟨rfl, hb4⟩; have hx4 : Below w1.heap.size w1 w4 := bel_trans (by repeat (first | assumption | apply bel_alloc | apply bel_drew)) hb4; first | (have hx34 : Below w3.heap.size w3 w4 := bel_trans (by have := bel_refl w3; repeat (first | assumption | apply bel_alloc | apply bel_drew)) hb4; clear hb4) | clear hb4)
      | (go_at_call 6; refine (pick_any vt L shards t _ (Ht3.out.below (by have := bel_refl w3; repeat (first | assumption | apply bel_alloc | apply bel_drew))) Hok.out).mono ?_; rintro e w5 ⟨pv, pc, out, rfl, hres, hpv, hb5⟩; have hx5 : Below w1.heap.size w1 w5 := bel_trans (by repeat (first | assumption | apply bel_alloc | apply bel_drew)) hb5; have Hres := Lib.hid hres; have Hpv := Lib.hid hpv; clear hres hpv hb5))
  all_goals (go_wp2_with fail)
  have Hx5 := Lib.hid hx5
  clear m0 m1 m2 hx1
  refine (awake_any _).mono ?_
  rintro e w6 ⟨rfl, hb6⟩
  obtain ⟨pa, pcap, rfl, hp1, hp2, hpcell⟩ := (Hpv.out.below hb6).open
  have Hpc := Lib.hid hpcell
  have Hx6 := Lib.hid (bel_trans Hx5.out hb6)
  clear hpcell hb6
  have Hsp := Lib.hid (pickF_spec L shards t Hres.out)
  rcases Hsp.out with ⟨hc0, rfl⟩ | ⟨rfl, hol, hgood⟩
  · have d0 : (pc == 0) = false := by simpa using hc0
    clear hc0
    go_wp2_with fail
    refine (awake_any _).mono ?_
    rintro e w7 ⟨rfl, hb7⟩
    have Hb7 := Lib.hid hb7
    clear hb7
    go_wp2_with fail
    go_ret
    exact ⟨rfl, bel_trans HB1.out (bel_trans Hx6.out Hb7.out)⟩
  · have Hgood := Lib.hid hgood
    have Hol := Lib.hid hol
    clear hgood hol
    go_wp2_with fail
    go_loopw [9, 10, 11, 12, 13, 15, 41] (fun _ _ _ _ _ _ iv wr => ∃ k : Nat, k ≤ out.length ∧ iv = .int .i64 k ∧ Hid (Below w6.heap.size w6 wr)) (fun _ _ _ _ _ _ iv _ => out.length - (intOf iv).toNat)
    case atStart => exact ⟨0, by omega, rfl, Lib.hid (bel_refl w6)⟩
    case round =>
      obtain ⟨k, hk, rfl, HW⟩ := hrel
      by_cases hlt : k < out.length
      · obtain ⟨nd, hnd⟩ : ∃ x, out[k]? = some x := ⟨out[k], List.getElem?_eq_getElem hlt⟩
        obtain ⟨b, o, rfl, c0⟩ := Hpc.out k nd hnd
        have k0 : wr.cell? ⟨b, o + k, none⟩ = some (.int .i64 nd) := (HW.out.cell (p := ⟨b, o + k, none⟩) (World.block_lt_of_cell? _ _ c0)).trans c0
        have Hg := Lib.hid (good_any (Hgood.out k nd hnd))
        obtain ⟨la, lcap, rfl, hl1', hl2, hlcell⟩ := Hr1.out.open
        have Hlc := Lib.hid hlcell
        clear hnd c0 hlcell
        go_wp2_with fail
        obtain ⟨wo, rfl⟩ : ∃ wo, wo = wr := ⟨_, rfl⟩
        go_loopw [11, 12, 13, 15, 48] (fun av bv sv _ iv wi => ∃ j : Nat, j ≤ L.length ∧ iv = .int .i64 j ∧ av = .bool ((L.take j).any (mayN k t nd)) ∧ bv = .bool ((L.take j).any (backB k t)) ∧ sv = .bool ((L.take j).any (selfB k t nd)) ∧ Hid (Below wo.heap.size wo wi)) (fun _ _ _ _ iv _ => L.length - (intOf iv).toNat)
        case atStart => exact ⟨0, by omega, rfl, rfl, rfl, rfl, Lib.hid (bel_refl wo)⟩
        case round =>
          obtain ⟨j, hj, rfl, rfl, rfl, rfl, HI⟩ := hrel
          obtain ⟨wi, rfl⟩ : ∃ wi, wi = wr := ⟨_, rfl⟩
          by_cases hjl : j < L.length
          · obtain ⟨x, hx⟩ : ∃ x, L[j]? = some x := ⟨L[j], List.getElem?_eq_getElem hjl⟩
            obtain ⟨lb, lo, rfl, hat⟩ := Hlc.out j x hx
            have HBi := Lib.hid (bel_trans Hx6.out (bel_trans HW.out HI.out))
            obtain ⟨c0, c1, c2, c3, c4, c5, c6, c7, c8, c9, c10, c11⟩ := hat.below HBi.out hat.lt
            have hTi := HT1.out.next HBi.out
            have m0 : wi.cell? ⟨w.heap.size, 0, none⟩ = some (.int .i64 t.wall) := hTi.cell 0
            have m1 : wi.cell? ⟨w.heap.size, 1, none⟩ = some (.int .u32 t.tick) := hTi.cell 1
            have m2 : wi.cell? ⟨w.heap.size, 2, none⟩ = some (.int .u32 t.mark) := hTi.cell 2
            have hli := hTi.lt
            have HS1 := Lib.hid (any_snoc (mayN k t nd) L j x hx)
            have HS2 := Lib.hid (any_snoc (backB k t) L j x hx)
            have HS3 := Lib.hid (any_snoc (selfB k t nd) L j x hx)
            have HX : Hid (Blk (wi.alloc (.cells #[.int .i64 x.shard, .int .i64 x.node, .bool x.up, .bool x.prim, .int .i64 x.closed.wall, .int .u32 x.closed.tick, .int .u32 x.closed.mark, .int .i64 x.safe.wall, .int .u32 x.safe.tick, .int .u32 x.safe.mark, .bool x.held, .int .i64 x.load] 40)) wi.heap.size #[.int .i64 x.shard, .int .i64 x.node, .bool x.up, .bool x.prim, .int .i64 x.closed.wall, .int .u32 x.closed.tick, .int .u32 x.closed.mark, .int .i64 x.safe.wall, .int .u32 x.safe.tick, .int .u32 x.safe.mark, .bool x.held, .int .i64 x.load] 40) := Lib.hid (Blk.new wi _ 40)
            clear hx hat hTi
            generalize (L.take j).any (mayN k t nd) = a1 at *
            generalize (L.take j).any (backB k t) = a2 at *
            generalize (L.take j).any (selfB k t nd) = a3 at *
            go_wp2_with fail
            refine (may_any x k t _).mono ?_
            rintro e w8 ⟨rfl, hb8⟩
            have HX8 := Lib.hid (HX.out.next hb8)
            have n1 : w8.cell? ⟨wi.heap.size, 1, none⟩ = some (.int .i64 x.node) := HX8.out.cell 1
            have n3 : w8.cell? ⟨wi.heap.size, 3, none⟩ = some (.bool x.prim) := HX8.out.cell 3
            have HI8 := Lib.hid (bel_trans HI.out (bel_trans (below_alloc _ _) hb8))
            have hl8 := HX8.out.lt
            clear hb8 c0 c1 c2 c3 c4 c5 c6 c7 c8 c9 c10 c11 m0 m1 m2
            cases hm : mayB x k t with
            | false =>
              have HR1 : Hid ((L.take (j + 1)).any (mayN k t nd) = a1) := Lib.hid (by rw [HS1.out]; simp [mayN, hm])
              have HR2 : Hid ((L.take (j + 1)).any (backB k t) = a2) := Lib.hid (by rw [HS2.out]; simp [backB, hm])
              have HR3 : Hid ((L.take (j + 1)).any (selfB k t nd) = a3) := Lib.hid (by rw [HS3.out]; simp [selfB, hm])
              clear HS1 HS2 HS3
              go_wp2_with fail
              go_roundw
              case rel => exact ⟨j + 1, by omega, by go_num, by rw [HR1.out], by rw [HR2.out], by rw [HR3.out], HI8⟩
              case measure => simp [intOf]; omega
            | true =>
              have HR1 : Hid ((L.take (j + 1)).any (mayN k t nd) = (a1 || x.node == nd)) := Lib.hid (by rw [HS1.out]; simp [mayN, hm])
              have HR2 : Hid ((L.take (j + 1)).any (backB k t) = (a2 || !x.prim)) := Lib.hid (by rw [HS2.out]; simp [backB, hm])
              have HR3 : Hid ((L.take (j + 1)).any (selfB k t nd) = (a3 || ((x.node == nd) && !x.prim))) := Lib.hid (by rw [HS3.out]; simp [selfB, hm])
              clear HS1 HS2 HS3 hm
              generalize x.node = xn at *
              generalize x.prim = xp at *
              by_cases hn : xn = nd
              · have dn : (xn == nd) = true := by rw [beq_iff_eq]; exact hn
                rw [dn] at HR1 HR3
                clear hn
                cases a1 <;> cases a2 <;> cases a3 <;> cases xp
                all_goals (go_wp2_with fail)
                all_goals go_roundw
                all_goals (first | (case rel => exact ⟨j + 1, by omega, by go_num, by rw [HR1.out]; rfl, by rw [HR2.out]; rfl, by rw [HR3.out]; rfl, HI8⟩) | skip)
                all_goals (simp [intOf]; omega)
              · have dn : (xn == nd) = false := by rw [beq_eq_false_iff_ne]; exact hn
                rw [dn] at HR1 HR3
                clear hn
                cases a1 <;> cases a2 <;> cases a3 <;> cases xp
                all_goals (go_wp2_with fail)
                all_goals go_roundw
                all_goals (first | (case rel => exact ⟨j + 1, by omega, by go_num, by rw [HR1.out]; rfl, by rw [HR2.out]; rfl, by rw [HR3.out]; rfl, HI8⟩) | skip)
                all_goals (simp [intOf]; omega)
          · obtain rfl : j = L.length := by omega
            rw [List.take_length]
            have Hg2 := Hg
            generalize L.any (mayN k t nd) = a1 at *
            generalize L.any (backB k t) = a2 at *
            generalize L.any (selfB k t nd) = a3 at *
            obtain ⟨rfl, hg2⟩ := Hg2.out
            cases a2 <;> cases a3
            case true.false => exact absurd (hg2 rfl) (by decide)
            all_goals clear hg2 Hg Hg2
            all_goals (go_wp2_with fail)
            all_goals go_roundw
            all_goals (first | (case rel => exact ⟨k + 1, by omega, by go_num, Lib.hid (bel_trans HW.out HI.out)⟩) | skip)
            all_goals (simp [intOf]; omega)
      · obtain rfl : k = out.length := by omega
        have de : (((out.length : Nat) : Int) == shards) = true := by rw [beq_iff_eq]; exact Hol.out
        go_wp2_with fail
        go_ret
        exact ⟨rfl, bel_trans HB1.out (bel_trans Hx6.out HW.out)⟩
end Go.Proofs.Ytgfegadklkecdaa
