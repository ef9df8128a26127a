/- PostOrders (3). -/
import Derived.Test.YtjhjbgdekpegdaaW9
import Derived.IntWalk
namespace Go.Proofs.Ytjhjbgdekpegdaa
open Go.RowKit Go.Kt Go.Conc

/-- messages that came in: their cells, their bodies -/
def RdM (w : World) (v : Value) (l : List M) : Prop := ∃ ms : List (M × Value), ms.map (·.1) = l ∧ RdRow 3 w v ms.length (mcells ms) ∧ ∀ x ∈ ms, Rd8 w x.2 x.1.body
theorem RdM.below {w w' : World} {v : Value} {l : List M} (h : RdM w v l) (hb : Below w.heap.size w w') : RdM w' v l := by
  obtain ⟨ms, h1, h2, h3⟩ := h
  exact ⟨ms, h1, h2.below hb, fun x hx => (h3 x hx).below hb⟩
theorem RdM.open {w : World} {v : Value} {l : List M} (h : RdM w v l) : ∃ a cap, v = .slice a l.length cap ∧ l.length ≤ cap ∧ cap ≤ 9223372036854775807 ∧
    ∀ (i : Nat) (m : M), l[i]? = some m → ∃ b o bv, a = some ⟨b, o, none⟩ ∧ w.cell? ⟨b, o + i * 3, none⟩ = some (.int .i64 m.frm) ∧ w.cell? ⟨b, o + i * 3 + 1, none⟩ = some (.int .i64 m.dst) ∧ w.cell? ⟨b, o + i * 3 + 2, none⟩ = some bv ∧ Rd8 w bv m.body := by
  obtain ⟨ms, rfl, ⟨_, a, cap, rfl, h1, h2, _, h5⟩, h3⟩ := h
  rw [List.length_map]
  refine ⟨a, cap, rfl, h1, h2, fun i m hi => ?_⟩
  rw [List.getElem?_map] at hi
  obtain ⟨x, hx, rfl⟩ := Option.map_eq_some_iff.1 hi
  have c0 := mcells_get ms i 0 x hx (by omega)
  have c1 := mcells_get ms i 1 x hx (by omega)
  have c2 := mcells_get ms i 2 x hx (by omega)
  obtain ⟨b, o, rfl, g0⟩ := h5 _ _ c0
  obtain ⟨b', o', e, g1⟩ := h5 _ _ c1
  cases e
  obtain ⟨b', o', e, g2⟩ := h5 _ _ c2
  cases e
  exact ⟨b, o, x.2, rfl, g0, by rw [Nat.add_assoc]; exact g1, by rw [Nat.add_assoc]; exact g2, h3 x (List.mem_of_getElem? hx)⟩

set_option maxRecDepth 100000 in
set_option maxHeartbeats 4000000 in
theorem orders_any (v : Value) (l : List M) (w : World) (hv : RdM w v l) : Calls Try.prog 3 #[v] w fun e w' => e = .returned (.bool true) ∧ Below w.heap.size w w' := by
  obtain ⟨a, cap, rfl, hcap, hbig, hcell⟩ := hv.open
  have Hcell := Lib.hid hcell
  have Hv := Lib.hid hv
  clear hcell hv
  go_enter Try.func3, Try.ntmps3
  go_wp2_with fail
  refine (new_yes 4096 _ (by omega)).mono ?_
  intro e w1 h1
  obtain ⟨pb, rfl, hp1, hb1⟩ := h1
  have HP1 := Lib.hid hp1
  have HB1 := Lib.hid hb1
  clear hp1 hb1
  go_wp2_with fail
  refine (awake_any _).mono ?_
  rintro e w2 ⟨rfl, hb⟩
  have HB2 := Lib.hid (bel_trans HB1.out hb)
  have HP2 := Lib.hid (HP1.out.below hb)
  clear hb HP1 HB1
  by_cases hlen : 200 < l.length
  · have d : decide (200 < (l.length : Int)) = true := by simp only [decide_eq_true_eq]; omega
    go_wp2_with fail
    refine (awake_any _).mono ?_
    rintro e w3 ⟨rfl, hb⟩
    have HB3 := Lib.hid (bel_trans HB2.out hb)
    clear hb
    go_wp2_with fail
    go_ret
    exact ⟨rfl, HB3.out⟩
  · have d : decide (200 < (l.length : Int)) = false := by simp only [decide_eq_false_iff_not]; omega
    go_wp2_with fail
    go_loopw [6, 33] (fun _ iv wr => ∃ k : Nat, k ≤ l.length ∧ iv = .int .i64 k ∧ Hid (PostAt w.heap.size wr pb 4096 (l.take k)) ∧ Hid (Below w.heap.size w wr)) (fun _ iv _ => l.length - (intOf iv).toNat)
    case atStart => exact ⟨0, by omega, rfl, HP2, HB2⟩
    case round =>
      clear HP2 HB2
      obtain ⟨k, hk, rfl, HP, HB⟩ := hrel
      by_cases hlt : k < l.length
      · obtain ⟨m, hm⟩ : ∃ x, l[k]? = some x := ⟨l[k], List.getElem?_eq_getElem hlt⟩
        obtain ⟨b, o, bv, rfl, c0, c1, c2, hrd⟩ := Hcell.out k m hm
        have Htk : Hid (l.take k ++ [m] = l.take (k + 1)) := Lib.hid (by
          obtain ⟨hk', rfl⟩ := List.getElem?_eq_some_iff.1 hm
          rw [List.take_succ_eq_append_getElem hk'])
        have hbl := World.block_lt_of_cell? w _ c0
        have k0 : wr.cell? ⟨b, o + k * 3, none⟩ = some (.int .i64 m.frm) := (HB.out.cell (p := ⟨b, o + k * 3, none⟩) hbl).trans c0
        have k1 : wr.cell? ⟨b, o + k * 3 + 1, none⟩ = some (.int .i64 m.dst) := (HB.out.cell (p := ⟨b, o + k * 3 + 1, none⟩) hbl).trans c1
        have k2 : wr.cell? ⟨b, o + k * 3 + 2, none⟩ = some bv := (HB.out.cell (p := ⟨b, o + k * 3 + 2, none⟩) hbl).trans c2
        obtain ⟨ba, bcap, rfl, hb1, hb2, _⟩ := hrd.open
        have HR := Lib.hid (hrd.below HB.out)
        clear hm c0 c1 c2 hrd
        by_cases hlong : 3000 < m.body.length
        · have d3 : decide (3000 < (m.body.length : Int)) = true := by simp only [decide_eq_true_eq]; omega
          go_wp2_with fail
          go_ret
          exact ⟨rfl, bel_alloc HB.out⟩
        · have d3 : decide (3000 < (m.body.length : Int)) = false := by simp only [decide_eq_false_iff_not]; omega
          go_wp2_with fail
          refine (send_ok w.heap.size pb 4096 (l.take k) m _ _ (HP.out.below (below_alloc wr _)) (Nat.le_trans HB.out.size (below_alloc wr _).size) (HR.out.below (below_alloc wr _)) (by omega) (by rw [List.length_take]; omega)).mono ?_
          rintro e w3 ⟨rfl, hp3, _, hb3⟩
          have HP3 : Hid (PostAt w.heap.size w3 pb 4096 (l.take (k + 1))) := Lib.hid (by rw [← Htk.out]; exact hp3)
          have HB3 := Lib.hid ((bel_alloc HB.out).trans hb3)
          clear hp3 hb3
          go_wp2_with fail
          go_roundw
          case rel => exact ⟨k + 1, by omega, by go_num, HP3, HB3⟩
          case measure => simp [intOf]; omega
      · obtain rfl : k = l.length := by omega
        rw [List.take_length] at HP
        go_wp2_with fail
        go_loopw [7, 8, 9, 10, 54] (fun _ _ _ _ iv wr => ∃ k : Nat, k ≤ l.length ∧ iv = .int .i64 k ∧ Hid (PostAt w.heap.size wr pb 4096 (l.drop k)) ∧ Hid (Below w.heap.size w wr)) (fun _ _ _ _ iv _ => l.length - (intOf iv).toNat)
        case atStart => exact ⟨0, by omega, rfl, HP, HB⟩
        case round =>
          clear HP HB
          obtain ⟨k, hk, rfl, HP, HB⟩ := hrel
          by_cases hlt : k < l.length
          · obtain ⟨m, hm⟩ : ∃ x, l[k]? = some x := ⟨l[k], List.getElem?_eq_getElem hlt⟩
            obtain ⟨b, o, bv, rfl, c0, c1, c2, hrd⟩ := Hcell.out k m hm
            have Htk : Hid ((l.drop k)[0]? = some m) := Lib.hid (by rw [List.getElem?_drop]; simpa using hm)
            have Hdr : Hid ((l.drop k).eraseIdx 0 = l.drop (k + 1)) := Lib.hid (by rw [List.eraseIdx_zero, List.tail_drop])
            have hbl := World.block_lt_of_cell? w _ c0
            have k0 : wr.cell? ⟨b, o + k * 3, none⟩ = some (.int .i64 m.frm) := (HB.out.cell (p := ⟨b, o + k * 3, none⟩) hbl).trans c0
            have k1 : wr.cell? ⟨b, o + k * 3 + 1, none⟩ = some (.int .i64 m.dst) := (HB.out.cell (p := ⟨b, o + k * 3 + 1, none⟩) hbl).trans c1
            have k2 : wr.cell? ⟨b, o + k * 3 + 2, none⟩ = some bv := (HB.out.cell (p := ⟨b, o + k * 3 + 2, none⟩) hbl).trans c2
            obtain ⟨ba, bcap, rfl, hb1, hb2, _⟩ := hrd.open
            have HR := Lib.hid hrd
            have HX := Lib.hid (Blk.new wr #[.int .i64 m.frm, .int .i64 m.dst, .slice ba m.body.length bcap] 30)
            clear hm c0 c1 c2 hrd
            go_wp2_with fail
            refine (take_yes w.heap.size pb 4096 (l.drop k) 0 m _ (HP.out.below (below_alloc wr _)) (Nat.le_trans HB.out.size (below_alloc wr _).size) Htk.out).mono ?_
            intro e w4 h4
            obtain ⟨tv, rfl, htv, hp4, hc4, hb4⟩ := h4
            obtain ⟨ta, tcap, rfl, _⟩ := htv.rd.open
            have HX9 := Lib.hid (Blk.new w4 #[.int .i64 m.frm, .int .i64 m.dst, .slice ta m.body.length tcap] 32)
            have HX8 := Lib.hid (Go.Kt.Blk.next (Blk.calm HX.out hc4 (by decide) (by decide)) (below_alloc w4 (.cells #[.int .i64 m.frm, .int .i64 m.dst, .slice ta m.body.length tcap] 32)))
            have HB5 := Lib.hid (bel_alloc (o := .cells #[.int .i64 m.frm, .int .i64 m.dst, .slice ta m.body.length tcap] 32) ((bel_alloc HB.out).trans hb4))
            have HT5 := Lib.hid (htv.rd.below (below_alloc w4 (.cells #[.int .i64 m.frm, .int .i64 m.dst, .slice ta m.body.length tcap] 32)))
            have HP5 : Hid (PostAt w.heap.size (w4.alloc (.cells #[.int .i64 m.frm, .int .i64 m.dst, .slice ta m.body.length tcap] 32)) pb 4096 (l.drop (k + 1))) := Lib.hid (by rw [← Hdr.out]; exact hp4.below (below_alloc w4 _))
            clear htv hp4 hc4 hb4 HP HB k0 k1 k2
            go_wp2_with fail
            generalize hx5 : (w4.alloc (.cells #[.int .i64 m.frm, .int .i64 m.dst, .slice ta m.body.length tcap] 32)) = x5 at *
            clear hx5
            have HR5 := Lib.hid (HR.out.below HB5.out)
            have hx5 := bel_refl x5
            have h9l := HX9.out.lt
            have h8l := HX8.out.lt
            have HK : Hid (∀ w', Below x5.heap.size x5 w' → w'.cell? ⟨w4.heap.size, 0, none⟩ = some (.int .i64 m.frm) ∧ w'.cell? ⟨w4.heap.size, 1, none⟩ = some (.int .i64 m.dst) ∧ w'.cell? ⟨w4.heap.size, 2, none⟩ = some (.slice ta m.body.length tcap) ∧ w'.cell? ⟨wr.heap.size, 0, none⟩ = some (.int .i64 m.frm) ∧ w'.cell? ⟨wr.heap.size, 1, none⟩ = some (.int .i64 m.dst) ∧ w'.cell? ⟨wr.heap.size, 2, none⟩ = some (.slice ba m.body.length bcap)) := Lib.hid (fun w' h => by
              have q := HX9.out.next h
              have r := HX8.out.next h
              exact ⟨q.cell 0, q.cell 1, q.cell 2, r.cell 0, r.cell 1, r.cell 2⟩)
            obtain ⟨e0, e1, e2, e3, e4, e5⟩ := HK.out x5 hx5
            have HL : Hid (∀ W, Below x5.heap.size x5 W → Calls Try.prog 13 #[.pointer (some ⟨pb, 0, none⟩)] W fun e w' => e = .returned (.int .i64 (l.length - 1 - k)) ∧ W = w') := Lib.hid (fun W hW => by
              have := len_any w.heap.size pb 4096 _ W (HP5.out.below hW)
              rw [List.length_drop, show ((l.length - (k + 1) : Nat) : Int) = (l.length : Int) - 1 - k by omega] at this
              exact this)
            have hw1 : IntKind.i64.wrap ((l.length : Int) - 1) = (l.length : Int) - 1 := IntWalk.i64_in _ (by omega)
            have hw2 : IntKind.i64.wrap ((l.length : Int) - 1 - (k : Int)) = (l.length : Int) - 1 - (k : Int) := IntWalk.i64_in _ (by omega)
            go_region_held3 (fun w' => w'.cell? ⟨w4.heap.size, 0, none⟩ = some (.int .i64 m.frm) ∧ w'.cell? ⟨w4.heap.size, 1, none⟩ = some (.int .i64 m.dst) ∧ w'.cell? ⟨w4.heap.size, 2, none⟩ = some (.slice ta m.body.length tcap) ∧ w'.cell? ⟨wr.heap.size, 0, none⟩ = some (.int .i64 m.frm) ∧ w'.cell? ⟨wr.heap.size, 1, none⟩ = some (.int .i64 m.dst) ∧ w'.cell? ⟨wr.heap.size, 2, none⟩ = some (.slice ba m.body.length bcap))
              (first | go_keep | (exact HK.out _ (by repeat (first | assumption | apply bel_alloc | apply bel_drew))))
              (first
                | (go_at_call 12; refine (from_any m.frm m.dst ta m.body.length tcap _).mono ?_; rintro e w6 ⟨rfl, hb6⟩; have hx6 : Below x5.heap.size x5 w6 := bel_trans (by repeat (first | assumption | apply bel_alloc | apply bel_drew)) hb6; clear hb6)
                | (go_at_call 11; refine (same_yes m.frm m.dst m.body _ _ _ (HT5.out.below (by repeat (first | assumption | apply bel_alloc | apply bel_drew))) (HR5.out.below (by repeat (first | assumption | apply bel_alloc | apply bel_drew)))).mono ?_; rintro e w7 ⟨rfl, hb7⟩; have hx7 : Below x5.heap.size x5 w7 := bel_trans (by repeat (first | assumption | apply bel_alloc | apply bel_drew)) hb7; clear hb7)
                | (go_at_call 13; refine (HL.out _ (by repeat (first | assumption | apply bel_alloc | apply bel_drew))).mono ?_; rintro e w8 ⟨rfl, rfl⟩))
            all_goals clear hw1 hw2
            all_goals (go_wp2_with fail)
            all_goals go_roundw
            all_goals (first
              | (case rel => exact ⟨k + 1, by omega, by go_num, Lib.hid (HP5.out.below (by repeat (first | assumption | apply bel_alloc | apply bel_drew))), Lib.hid (bel_trans HB5.out (by repeat (first | assumption | apply bel_alloc | apply bel_drew)))⟩)
              | skip)
            all_goals (simp [intOf]; omega)
          · obtain rfl : k = l.length := by omega
            rw [List.drop_length] at HP
            go_wp2_with fail
            refine (len_any w.heap.size pb 4096 _ _ HP.out).mono ?_
            rintro e w8 ⟨rfl, rfl⟩
            go_wp2_with fail
            go_ret
            exact ⟨rfl, HB.out⟩
end Go.Proofs.Ytjhjbgdekpegdaa
