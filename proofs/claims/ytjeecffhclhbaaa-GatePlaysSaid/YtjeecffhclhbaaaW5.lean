/- Gates: the contracts of New (7) and Ask (9). -/
import Derived.Test.YtjeecffhclhbaaaW4
namespace Go.Proofs.Ytjeecffhclhbaaa
open Go.RowKit Go.Kt

def fitsB (b e r : Int) : Bool := decide (1 ≤ b) && decide (b ≤ 1099511627776) && decide (0 ≤ e) && decide (e ≤ 1099511627776) && decide (1 ≤ r) && decide (r ≤ 65536)
theorem fitsB_iff (b e r : Int) : fitsB b e r = true ↔ 1 ≤ b ∧ b ≤ 1099511627776 ∧ 0 ≤ e ∧ e ≤ 1099511627776 ∧ 1 ≤ r ∧ r ≤ 65536 := by
  simp [fitsB, and_assoc]
def newG (b e r : Int) : Gt := ⟨b, e, r, fun _ => none, 0⟩
theorem newG_ok {b e r : Int} (h : fitsB b e r = true) : (newG b e r).ok := by
  obtain ⟨h1, h2, h3, h4, h5, h6⟩ := (fitsB_iff _ _ _).1 h
  exact ⟨h1, h2, h3, h4, h5, h6, by simp only [newG]; omega, fun k b h => by cases h⟩

set_option maxHeartbeats 1000000 in
theorem new_ok (b e r : Int) (w : World) (h : fitsB b e r = true) :
    Calls Try.prog 7 #[.int .i64 b, .int .i64 e, .int .i64 r] w fun en w' => ∃ g m, en = .returned (.tuple #[.pointer (some ⟨g, 0, none⟩), .int .i64 0]) ∧ GateAt w' g m (newG b e r) ∧ w.heap.size ≤ g ∧ w.heap.size ≤ m ∧ Below w.heap.size w w' := by
  obtain ⟨h1, h2, h3, h4, h5, h6⟩ := (fitsB_iff _ _ _).1 h
  clear h
  have hmm := @run_makeMap Try.prog
  go_enter Try.func7, Try.ntmps7
  go_wp2_with fail
  go_ret2
  refine ⟨w.heap.size + 1, w.heap.size, rfl, ⟨?_, ?_⟩, ?_, ?_, ?_⟩
  · have := heap_alloc_new (w.alloc (.map #[] 0)) (.cells #[.int .i64 b, .int .i64 e, .int .i64 r, .map (some w.heap.size)] 51)
    rw [World.size_alloc] at this
    exact this
  · exact (MapIs.made w Try.prog 9).alloc _
  · simp
  · simp
  · exact bel_alloc (bel_alloc (bel_refl _))
set_option maxHeartbeats 1000000 in
theorem new_no (b e r : Int) (w : World) (h : fitsB b e r = false) :
    Calls Try.prog 7 #[.int .i64 b, .int .i64 e, .int .i64 r] w fun en w' => en = .returned (.tuple #[.pointer none, .int .i64 1]) ∧ w = w' := by
  have hn : ¬ (1 ≤ b ∧ b ≤ 1099511627776 ∧ 0 ≤ e ∧ e ≤ 1099511627776 ∧ 1 ≤ r ∧ r ≤ 65536) := fun h' => by rw [(fitsB_iff _ _ _).2 h'] at h; cases h
  have Hn := Lib.hid hn
  clear h hn
  by_cases h1 : b < 1
  · go_enter Try.func7, Try.ntmps7; go_wp2_with fail; go_ret2; exact ⟨rfl, rfl⟩
  by_cases h2 : 1099511627776 < b
  · have d1 : decide (b < 1) = false := by simpa using h1
    go_enter Try.func7, Try.ntmps7; go_wp2_with fail; go_ret2; exact ⟨rfl, rfl⟩
  by_cases h3 : e < 0
  · have d1 : decide (b < 1) = false := by simpa using h1
    have d2 : decide (1099511627776 < b) = false := by simpa using h2
    go_enter Try.func7, Try.ntmps7; go_wp2_with fail; go_ret2; exact ⟨rfl, rfl⟩
  by_cases h4 : 1099511627776 < e
  · have d1 : decide (b < 1) = false := by simpa using h1
    have d2 : decide (1099511627776 < b) = false := by simpa using h2
    have d3 : decide (e < 0) = false := by simpa using h3
    go_enter Try.func7, Try.ntmps7; go_wp2_with fail; go_ret2; exact ⟨rfl, rfl⟩
  by_cases h5 : r < 1
  · have d1 : decide (b < 1) = false := by simpa using h1
    have d2 : decide (1099511627776 < b) = false := by simpa using h2
    have d3 : decide (e < 0) = false := by simpa using h3
    have d4 : decide (1099511627776 < e) = false := by simpa using h4
    go_enter Try.func7, Try.ntmps7; go_wp2_with fail; go_ret2; exact ⟨rfl, rfl⟩
  · have h6 : 65536 < r := by have := Hn.out; omega
    have d1 : decide (b < 1) = false := by simpa using h1
    have d2 : decide (1099511627776 < b) = false := by simpa using h2
    have d3 : decide (e < 0) = false := by simpa using h3
    have d4 : decide (1099511627776 < e) = false := by simpa using h4
    have d5 : decide (r < 1) = false := by simpa using h5
    go_enter Try.func7, Try.ntmps7; go_wp2_with fail; go_ret2; exact ⟨rfl, rfl⟩

def Asks (g m : Nat) (G : Gt) (s : ByteArray) (cost t : Int) (w : World) (e : Ending) (w' : World) : Prop :=
  e = .returned (.int .i64 (askF G s cost t).1) ∧ GateAt w' g m (askF G s cost t).2 ∧ w.grownBy w' (some m)
theorem grown_below {w w' : World} (hb : Below w.heap.size w w') (row : Option Nat) : w.grownBy w' row := ⟨hb.os, hb.tape, hb.output, hb.size, fun i hi _ => hb.block i hi⟩
theorem asks_of {g m : Nat} {G G' : Gt} {s : ByteArray} {cost t c : Int} {w w' : World} (h : askF G s cost t = (c, G')) (hG : GateAt w' g m G') (hb : w.grownBy w' (some m)) : Asks g m G s cost t w (.returned (.int .i64 c)) w' := by
  refine ⟨?_, ?_, hb⟩
  · rw [h]
  · rw [h]; exact hG

theorem findF_ok (G : Gt) (h : G.ok) (s : ByteArray) (t : Int) (h5 : 0 ≤ t) (h6 : t ≤ 4611686018427387904) :
    0 ≤ (findF G s t).1 ∧ (findF G s t).1 ≤ G.burst ∧ 0 ≤ (findF G s t).2 ∧ (findF G s t).2 ≤ 4611686018427387904 := by
  have hb := h.b1
  unfold findF
  split
  · exact ⟨by omega, Int.le_refl _, h5, h6⟩
  · rename_i b hf
    obtain ⟨q1, q2, q3, q4⟩ := h.has _ b hf
    exact fillF_ok G h b t q1 q2 q3 q4 h5 h6
theorem asks_put {g m : Nat} {G : Gt} {s : ByteArray} {cost t : Int} {x : Int × Int} {w X w4 : World} (hf : askF G s cost t = (0, asked G s cost t)) (hx : findF G s t = x) (hX : GateAt X g m G) (hb : Below w.heap.size w X)
    (hm : MapIs Try.prog 9 w4 m (upd (fun k => (G.f k).map bkt) (kl s) (bkt (x.1 - cost, x.2))) (if ((G.f (kl s)).map bkt).isSome then G.n else G.n + 1)) (hg : X.drew.grownBy w4 (some m)) :
    Asks g m G s cost t w (.returned (.int .i64 0)) w4 := by
  have hne := hX.ne
  refine asks_of hf ⟨(hg.block g hX.lt (fun h => hne (by injection h))).trans hX.1, ?_⟩ ⟨hg.os.trans hb.os, hg.tape.trans hb.tape, hg.output.trans hb.output, Nat.le_trans hb.size hg.size, fun i hi h => (hg.block i (Nat.lt_of_lt_of_le hi hb.size) h).trans (hb.block i hi)⟩
  unfold asked
  rw [hx]
  rw [upd_setF] at hm
  simp only [Option.isSome_map] at hm
  exact hm

theorem ask_nil (s : ByteArray) (cost t : Int) (w : World) : Calls Try.prog 9 #[.pointer none, .string s, .int .i64 cost, .int .i64 t] w fun e w' => e = .returned (.int .i64 2) ∧ w = w' := by
  go_enter Try.func9, Try.ntmps9
  go_wp2_with fail
  go_ret
  exact ⟨rfl, rfl⟩

set_option maxHeartbeats 1000000 in
theorem ask_any (g m : Nat) (G : Gt) (s : ByteArray) (cost t : Int) (w : World) (hG : GateAt w g m G) (hok : G.ok) (hs : s.size ≤ 9223372036854775807) (hcl : -9223372036854775808 ≤ cost) :
    Calls Try.prog 9 #[.pointer (some ⟨g, 0, none⟩), .string s, .int .i64 cost, .int .i64 t] w (Asks g m G s cost t w) := by
  have HG := Lib.hid hG
  have Hok := Lib.hid hok
  obtain ⟨c0, c1, c2, c3⟩ := hG.cell
  have hg := hG.lt
  clear hG
  obtain ⟨o1, o2, o3, o4, o5, o6, o7, o8⟩ := hok
  clear o8
  cases hr : rightB s t with
  | false =>
    have HF : Hid (askF G s cost t = (1, G)) := Lib.hid (by unfold askF; rw [if_pos (.inl hr)])
    have Hr := Lib.hid hr
    clear hr
    go_enter Try.func9, Try.ntmps9
    go_wp2_with (go_at_call 16; refine (right_any s t _ hs).mono ?_; rw [Hr.out]; rintro e w1 ⟨rfl, rfl⟩)
    go_ret
    exact asks_of HF.out HG.out (grown_below (bel_refl _) _)
  | true =>
    obtain ⟨t1, t2⟩ := rightB_t hr
    have Hr := Lib.hid hr
    clear hr
    by_cases h1 : cost < 1
    · have HF : Hid (askF G s cost t = (1, G)) := Lib.hid (by unfold askF; rw [if_pos (.inr h1)])
      go_enter Try.func9, Try.ntmps9
      go_wp2_with (go_at_call 16; refine (right_any s t _ hs).mono ?_; rw [Hr.out]; rintro e w1 ⟨rfl, rfl⟩)
      go_ret
      exact asks_of HF.out HG.out (grown_below (bel_refl _) _)
    have HA : Hid (¬ (rightB s t = false ∨ cost < 1)) := Lib.hid (fun h => h.elim (fun h => by rw [Hr.out] at h; cases h) h1)
    by_cases h2 : G.burst < cost
    · have HF : Hid (askF G s cost t = (8, G)) := Lib.hid (by unfold askF; rw [if_neg HA.out, if_pos h2])
      go_enter Try.func9, Try.ntmps9
      go_wp2_with (go_at_call 16; refine (right_any s t _ hs).mono ?_; rw [Hr.out]; rintro e w1 ⟨rfl, rfl⟩)
      go_ret
      exact asks_of HF.out HG.out (grown_below (bel_refl _) _)
    have HB : Hid (¬ G.burst < cost) := Lib.hid h2
    go_enter Try.func9, Try.ntmps9
    go_wp2_with (first
      | (go_at_call 16; refine (right_any s t _ hs).mono ?_; rw [Hr.out]; rintro e w1 ⟨rfl, rfl⟩)
      | (go_at_call 17; refine (find_any g m G s t _ HG.out Hok.out hs t1 t2).mono ?_; rintro e w2 ⟨rfl, hb⟩; have Hb := Lib.hid hb; clear hb))
    have hG2 : GateAt w2 g m G := HG.out.below Hb.out
    have HG2 := Lib.hid hG2
    have c0' := hG2.cell.1
    have c2' := hG2.cell.2.2.1
    have c3' := hG2.cell.2.2.2
    have hg2 := hG2.lt
    have hn2 : ∀ (o : Obj) (k : Nat), (Builtin.len_ #[49] 3 #[.map (some m)]).run Try.prog ((w2.alloc o).drewN k) = .ok (.int .i64 (G.n : Int)) ((w2.alloc o).drewN k) := fun o k => ((hG2.2.alloc o).drewN k).len Try.underlying49 3
    obtain ⟨r1, r2, r3, r4⟩ : 0 ≤ (findF G s t).1 ∧ (findF G s t).1 ≤ G.burst ∧ 0 ≤ (findF G s t).2 ∧ (findF G s t).2 ≤ 4611686018427387904 := findF_ok G Hok.out s t t1 t2
    clear hG2 c0 c1 c2 c3
    cases hq : (G.f (kl s)).isSome with
    | true =>
      have HQ := Lib.hid hq
      clear hq
      generalize hx : findF G s t = x at *
      have HX := Lib.hid hx
      clear hx
      go_quiet (fail)
      go_wp2_with fail
      · rename_i hlt
        have HF : Hid (askF G s cost t = (4, G)) := Lib.hid (by unfold askF; rw [if_neg HA.out, if_neg (by have := HB.out; omega), if_neg (fun h => by rw [HQ.out] at h; cases h.1), if_pos (by rw [HX.out]; omega)])
        go_ret
        refine asks_of HF.out (HG2.out.below ?_) (grown_below (bel_trans Hb.out ?_) _)
        all_goals (repeat (first | exact bel_refl _ | assumption | apply bel_alloc | apply bel_drew | apply bel_drewN | (refine bel_set ?_ (by simp))))
      · rename_i hlt
        have HF : Hid (askF G s cost t = (0, asked G s cost t)) := Lib.hid (by unfold askF; rw [if_neg HA.out, if_neg (by have := HB.out; omega), if_neg (fun h => by rw [HQ.out] at h; cases h.1), if_neg (by rw [HX.out]; omega)])
        have hbX : Below w2.heap.size w2 (((w2.alloc (Obj.cells #[Value.int IntKind.i64 x.fst, Value.int IntKind.i64 x.snd] 53)).drewN nq).setCell ⟨w2.heap.size, 0, none⟩ (Value.int IntKind.i64 (x.fst - cost))) := by
          repeat (first | exact bel_refl _ | assumption | apply bel_alloc | apply bel_drew | apply bel_drewN | (refine bel_set ?_ (by simp)))
        have x0 : (((w2.alloc (Obj.cells #[Value.int IntKind.i64 x.fst, Value.int IntKind.i64 x.snd] 53)).drewN nq).setCell ⟨w2.heap.size, 0, none⟩ (Value.int IntKind.i64 (x.fst - cost))).cell? ⟨w2.heap.size, 0, none⟩ = some (.int .i64 (x.1 - cost)) := by simp [go_sem]
        have x1 : (((w2.alloc (Obj.cells #[Value.int IntKind.i64 x.fst, Value.int IntKind.i64 x.snd] 53)).drewN nq).setCell ⟨w2.heap.size, 0, none⟩ (Value.int IntKind.i64 (x.fst - cost))).cell? ⟨w2.heap.size, 1, none⟩ = some (.int .i64 x.2) := by simp [go_sem]
        generalize (((w2.alloc (Obj.cells #[Value.int IntKind.i64 x.fst, Value.int IntKind.i64 x.snd] 53)).drewN nq).setCell ⟨w2.heap.size, 0, none⟩ (Value.int IntKind.i64 (x.fst - cost))) = X at *
        have hX : GateAt X g m G := HG2.out.below hbX
        have cX := hX.cell.2.2.2
        obtain ⟨w4, hrun, hm4, hgr⟩ := hX.2.drew.put key9 Try.underlying49 (by unfold maxLen; omega) (bkt (x.1 - cost, x.2)) (keyOf9 s hs) trivial
        have Hm4 := Lib.hid hm4
        have Hgr := Lib.hid hgr
        have HX2 := Lib.hid hX
        have HbX := Lib.hid hbX
        clear c0' c2' c3' hn2 hm4 hgr hX hbX
        unfold bkt at hrun
        go_region
        all_goals (go_wp2_with fail)
        all_goals go_ret
        all_goals exact asks_put HF.out HX.out HX2.out (bel_trans Hb.out HbX.out) Hm4.out Hgr.out
    | false =>
      have HQ0 := Lib.hid hq
      by_cases hroom : G.room ≤ (G.n : Int)
      · have dr : decide (G.room ≤ (G.n : Int)) = true := by simpa using hroom
        have HF : Hid (askF G s cost t = (4, G)) := Lib.hid (by unfold askF; rw [if_neg HA.out, if_neg (by have := HB.out; omega), if_pos ⟨hq, hroom⟩])
        clear hq
        generalize hx : findF G s t = x at *
        clear hx
        go_quiet (fail)
        go_wp2_with fail
        go_ret
        refine asks_of HF.out (HG2.out.below ?_) (grown_below (bel_trans Hb.out ?_) _)
        all_goals (repeat (first | exact bel_refl _ | assumption | apply bel_alloc | apply bel_drew | apply bel_drewN | (refine bel_set ?_ (by simp))))
      have HR := Lib.hid hroom
      have HQ := Lib.hid hq
      clear hq
      generalize hx : findF G s t = x at *
      have HX := Lib.hid hx
      clear hx
      have dr : decide (G.room ≤ (G.n : Int)) = false := by simpa using hroom
      go_quiet (fail)
      go_wp2_with fail
      · rename_i hlt
        have HF : Hid (askF G s cost t = (4, G)) := Lib.hid (by unfold askF; rw [if_neg HA.out, if_neg (by have := HB.out; omega), if_neg (fun h => by have := HR.out; have := h.2; omega), if_pos (by rw [HX.out]; omega)])
        go_ret
        refine asks_of HF.out (HG2.out.below ?_) (grown_below (bel_trans Hb.out ?_) _)
        all_goals (repeat (first | exact bel_refl _ | assumption | apply bel_alloc | apply bel_drew | apply bel_drewN | (refine bel_set ?_ (by simp))))
      · rename_i hlt
        have HF : Hid (askF G s cost t = (0, asked G s cost t)) := Lib.hid (by unfold askF; rw [if_neg HA.out, if_neg (by have := HB.out; omega), if_neg (fun h => by have := HR.out; have := h.2; omega), if_neg (by rw [HX.out]; omega)])
        have hbX : Below w2.heap.size w2 (((w2.alloc (Obj.cells #[Value.int IntKind.i64 x.fst, Value.int IntKind.i64 x.snd] 53)).drewN nq).setCell ⟨w2.heap.size, 0, none⟩ (Value.int IntKind.i64 (x.fst - cost))) := by
          repeat (first | exact bel_refl _ | assumption | apply bel_alloc | apply bel_drew | apply bel_drewN | (refine bel_set ?_ (by simp)))
        have x0 : (((w2.alloc (Obj.cells #[Value.int IntKind.i64 x.fst, Value.int IntKind.i64 x.snd] 53)).drewN nq).setCell ⟨w2.heap.size, 0, none⟩ (Value.int IntKind.i64 (x.fst - cost))).cell? ⟨w2.heap.size, 0, none⟩ = some (.int .i64 (x.1 - cost)) := by simp [go_sem]
        have x1 : (((w2.alloc (Obj.cells #[Value.int IntKind.i64 x.fst, Value.int IntKind.i64 x.snd] 53)).drewN nq).setCell ⟨w2.heap.size, 0, none⟩ (Value.int IntKind.i64 (x.fst - cost))).cell? ⟨w2.heap.size, 1, none⟩ = some (.int .i64 x.2) := by simp [go_sem]
        generalize (((w2.alloc (Obj.cells #[Value.int IntKind.i64 x.fst, Value.int IntKind.i64 x.snd] 53)).drewN nq).setCell ⟨w2.heap.size, 0, none⟩ (Value.int IntKind.i64 (x.fst - cost))) = X at *
        have hX : GateAt X g m G := HG2.out.below hbX
        have cX := hX.cell.2.2.2
        obtain ⟨w4, hrun, hm4, hgr⟩ := hX.2.drew.put key9 Try.underlying49 (by unfold maxLen; omega) (bkt (x.1 - cost, x.2)) (keyOf9 s hs) trivial
        have Hm4 := Lib.hid hm4
        have Hgr := Lib.hid hgr
        have HX2 := Lib.hid hX
        have HbX := Lib.hid hbX
        clear c0' c2' c3' hn2 hm4 hgr hX hbX
        unfold bkt at hrun
        go_region
        all_goals (go_wp2_with fail)
        all_goals go_ret
        all_goals exact asks_put HF.out HX.out HX2.out (bel_trans Hb.out HbX.out) Hm4.out Hgr.out
end Go.Proofs.Ytjeecffhclhbaaa
