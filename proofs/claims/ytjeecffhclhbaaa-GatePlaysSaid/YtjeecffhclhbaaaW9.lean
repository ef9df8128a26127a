/- Gates: GateApart (4). -/
import Derived.Test.YtjeecffhclhbaaaW8
import Derived.Deep.CutBlock
import Derived.Deep.DeepCutAuto
namespace Go.Proofs.Ytjeecffhclhbaaa
open Go.RowKit Go.Kt

/-- two gates in memory, apart -/
structure Pair (w0 wr : World) (g m h p : Nat) (G H : Gt) : Prop where
  gat : GateAt wr g m G
  hat : GateAt wr h p H
  gok : G.ok
  hok : H.ok
  bel : Below w0.heap.size w0 wr
  mge : w0.heap.size ≤ m
  pge : w0.heap.size ≤ p
  mp : m ≠ p
theorem GateAt.apart {w : World} {g m h p : Nat} {G H : Gt} (h1 : GateAt w g m G) (h2 : GateAt w h p H) : g ≠ p := by
  rintro rfl
  obtain ⟨D, ⟨es, clock, hb, _⟩, _⟩ := h2.2
  rw [h1.1] at hb
  cases hb
theorem Pair.next {w0 wr w' : World} {g m h p : Nat} {G H : Gt} (k : Pair w0 wr g m h p G H) (hb : Below wr.heap.size wr w') : Pair w0 w' g m h p G H :=
  ⟨k.gat.below hb, k.hat.below hb, k.gok, k.hok, bel_trans k.bel hb, k.mge, k.pge, k.mp⟩
/-- behind an Ask of the first gate -/
theorem Pair.ask1 {w0 wr w' : World} {g m h p : Nat} {G H : Gt} {s : ByteArray} {cost t : Int} (q : Pair w0 wr g m h p G H) (hG : GateAt w' g m (askF G s cost t).2) (hg : wr.grownBy w' (some m)) :
    Pair w0 w' g m h p (askF G s cost t).2 H :=
  ⟨hG, q.hat.grown hg (fun e => (q.hat.apart q.gat) (by injection e)) (fun e => q.mp (by injection e with e; exact e.symm)), askF_ok q.gok s cost t, q.hok, below_grown' q.bel hg q.mge, q.mge, q.pge, q.mp⟩
theorem Pair.ask2 {w0 wr w' : World} {g m h p : Nat} {G H : Gt} {s : ByteArray} {cost t : Int} (q : Pair w0 wr g m h p G H) (hG : GateAt w' h p (askF H s cost t).2) (hg : wr.grownBy w' (some p)) :
    Pair w0 w' g m h p G (askF H s cost t).2 :=
  ⟨q.gat.grown hg (fun e => (q.gat.apart q.hat) (by injection e)) (fun e => q.mp (by injection e)), hG, q.gok, askF_ok q.hok s cost t, below_grown' q.bel hg q.pge, q.mge, q.pge, q.mp⟩
theorem bytes_eq {a b : ByteArray} (h : a.toList = b.toList) : a = b := by
  rw [ByteArray.toList_eq, ByteArray.toList_eq] at h
  rcases a with ⟨⟨a⟩⟩
  rcases b with ⟨⟨b⟩⟩
  simp only at h
  rw [h]
theorem Blk.grown {w w' : World} {g : Nat} {cs : Array Value} {t : TypeId} (h : Blk w g cs t) {m : Nat} (hg : w.grownBy w' (some m)) (hne : g ≠ m) : Blk w' g cs t := (hg.block g h.lt (fun e => hne (by injection e))).trans h

set_option maxRecDepth 100000 in
set_option maxHeartbeats 4000000 in
theorem apart_any (b0 e0 : Int) (v : Value) (l : List OpS) (c : ByteArray) (w : World) (hv : RdOps w v l) (hc : c.size ≤ 9223372036854775807) :
    Calls Try.prog 4 #[.int .i64 b0, .int .i64 e0, v, .string c] w fun e w' => e = .returned (.bool true) ∧ Below w.heap.size w w' := by
  obtain ⟨x, hx0, hx1, hx⟩ := u64_mod b0 1000 (by omega) (by omega)
  obtain ⟨y, hy0, hy1, hy⟩ := u64_mod e0 50 (by omega) (by omega)
  obtain ⟨a, cap, rfl, hcap, hbig, hcell⟩ := hv.open
  have Hcell := Lib.hid hcell
  clear hcell hv
  go_enter Try.func4, Try.ntmps4
  go_wp2_with fail
  rw [hy]
  have Hf := Lib.hid ((fitsB_iff (1 + x) y 100).2 ⟨by omega, by omega, by omega, by omega, by omega, by omega⟩)
  refine (new_ok (1 + x) y 100 _ Hf.out).mono ?_
  rintro e w1 ⟨g, m, rfl, hG1, hg, hm, hb1⟩
  have HG1 := Lib.hid hG1
  have Hb1 := Lib.hid hb1
  have hm1 := hG1.2.lt
  clear hG1 hb1
  go_wp2_with fail
  refine (new_ok (1 + x) y 100 _ Hf.out).mono ?_
  rintro e w2 ⟨h, p, rfl, hG2, hh, hp, hb2⟩
  have Hb2 := Lib.hid (bel_trans Hb1.out hb2)
  have HP : Hid (Pair w w2 g m h p (newG (1 + x) y 100) (newG (1 + x) y 100)) := Lib.hid ⟨HG1.out.below hb2, hG2, newG_ok Hf.out, newG_ok Hf.out, bel_trans Hb1.out hb2, hm, by have := Hb1.out.size; omega, by omega⟩
  clear hG2 hb2 HG1 Hb1 Hb2
  go_wp2_with fail
  refine (awake_any _).mono ?_
  rintro e w3 ⟨rfl, hb3⟩
  have HP3 := Lib.hid (HP.out.next hb3)
  clear hb3 HP
  go_wp2_with fail
  go_loopw [13, 14, 15, 16, 50] (fun _ _ _ _ i wr => ∃ (k : Nat) (G H : Gt), k ≤ l.length ∧ k ≤ 60 ∧ i = .int .i64 k ∧ Hid (Pair w wr g m h p G H) ∧ Hid (Alike G H c k)) (fun _ _ _ _ i _ => l.length - (intOf i).toNat)
  case atStart => exact ⟨0, _, _, by omega, by omega, rfl, HP3, Lib.hid ⟨rfl, rfl, rfl, rfl, rfl, Nat.le_refl _, Nat.le_refl _⟩⟩
  case round =>
    obtain ⟨k, G, H, hk, hk60, rfl, HP, HA⟩ := hrel
    by_cases hlt : k < l.length
    · obtain ⟨z, hz⟩ : ∃ z, l[k]? = some z := ⟨l[k], List.getElem?_eq_getElem hlt⟩
      obtain ⟨zok, bb, o, rfl, c1, c2, c3⟩ := Hcell.out k z hz
      obtain ⟨z1, z2, z3, z4, z5⟩ := zok
      have lb := World.block_lt_of_cell? w _ c1
      have c1' : wr.cell? ⟨bb, o + k * 3, none⟩ = some (.string z.s) := (HP.out.bel.cell (p := ⟨bb, o + k * 3, none⟩) lb).trans c1
      have c2' : wr.cell? ⟨bb, o + k * 3 + 1, none⟩ = some (.int .i64 z.c) := (HP.out.bel.cell (p := ⟨bb, o + k * 3 + 1, none⟩) lb).trans c2
      have c3' : wr.cell? ⟨bb, o + k * 3 + 2, none⟩ = some (.int .i64 z.t) := (HP.out.bel.cell (p := ⟨bb, o + k * 3 + 2, none⟩) lb).trans c3
      clear c1 c2 c3 hz
      obtain ⟨s, co, ti⟩ := z
      simp only at *
      by_cases h60 : k < 60
      · go_wp2_with fail
        have hbx := HP.out.gat.2.lt
        have hbp := HP.out.hat.2.lt
        have HB0 := Lib.hid (Blk.new wr #[.string s, .int .i64 co, .int .i64 ti] 31)
        have HP0 := Lib.hid (HP.out.next (below_alloc wr (.cells #[.string s, .int .i64 co, .int .i64 ti] 31)))
        clear HP c1' c2' c3'
        generalize hgx : wr.heap.size = bx at *
        clear hgx
        refine (left_any g m G c ti _ HP0.out.gat HP0.out.gok hc).mono ?_
        rintro e w4 ⟨rfl, hb4⟩
        have HB4 := Lib.hid (HB0.out.next hb4)
        have HP4 := Lib.hid (HP0.out.next hb4)
        clear hb4 HP0 HB0
        have k0 : w4.cell? ⟨bx, 0, none⟩ = some (.string s) := HB4.out.cell 0
        have k1 : w4.cell? ⟨bx, 1, none⟩ = some (.int .i64 co) := HB4.out.cell 1
        have k2 : w4.cell? ⟨bx, 2, none⟩ = some (.int .i64 ti) := HB4.out.cell 2
        go_wp2_with fail
        refine (ask_any g m G s co ti _ HP4.out.gat HP4.out.gok z1 z2).mono ?_
        rintro e w5 ⟨rfl, hG5, hg5⟩
        have HB5 := Lib.hid (HB4.out.grown hg5 (by omega))
        have HP5 := Lib.hid (HP4.out.ask1 hG5 hg5)
        clear hG5 hg5 HP4 HB4 k0 k1 k2
        have k0 : w5.cell? ⟨bx, 0, none⟩ = some (.string s) := HB5.out.cell 0
        have k1 : w5.cell? ⟨bx, 1, none⟩ = some (.int .i64 co) := HB5.out.cell 1
        have k2 : w5.cell? ⟨bx, 2, none⟩ = some (.int .i64 ti) := HB5.out.cell 2
        by_cases hs : s = c
        · subst hs
          obtain ⟨hcode, hal⟩ := HA.out.same (by omega) co ti
          have HC := Lib.hid hcode
          have HA2 := Lib.hid hal
          have HN : Hid ((askF G s co ti).1 ≠ 0 → (askF G s co ti).2 = G) := Lib.hid askF_no
          clear hcode hal
          by_cases he : (askF G s co ti).1 = 0
          · have d0 : ((askF G s co ti).1 != 0) = false := by simpa using he
            go_wp2_with fail
            refine (ask_any h p H s co ti _ HP5.out.hat HP5.out.hok z1 z2).mono ?_
            rintro e w7 ⟨rfl, hG7, hg7⟩
            have HB7 := Lib.hid (HB5.out.grown hg7 (by omega))
            have HP7 := Lib.hid (HP5.out.ask2 hG7 hg7)
            clear hG7 hg7 HP5 HB5 k0 k1 k2
            rw [← HC.out, he]
            have hB7 := HB7.out
            have k2 : w7.cell? ⟨bx, 2, none⟩ = some (.int .i64 ti) := hB7.cell 2
            have HK : Hid (∀ X, Below w7.heap.size w7 X → X.cell? ⟨bx, 2, none⟩ = some (.int .i64 ti)) := Lib.hid (fun X hX => (hB7.next hX).cell 2)
            have HL : Hid (leftF (askF G s co ti).2 s ti = leftF (askF H s co ti).2 s ti) := Lib.hid (HA2.out.left ti)
            have hx0 := bel_refl w7
            clear hB7
            go_wp2_with fail
            go_region_held3 (fun w' => w'.cell? ⟨bx, 2, none⟩ = some (.int .i64 ti))
              (first | go_keep | (exact HK.out _ (by repeat (first | assumption | apply bel_alloc | apply bel_drew))))
              (first
                | (go_at_call 10; ((with_reducible refine (left_any g m (askF G s co ti).2 s ti _ ?_ HP7.out.gok hc).mono ?_)); (exact HP7.out.gat.below (by repeat (first | assumption | apply bel_alloc | apply bel_drew))); rintro e w8 ⟨rfl, hb⟩; have hw8 : Below w7.heap.size w7 w8 := bel_trans (by repeat (first | assumption | apply bel_alloc | apply bel_drew)) hb; clear hb)
                | (go_at_call 10; ((with_reducible refine (left_any h p (askF H s co ti).2 s ti _ ?_ HP7.out.hok hc).mono ?_)); (exact HP7.out.hat.below (by repeat (first | assumption | apply bel_alloc | apply bel_drew))); rintro e w9 ⟨rfl, hb⟩; rw [← HL.out]; have hw9 : Below w7.heap.size w7 w9 := bel_trans (by repeat (first | assumption | apply bel_alloc | apply bel_drew)) hb; clear hb))
            all_goals (go_wp2_with fail)
            all_goals go_roundw
            all_goals first
              | (case rel => exact ⟨k + 1, (askF G s co ti).2, (askF H s co ti).2, by omega, by omega, by go_num, Lib.hid (HP7.out.next (by repeat (first | assumption | apply bel_alloc | apply bel_drew))), HA2⟩)
              | (case measure => simp [intOf]; omega)
          · have d0 : ((askF G s co ti).1 != 0) = true := by simpa using he
            have HE := Lib.hid he
            clear he
            go_wp2_with fail
            refine (left_any g m (askF G s co ti).2 s ti _ HP5.out.gat HP5.out.gok hc).mono ?_
            rintro e w6 ⟨rfl, hb6⟩
            rw [HN.out HE.out]
            have HB6 := Lib.hid (HB5.out.next hb6)
            have HP6 := Lib.hid (HP5.out.next hb6)
            clear hb6 HP5 HB5 k0 k1 k2
            have k0 : w6.cell? ⟨bx, 0, none⟩ = some (.string s) := HB6.out.cell 0
            have k1 : w6.cell? ⟨bx, 1, none⟩ = some (.int .i64 co) := HB6.out.cell 1
            have k2 : w6.cell? ⟨bx, 2, none⟩ = some (.int .i64 ti) := HB6.out.cell 2
            go_wp2_with fail
            refine (ask_any h p H s co ti _ HP6.out.hat HP6.out.hok z1 z2).mono ?_
            rintro e w7 ⟨rfl, hG7, hg7⟩
            have HB7 := Lib.hid (HB6.out.grown hg7 (by omega))
            have HP7 := Lib.hid (HP6.out.ask2 hG7 hg7)
            clear hG7 hg7 HP6 HB6 k0 k1 k2
            rw [← HC.out]
            have hB7 := HB7.out
            have k2 : w7.cell? ⟨bx, 2, none⟩ = some (.int .i64 ti) := hB7.cell 2
            have HK : Hid (∀ X, Below w7.heap.size w7 X → X.cell? ⟨bx, 2, none⟩ = some (.int .i64 ti)) := Lib.hid (fun X hX => (hB7.next hX).cell 2)
            have HL : Hid (leftF (askF G s co ti).2 s ti = leftF (askF H s co ti).2 s ti) := Lib.hid (HA2.out.left ti)
            have hx0 := bel_refl w7
            clear hB7
            go_wp2_with fail
            go_region_held3 (fun w' => w'.cell? ⟨bx, 2, none⟩ = some (.int .i64 ti))
              (first | go_keep | (exact HK.out _ (by repeat (first | assumption | apply bel_alloc | apply bel_drew))))
              (first
                | (go_at_call 10; ((with_reducible refine (left_any g m (askF G s co ti).2 s ti _ ?_ HP7.out.gok hc).mono ?_)); (exact HP7.out.gat.below (by repeat (first | assumption | apply bel_alloc | apply bel_drew))); rintro e w8 ⟨rfl, hb⟩; have hw8 : Below w7.heap.size w7 w8 := bel_trans (by repeat (first | assumption | apply bel_alloc | apply bel_drew)) hb; clear hb)
                | (go_at_call 10; ((with_reducible refine (left_any h p (askF H s co ti).2 s ti _ ?_ HP7.out.hok hc).mono ?_)); (exact HP7.out.hat.below (by repeat (first | assumption | apply bel_alloc | apply bel_drew))); rintro e w9 ⟨rfl, hb⟩; rw [← HL.out]; have hw9 : Below w7.heap.size w7 w9 := bel_trans (by repeat (first | assumption | apply bel_alloc | apply bel_drew)) hb; clear hb))
            all_goals (go_wp2_with fail)
            all_goals go_roundw
            all_goals first
              | (case rel => exact ⟨k + 1, (askF G s co ti).2, (askF H s co ti).2, by omega, by omega, by go_num, Lib.hid (HP7.out.next (by repeat (first | assumption | apply bel_alloc | apply bel_drew))), HA2⟩)
              | (case measure => simp [intOf]; omega)
        · obtain ⟨hal, hle⟩ := HA.out.other hs co ti
          have hsl : ¬ s.toList = c.toList := fun e => hs (bytes_eq e)
          have HA2 := Lib.hid hal
          have HE := Lib.hid (hle ti)
          clear hal hle
          go_wp2_with fail
          refine (left_any g m (askF G s co ti).2 c ti _ HP5.out.gat HP5.out.gok hc).mono ?_
          rintro e w6 ⟨rfl, hb6⟩
          rw [HE.out]
          have HB6 := Lib.hid (HB5.out.next hb6)
          have HP6 := Lib.hid (HP5.out.next hb6)
          clear hb6 HP5 HB5 k0 k1 k2
          have k0 : w6.cell? ⟨bx, 0, none⟩ = some (.string s) := HB6.out.cell 0
          have k1 : w6.cell? ⟨bx, 1, none⟩ = some (.int .i64 co) := HB6.out.cell 1
          have k2 : w6.cell? ⟨bx, 2, none⟩ = some (.int .i64 ti) := HB6.out.cell 2
          have hB7 := HB6.out
          have k2 : w6.cell? ⟨bx, 2, none⟩ = some (.int .i64 ti) := hB7.cell 2
          have HK : Hid (∀ X, Below w6.heap.size w6 X → X.cell? ⟨bx, 2, none⟩ = some (.int .i64 ti)) := Lib.hid (fun X hX => (hB7.next hX).cell 2)
          have HL : Hid (leftF (askF G s co ti).2 c ti = leftF H c ti) := Lib.hid (HA2.out.left ti)
          have hx0 := bel_refl w6
          clear hB7 k2
          go_wp2_with fail
          go_region_held3 (fun w' => w'.cell? ⟨bx, 2, none⟩ = some (.int .i64 ti))
            (first | go_keep | (exact HK.out _ (by repeat (first | assumption | apply bel_alloc | apply bel_drew))))
            (first
              | (go_at_call 10; ((with_reducible refine (left_any g m (askF G s co ti).2 c ti _ ?_ HP6.out.gok hc).mono ?_)); (exact HP6.out.gat.below (by repeat (first | assumption | apply bel_alloc | apply bel_drew))); rintro e w8 ⟨rfl, hb⟩; have hw8 : Below w6.heap.size w6 w8 := bel_trans (by repeat (first | assumption | apply bel_alloc | apply bel_drew)) hb; clear hb)
              | (go_at_call 10; ((with_reducible refine (left_any h p H c ti _ ?_ HP6.out.hok hc).mono ?_)); (exact HP6.out.hat.below (by repeat (first | assumption | apply bel_alloc | apply bel_drew))); rintro e w9 ⟨rfl, hb⟩; rw [← HL.out]; have hw9 : Below w6.heap.size w6 w9 := bel_trans (by repeat (first | assumption | apply bel_alloc | apply bel_drew)) hb; clear hb))
          all_goals (go_wp2_with fail)
          all_goals go_roundw
          all_goals first
            | (case rel => exact ⟨k + 1, (askF G s co ti).2, H, by omega, by omega, by go_num, Lib.hid (HP6.out.next (by repeat (first | assumption | apply bel_alloc | apply bel_drew))), HA2⟩)
            | (case measure => simp [intOf]; omega)
      · go_wp2_with fail
        go_ret
        exact ⟨rfl, bel_alloc HP.out.bel⟩
    · go_wp2_with fail
      go_ret
      exact ⟨rfl, HP.out.bel⟩
end Go.Proofs.Ytjeecffhclhbaaa
