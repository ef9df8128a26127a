/- Seats: route.Pick (6), where the arguments may be. -/
import Derived.Test.YtgfegadklkecdaaW7
namespace Go.Proofs.Ytgfegadklkecdaa
open Go.RowKit Go.Kt

theorem picks_err (l : List Seat) (t : St) (n : Nat) (e : Int) (h : picks l t n = .inl e) : ∀ m, n ≤ m → picks l t m = .inl e := by
  intro m hm
  induction m with
  | zero => have : n = 0 := by omega
            subst this; exact h
  | succ m ih =>
    by_cases hn : n = m + 1
    · rw [← hn]; exact h
    · unfold picks; rw [ih (by omega)]
theorem loadN_snoc (l : List Seat) (out : List Int) (nd : Int) : loadN l (out ++ [nd]) = fun y => bump y (loadN l out y) nd := by
  funext y
  unfold loadN
  rw [List.foldl_append]
  rfl
def noSeat : Array Value := #[.int .i64 0, .int .i64 (-1), .bool false, .bool false, .int .i64 0, .int .u32 0, .int .u32 0, .int .i64 0, .int .u32 0, .int .u32 0, .bool false, .int .i64 0]
def bestC : Option Seat → Array Value
  | none => noSeat
  | some x => #[.int .i64 x.shard, .int .i64 x.node, .bool x.up, .bool x.prim, .int .i64 x.closed.wall, .int .u32 x.closed.tick, .int .u32 x.closed.mark, .int .i64 x.safe.wall, .int .u32 x.safe.tick, .int .u32 x.safe.mark, .bool x.held, .int .i64 x.load]
/-- what the walk over the shards keeps -/
structure Bnch (w0 wr : World) (mb n : Nat) (t : St) (ld : Int → Int) (ov : Value) (out : List Int) : Prop where
  own : Own 3 1 wr ov out.length (out.map (Value.int .i64))
  ge : ∀ b, ov.ownBlock = some b → w0.heap.size ≤ b
  map : LdMap wr mb ld n
  bel : Below w0.heap.size w0 wr
  tb : Blk wr w0.heap.size #[.int .i64 t.wall, .int .u32 t.tick, .int .u32 t.mark] 33
theorem Bnch.next {w0 wr w' : World} {mb n : Nat} {t : St} {ld : Int → Int} {ov : Value} {out : List Int} (h : Bnch w0 wr mb n t ld ov out) (hb : Below wr.heap.size wr w') : Bnch w0 w' mb n t ld ov out :=
  ⟨h.own.below' hb, h.ge, h.map.below hb, bel_trans h.bel hb, h.tb.next hb⟩
theorem LdMap.ne {w : World} {mb n g : Nat} {ld : Int → Int} {cs : Array Value} {tt : TypeId} (h : LdMap w mb ld n) (hb : Blk w g cs tt) : mb ≠ g := by
  rintro rfl
  obtain ⟨f, n', ⟨D, ⟨es, clock, hb', _⟩, _⟩, _⟩ := h
  unfold Blk at hb
  rw [hb] at hb'
  cases hb'
theorem blk_ne {w : World} {g g' : Nat} {cs cs' : Array Value} {t t' : TypeId} (h : Blk w g cs t) (h' : Blk w g' cs' t') (hne : t ≠ t') : g ≠ g' := by
  rintro rfl
  unfold Blk at h h'
  rw [h] at h'
  injection h' with h'
  injection h' with _ ht
  exact hne ht
/-- a store into the seat that is the best so far -/
theorem Bnch.set {w0 wr : World} {mb n bx : Nat} {t : St} {ld : Int → Int} {ov : Value} {out : List Int} {cs : Array Value} (h : Bnch w0 wr mb n t ld ov out) (hB : Blk wr bx cs 45) (hbx : w0.heap.size ≤ bx) (j : Nat) (u : Value) :
    Bnch w0 (wr.setCell ⟨bx, j, none⟩ u) mb n t ld ov out ∧ Blk (wr.setCell ⟨bx, j, none⟩ u) bx (cs.setIfInBounds j u) 45 :=
  ⟨⟨own_set h.own (fun b hb e => own_no_blk h.own hB (by decide) (by rw [hb, e])) u, h.ge, h.map.setCell (h.map.ne hB) u, bel_set h.bel hbx, h.tb.other (blk_ne h.tb hB (by decide)) u⟩, hB.set j u⟩

theorem Bnch.copy {w0 wr : World} {mb n bx : Nat} {t : St} {ld : Int → Int} {ov : Value} {out : List Int} {p : Option Seat} (h : Bnch w0 wr mb n t ld ov out) (hB : Blk wr bx (bestC p) 45) (hbx : w0.heap.size ≤ bx) (x : Seat) :
    Bnch w0 ((((((((((((wr.setCell ⟨bx, 0, none⟩ (.int .i64 x.shard)).setCell ⟨bx, 1, none⟩ (.int .i64 x.node)).setCell ⟨bx, 2, none⟩ (.bool x.up)).setCell ⟨bx, 3, none⟩ (.bool x.prim)).setCell ⟨bx, 4, none⟩ (.int .i64 x.closed.wall)).setCell ⟨bx, 5, none⟩ (.int .u32 x.closed.tick)).setCell ⟨bx, 6, none⟩ (.int .u32 x.closed.mark)).setCell ⟨bx, 7, none⟩ (.int .i64 x.safe.wall)).setCell ⟨bx, 8, none⟩ (.int .u32 x.safe.tick)).setCell ⟨bx, 9, none⟩ (.int .u32 x.safe.mark)).setCell ⟨bx, 10, none⟩ (.bool x.held)).setCell ⟨bx, 11, none⟩ (.int .i64 x.load)) mb n t ld ov out ∧ Blk ((((((((((((wr.setCell ⟨bx, 0, none⟩ (.int .i64 x.shard)).setCell ⟨bx, 1, none⟩ (.int .i64 x.node)).setCell ⟨bx, 2, none⟩ (.bool x.up)).setCell ⟨bx, 3, none⟩ (.bool x.prim)).setCell ⟨bx, 4, none⟩ (.int .i64 x.closed.wall)).setCell ⟨bx, 5, none⟩ (.int .u32 x.closed.tick)).setCell ⟨bx, 6, none⟩ (.int .u32 x.closed.mark)).setCell ⟨bx, 7, none⟩ (.int .i64 x.safe.wall)).setCell ⟨bx, 8, none⟩ (.int .u32 x.safe.tick)).setCell ⟨bx, 9, none⟩ (.int .u32 x.safe.mark)).setCell ⟨bx, 10, none⟩ (.bool x.held)).setCell ⟨bx, 11, none⟩ (.int .i64 x.load)) bx (bestC (some x)) 45 := by
  obtain ⟨n0, b0⟩ := Bnch.set h hB hbx 0 (.int .i64 x.shard)
  obtain ⟨n1, b1⟩ := Bnch.set n0 b0 hbx 1 (.int .i64 x.node)
  obtain ⟨n2, b2⟩ := Bnch.set n1 b1 hbx 2 (.bool x.up)
  obtain ⟨n3, b3⟩ := Bnch.set n2 b2 hbx 3 (.bool x.prim)
  obtain ⟨n4, b4⟩ := Bnch.set n3 b3 hbx 4 (.int .i64 x.closed.wall)
  obtain ⟨n5, b5⟩ := Bnch.set n4 b4 hbx 5 (.int .u32 x.closed.tick)
  obtain ⟨n6, b6⟩ := Bnch.set n5 b5 hbx 6 (.int .u32 x.closed.mark)
  obtain ⟨n7, b7⟩ := Bnch.set n6 b6 hbx 7 (.int .i64 x.safe.wall)
  obtain ⟨n8, b8⟩ := Bnch.set n7 b7 hbx 8 (.int .u32 x.safe.tick)
  obtain ⟨n9, b9⟩ := Bnch.set n8 b8 hbx 9 (.int .u32 x.safe.mark)
  obtain ⟨n10, b10⟩ := Bnch.set n9 b9 hbx 10 (.bool x.held)
  obtain ⟨n11, b11⟩ := Bnch.set n10 b10 hbx 11 (.int .i64 x.load)
  have heq : (((((((((((((bestC p).setIfInBounds 0 (.int .i64 x.shard)).setIfInBounds 1 (.int .i64 x.node)).setIfInBounds 2 (.bool x.up)).setIfInBounds 3 (.bool x.prim)).setIfInBounds 4 (.int .i64 x.closed.wall)).setIfInBounds 5 (.int .u32 x.closed.tick)).setIfInBounds 6 (.int .u32 x.closed.mark)).setIfInBounds 7 (.int .i64 x.safe.wall)).setIfInBounds 8 (.int .u32 x.safe.tick)).setIfInBounds 9 (.int .u32 x.safe.mark)).setIfInBounds 10 (.bool x.held)).setIfInBounds 11 (.int .i64 x.load)) = bestC (some x) := by cases p <;> simp [bestC, noSeat]
  rw [heq] at b11
  exact ⟨n11, b11⟩

set_option maxRecDepth 100000 in
set_option maxHeartbeats 4000000 in
theorem pick_yes (v : Value) (l : List Seat) (shards : Int) (t : St) (w : World) (hv : RdS w v l) (hok : SeatsOk l) (h1 : 1 ≤ shards) (h2 : shards ≤ 4) (h3 : stR t = true) (h4 : l.length ≤ 32) :
    Calls Try.prog 6 #[v, .int .i64 shards, t.val] w (Picked (pickF l shards t) w) := by
  obtain ⟨N, rfl⟩ : ∃ N : Nat, shards = (N : Int) := ⟨shards.toNat, by omega⟩
  have HP : Hid (pickF l N t = picks l t N) := Lib.hid (by unfold pickF; rw [if_neg (by rw [h3]; simp; omega)]; rfl)
  have Hok := Lib.hid hok
  obtain ⟨a, cap, rfl, hcap, hbig, hcell⟩ := hv.open
  have Hcell := Lib.hid hcell
  have H3 := Lib.hid h3
  clear hcell hv h3 hok
  have HT := Lib.hid (Blk.new w #[.int .i64 t.wall, .int .u32 t.tick, .int .u32 t.mark] 33)
  have hmm := @run_makeMap Try.prog
  unfold St.val
  have d1 : decide ((N : Int) < 1) = false := by simp only [decide_eq_false_iff_not]; omega
  have d2 : decide (4 < (N : Int)) = false := by simp only [decide_eq_false_iff_not]; omega
  have d4 : decide (32 < (l.length : Int)) = false := by simp only [decide_eq_false_iff_not]; omega
  go_enter Try.func6, Try.ntmps6
  go_wp2_with fail
  refine (str_any t _).mono ?_
  rw [H3.out]
  rintro e w1 ⟨rfl, hb⟩
  have HT1 := Lib.hid (HT.out.next hb)
  have Hb1 := Lib.hid (bel_trans (bel_alloc (bel_refl w)) hb)
  clear hb HT
  go_wp2_with fail
  have HT2 := Lib.hid (HT1.out.next (below_alloc w1 (.map #[] 0)))
  have HL2 := Lib.hid (LdMap.new w1)
  have Hb2 := Lib.hid (bel_alloc (o := .map #[] 0) Hb1.out)
  have hmb : w.heap.size ≤ w1.heap.size := Hb1.out.size
  have hbt : w.heap.size < w1.heap.size := HT1.out.lt
  clear HT1 Hb1 hmm
  generalize (w1.alloc (.map #[] 0)) = w2 at *
  generalize w1.heap.size = mb at *
  go_loopw [10, 36] (fun _ iv wr => ∃ k : Nat, k ≤ l.length ∧ iv = .int .i64 k ∧ Hid (LdMap wr mb (maxLoad (l.take k)) k) ∧ Hid (Below w.heap.size w wr) ∧ Hid (Blk wr w.heap.size #[.int .i64 t.wall, .int .u32 t.tick, .int .u32 t.mark] 33)) (fun _ iv _ => l.length - (intOf iv).toNat)
  case atStart => exact ⟨0, by omega, rfl, HL2, Hb2, HT2⟩
  case round =>
    obtain ⟨k, hk, rfl, HL, Hb, HT⟩ := hrel
    by_cases hlt : k < l.length
    · obtain ⟨x, hx⟩ : ∃ x, l[k]? = some x := ⟨l[k], List.getElem?_eq_getElem hlt⟩
      obtain ⟨b, o, rfl, hat⟩ := Hcell.out k x hx
      have Hput := Lib.hid (maxLoad_put l k x hx)
      have hnd := Hok.out.node x (List.mem_of_getElem? hx)
      have hld := Hok.out.load x (List.mem_of_getElem? hx)
      obtain ⟨c0, c1, c2, c3, c4, c5, c6, c7, c8, c9, c10, c11⟩ := hat.below Hb.out hat.lt
      have hin : In64 x.node := ⟨by omega, by omega⟩
      have hlook := (HL.out.below (below_alloc wr (.cells #[.int .i64 x.shard, .int .i64 x.node, .bool x.up, .bool x.prim, .int .i64 x.closed.wall, .int .u32 x.closed.tick, .int .u32 x.closed.mark, .int .i64 x.safe.wall, .int .u32 x.safe.tick, .int .u32 x.safe.mark, .bool x.held, .int .i64 x.load] 45))).look hin
      obtain ⟨w4, hrun, hL4, hg4⟩ := (HL.out.below (below_alloc wr (.cells #[.int .i64 x.shard, .int .i64 x.node, .bool x.up, .bool x.prim, .int .i64 x.closed.wall, .int .u32 x.closed.tick, .int .u32 x.closed.mark, .int .i64 x.safe.wall, .int .u32 x.safe.tick, .int .u32 x.safe.mark, .bool x.held, .int .i64 x.load] 45))).put (by omega) hin (max (maxLoad (l.take k) x.node) x.load)
      have HL4 := Lib.hid hL4
      have Hg4 := Lib.hid hg4
      clear hat hx hL4 hg4 hin
      generalize maxLoad (l.take k) x.node = m at *
      by_cases hm : m < x.load
      · rw [show max m x.load = x.load by omega] at hrun
        go_wp2_with fail
        go_roundw
        case rel => exact ⟨k + 1, by omega, by go_num, Lib.hid (by rw [← Hput.out]; exact HL4.out), Lib.hid ((bel_alloc Hb.out).grown Hg4.out (bel_alloc Hb.out).size (fun b h => by injection h with h; omega)), Lib.hid ((HT.out.next (below_alloc wr _)).grown Hg4.out (fun h => by injection h with h; omega))⟩
        case measure => simp [intOf]; omega
      · rw [show max m x.load = m by omega] at hrun
        go_wp2_with fail
        go_roundw
        case rel => exact ⟨k + 1, by omega, by go_num, Lib.hid (by rw [← Hput.out]; exact HL4.out), Lib.hid ((bel_alloc Hb.out).grown Hg4.out (bel_alloc Hb.out).size (fun b h => by injection h with h; omega)), Lib.hid ((HT.out.next (below_alloc wr _)).grown Hg4.out (fun h => by injection h with h; omega))⟩
        case measure => simp [intOf]; omega
    · obtain rfl : k = l.length := by omega
      rw [List.take_length] at HL
      have HL0 : Hid (LdMap wr mb (loadN l []) (32 + 0)) := Lib.hid (by obtain ⟨f, n, q1, q2, q3⟩ := HL.out; exact ⟨f, n, q1, by omega, q3⟩)
      clear HL HL2 Hb2 HT2
      go_wp2_with fail
      go_loopw [11, 12, 13, 14, 16, 52, 58] (fun ov _ _ _ _ iv _ wr => ∃ (k : Nat) (out : List Int), k ≤ N ∧ iv = .int .i64 k ∧ Hid (picks l t k = .inr out) ∧ Hid (out.length = k) ∧ Hid (Bnch w wr mb (32 + k) t (loadN l out) ov out)) (fun _ _ _ _ _ iv _ _ => N - (intOf iv).toNat)
      case atStart => exact ⟨0, [], by omega, rfl, Lib.hid rfl, Lib.hid rfl, Lib.hid ⟨own_nil _ 3 1, fun b hb => (by cases hb), HL0.out, Hb.out, HT.out⟩⟩
      case round =>
        clear HL0 Hb HT
        obtain ⟨k, out, hk, rfl, Hpk, Hol, HN⟩ := hrel
        by_cases hkn : k < N
        · go_wp2_with fail
          go_step3
          go_wp2_with fail
          go_step3
          go_wp2_with fail
          have HB := Lib.hid (Blk.new wr noSeat 45)
          have HN1 := Lib.hid (HN.out.next (below_alloc wr (.cells noSeat 45)))
          have hbx : w.heap.size ≤ wr.heap.size := HN.out.bel.size
          clear HN
          unfold noSeat at HB HN1
          generalize (wr.alloc (.cells #[.int .i64 0, .int .i64 (-1), .bool false, .bool false, .int .i64 0, .int .u32 0, .int .u32 0, .int .i64 0, .int .u32 0, .int .u32 0, .bool false, .int .i64 0] 45)) = w5 at *
          generalize wr.heap.size = bx at *
          go_loopw [14, 16, 58] (fun ev _ jv wr => ∃ (j : Nat), j ≤ l.length ∧ jv = .int .i64 j ∧ ev = .int .i64 (shardPick (loadN l out) k t (l.take j)).e ∧ Hid (Blk wr bx (bestC (shardPick (loadN l out) k t (l.take j)).best) 45) ∧ Hid (Bnch w wr mb (32 + k) t (loadN l out) u11 out)) (fun _ _ jv _ => l.length - (intOf jv).toNat)
          case atStart => exact ⟨0, by omega, rfl, rfl, HB, HN1⟩
          case round =>
            clear HB HN1
            obtain ⟨j, hj, rfl, rfl, HB, HN⟩ := hrel
            by_cases hjl : j < l.length
            · obtain ⟨x, hx⟩ : ∃ x, l[j]? = some x := ⟨l[j], List.getElem?_eq_getElem hjl⟩
              obtain ⟨b, o, rfl, hat⟩ := Hcell.out j x hx
              obtain ⟨c0, c1, c2, c3, c4, c5, c6, c7, c8, c9, c10, c11⟩ := hat.below HN.out.bel hat.lt
              have Hsn : Hid (shardPick (loadN l out) k t (l.take (j + 1)) = stepP (loadN l out) k t (shardPick (loadN l out) k t (l.take j)) x) := Lib.hid (fold_snoc _ _ l j x hx)
              have hnd := Hok.out.node x (List.mem_of_getElem? hx)
              have Hpm : Hid (∀ b, (shardPick (loadN l out) k t (l.take j)).best = some b → b ∈ l) := Lib.hid (fun b hb => List.mem_of_mem_take ((pick_may (loadN l out) k t (l.take j)).mem b hb).1)
              have hxl : x ∈ l := List.mem_of_getElem? hx
              clear hat hx
              generalize shardPick (loadN l out) k t (l.take j) = p at *
              have HN1 := Lib.hid (HN.out.next (below_alloc wr (.cells #[.int .i64 x.shard, .int .i64 x.node, .bool x.up, .bool x.prim, .int .i64 x.closed.wall, .int .u32 x.closed.tick, .int .u32 x.closed.mark, .int .i64 x.safe.wall, .int .u32 x.safe.tick, .int .u32 x.safe.mark, .bool x.held, .int .i64 x.load] 45)))
              have HB1 := Lib.hid (HB.out.next (below_alloc wr (.cells #[.int .i64 x.shard, .int .i64 x.node, .bool x.up, .bool x.prim, .int .i64 x.closed.wall, .int .u32 x.closed.tick, .int .u32 x.closed.mark, .int .i64 x.safe.wall, .int .u32 x.safe.tick, .int .u32 x.safe.mark, .bool x.held, .int .i64 x.load] 45)))
              have HX1 := Lib.hid (Blk.new wr #[.int .i64 x.shard, .int .i64 x.node, .bool x.up, .bool x.prim, .int .i64 x.closed.wall, .int .u32 x.closed.tick, .int .u32 x.closed.mark, .int .i64 x.safe.wall, .int .u32 x.safe.tick, .int .u32 x.safe.mark, .bool x.held, .int .i64 x.load] 45)
              unfold stepP at Hsn
              by_cases hs : x.shard = (k : Int)
              case neg =>
                have d : (x.shard != (k : Int)) = true := by rw [bne_iff_ne]; exact hs
                have HS : Hid (shardPick (loadN l out) k t (l.take (j + 1)) = p) := Lib.hid (by rw [Hsn.out, if_pos (.inl hs)])
                clear hs HN HB HX1 Hsn
                go_wp2_with fail
                go_roundw
                case rel => exact ⟨j + 1, by omega, by go_num, by rw [HS.out], by rw [HS.out]; exact HB1, HN1⟩
                case measure => simp [intOf]; omega
              have d0 : (x.shard != (k : Int)) = false := by simp [hs]
              have Hs := Lib.hid hs
              clear hs
              cases hu : x.up with
              | false =>
                have HS : Hid (shardPick (loadN l out) k t (l.take (j + 1)) = p) := Lib.hid (by rw [Hsn.out, if_pos (.inr hu)])
                rw [hu] at HN1 HB1 c2
                clear HN HB HX1 Hsn hu
                go_wp2_with fail
                go_roundw
                case rel => exact ⟨j + 1, by omega, by go_num, by rw [HS.out], by rw [HS.out]; exact HB1, HN1⟩
                case measure => simp [intOf]; omega
              | true =>
                have Hu := Lib.hid hu
                have hbxx : bx ≠ wr.heap.size := by have := HB.out.lt; omega
                have HX0 : Hid (w.heap.size ≤ wr.heap.size) := Lib.hid HN.out.bel.size
                rw [hu] at HN1 HB1 HX1 c2
                have m0 : wr.cell? ⟨w.heap.size, 0, none⟩ = some (.int .i64 t.wall) := HN.out.tb.cell 0
                have m1 : wr.cell? ⟨w.heap.size, 1, none⟩ = some (.int .u32 t.tick) := HN.out.tb.cell 1
                have m2 : wr.cell? ⟨w.heap.size, 2, none⟩ = some (.int .u32 t.mark) := HN.out.tb.cell 2
                have hwl : w.heap.size < wr.heap.size := HN.out.tb.lt
                clear hu
                go_wp2_with fail
                clear HN HB c0 c1 c2 c3 c4 c5 c6 c7 c8 c9 c10 c11
                refine (compare_any t x.safe _).mono ?_
                rintro e w7 ⟨rfl, hb7⟩
                have HN7 := Lib.hid (HN1.out.next hb7)
                have HB7 := Lib.hid (HB1.out.next hb7)
                have HX7 := Lib.hid (HX1.out.next hb7)
                clear hb7 HN1 HB1 HX1 m0 m1 m2
                generalize wr.heap.size = xb at *
                by_cases hold : blw t x.safe = true
                · have dc : decide (cmp t x.safe < 0) = true := by simpa using (blw_cmp t x.safe).1 hold
                  have HS : Hid (shardPick (loadN l out) k t (l.take (j + 1)) = { p with up := true, e := if p.e = 6 then 100 else p.e }) := Lib.hid (by rw [Hsn.out, if_neg (by rw [Hs.out, Hu.out]; simp), if_pos hold])
                  clear hold
                  by_cases he : p.e = 6
                  · have de : (p.e == 6) = true := by rw [beq_iff_eq]; exact he
                    have He := Lib.hid he
                    clear he
                    go_wp2_with fail
                    go_roundw
                    case rel => exact ⟨j + 1, by omega, by go_num, by rw [HS.out]; simp only; rw [if_pos He.out], by rw [HS.out]; exact HB7, HN7⟩
                    case measure => simp [intOf]; omega
                  · have de : (p.e == 6) = false := by rw [beq_eq_false_iff_ne]; exact he
                    have He := Lib.hid he
                    clear he
                    go_wp2_with fail
                    go_roundw
                    case rel => exact ⟨j + 1, by omega, by go_num, by rw [HS.out]; simp only; rw [if_neg He.out], by rw [HS.out]; exact HB7, HN7⟩
                    case measure => simp [intOf]; omega
                have dc : decide (cmp t x.safe < 0) = false := by simpa using fun h => hold ((blw_cmp t x.safe).2 h)
                have Hold := Lib.hid hold
                clear hold
                have k0 : w7.cell? ⟨xb, 0, none⟩ = some (.int .i64 x.shard) := HX7.out.cell 0
                have k1 : w7.cell? ⟨xb, 1, none⟩ = some (.int .i64 x.node) := HX7.out.cell 1
                have k2 : w7.cell? ⟨xb, 2, none⟩ = some (.bool true) := HX7.out.cell 2
                have k3 : w7.cell? ⟨xb, 3, none⟩ = some (.bool x.prim) := HX7.out.cell 3
                have k4 : w7.cell? ⟨xb, 4, none⟩ = some (.int .i64 x.closed.wall) := HX7.out.cell 4
                have k5 : w7.cell? ⟨xb, 5, none⟩ = some (.int .u32 x.closed.tick) := HX7.out.cell 5
                have k6 : w7.cell? ⟨xb, 6, none⟩ = some (.int .u32 x.closed.mark) := HX7.out.cell 6
                have k7 : w7.cell? ⟨xb, 7, none⟩ = some (.int .i64 x.safe.wall) := HX7.out.cell 7
                have k8 : w7.cell? ⟨xb, 8, none⟩ = some (.int .u32 x.safe.tick) := HX7.out.cell 8
                have k9 : w7.cell? ⟨xb, 9, none⟩ = some (.int .u32 x.safe.mark) := HX7.out.cell 9
                have k10 : w7.cell? ⟨xb, 10, none⟩ = some (.bool x.held) := HX7.out.cell 10
                have k11 : w7.cell? ⟨xb, 11, none⟩ = some (.int .i64 x.load) := HX7.out.cell 11
                have m0 : w7.cell? ⟨w.heap.size, 0, none⟩ = some (.int .i64 t.wall) := HN7.out.tb.cell 0
                have m1 : w7.cell? ⟨w.heap.size, 1, none⟩ = some (.int .u32 t.tick) := HN7.out.tb.cell 1
                have m2 : w7.cell? ⟨w.heap.size, 2, none⟩ = some (.int .u32 t.mark) := HN7.out.tb.cell 2
                go_wp2_with fail
                refine (compare_any x.closed t _).mono ?_
                rintro e w8 ⟨rfl, hb8⟩
                have HN8 := Lib.hid (HN7.out.next hb8)
                have HB8 := Lib.hid (HB7.out.next hb8)
                have HX8 := Lib.hid (HX7.out.next hb8)
                clear hb8 HN7 HB7 HX7 k0 k1 k2 k3 k4 k5 k6 k7 k8 k9 k10 k11 m0 m1 m2 dc
                by_cases hcl : blw x.closed t = true
                · have dc : decide (cmp x.closed t < 0) = true := by simpa using (blw_cmp x.closed t).1 hcl
                  have HS : Hid (shardPick (loadN l out) k t (l.take (j + 1)) = { p with up := true, young := true, e := 101 }) := Lib.hid (by rw [Hsn.out, if_neg (by rw [Hs.out, Hu.out]; simp), if_neg Hold.out, if_pos (.inl hcl)])
                  clear hcl
                  go_wp2_with fail
                  go_roundw
                  case rel => exact ⟨j + 1, by omega, by go_num, by rw [HS.out], by rw [HS.out]; exact HB8, HN8⟩
                  case measure => simp [intOf]; omega
                have dc : decide (cmp x.closed t < 0) = false := by simpa using fun h => hcl ((blw_cmp x.closed t).2 h)
                have Hcl := Lib.hid hcl
                clear hcl
                have k0 : w8.cell? ⟨xb, 0, none⟩ = some (.int .i64 x.shard) := HX8.out.cell 0
                have k1 : w8.cell? ⟨xb, 1, none⟩ = some (.int .i64 x.node) := HX8.out.cell 1
                have k2 : w8.cell? ⟨xb, 2, none⟩ = some (.bool true) := HX8.out.cell 2
                have k3 : w8.cell? ⟨xb, 3, none⟩ = some (.bool x.prim) := HX8.out.cell 3
                have k4 : w8.cell? ⟨xb, 4, none⟩ = some (.int .i64 x.closed.wall) := HX8.out.cell 4
                have k5 : w8.cell? ⟨xb, 5, none⟩ = some (.int .u32 x.closed.tick) := HX8.out.cell 5
                have k6 : w8.cell? ⟨xb, 6, none⟩ = some (.int .u32 x.closed.mark) := HX8.out.cell 6
                have k7 : w8.cell? ⟨xb, 7, none⟩ = some (.int .i64 x.safe.wall) := HX8.out.cell 7
                have k8 : w8.cell? ⟨xb, 8, none⟩ = some (.int .u32 x.safe.tick) := HX8.out.cell 8
                have k9 : w8.cell? ⟨xb, 9, none⟩ = some (.int .u32 x.safe.mark) := HX8.out.cell 9
                have k10 : w8.cell? ⟨xb, 10, none⟩ = some (.bool x.held) := HX8.out.cell 10
                have k11 : w8.cell? ⟨xb, 11, none⟩ = some (.int .i64 x.load) := HX8.out.cell 11
                cases hh : x.held with
                | true =>
                  have HS : Hid (shardPick (loadN l out) k t (l.take (j + 1)) = { p with up := true, young := true, e := 101 }) := Lib.hid (by rw [Hsn.out, if_neg (by rw [Hs.out, Hu.out]; simp), if_neg Hold.out, if_pos (.inr hh)])
                  rw [hh] at k10
                  clear hh k0 k1 k2 k3 k4 k5 k6 k7 k8 k9 k11
                  go_wp2_with fail
                  go_roundw
                  case rel => exact ⟨j + 1, by omega, by go_num, by rw [HS.out], by rw [HS.out]; exact HB8, HN8⟩
                  case measure => simp [intOf]; omega
                | false =>
                  have HS : Hid (shardPick (loadN l out) k t (l.take (j + 1)) = { p with up := true, young := true, best := some (match p.best with | none => x | some b => if ahead (loadN l out) x b then x else b) }) := Lib.hid (by rw [Hsn.out, if_neg (by rw [Hs.out, Hu.out]; simp), if_neg Hold.out, if_neg (by intro h; rcases h with h | h; exact Hcl.out h; rw [hh] at h; cases h)]; rfl)
                  rw [hh] at k10
                  rw [hh] at HX8
                  have Hh := Lib.hid hh
                  clear hh
                  cases hb : p.best with
                  | none =>
                    rw [hb] at HB8 HS
                    simp only at HS
                    have b0 : w8.cell? ⟨bx, 0, none⟩ = some (.int .i64 0) := HB8.out.cell 0
                    have b1 : w8.cell? ⟨bx, 1, none⟩ = some (.int .i64 (-1)) := HB8.out.cell 1
                    have b2 : w8.cell? ⟨bx, 2, none⟩ = some (.bool false) := HB8.out.cell 2
                    have b3 : w8.cell? ⟨bx, 3, none⟩ = some (.bool false) := HB8.out.cell 3
                    have b4 : w8.cell? ⟨bx, 4, none⟩ = some (.int .i64 0) := HB8.out.cell 4
                    have b5 : w8.cell? ⟨bx, 5, none⟩ = some (.int .u32 0) := HB8.out.cell 5
                    have b6 : w8.cell? ⟨bx, 6, none⟩ = some (.int .u32 0) := HB8.out.cell 6
                    have b7 : w8.cell? ⟨bx, 7, none⟩ = some (.int .i64 0) := HB8.out.cell 7
                    have b8 : w8.cell? ⟨bx, 8, none⟩ = some (.int .u32 0) := HB8.out.cell 8
                    have b9 : w8.cell? ⟨bx, 9, none⟩ = some (.int .u32 0) := HB8.out.cell 9
                    have b10 : w8.cell? ⟨bx, 10, none⟩ = some (.bool false) := HB8.out.cell 10
                    have b11 : w8.cell? ⟨bx, 11, none⟩ = some (.int .i64 0) := HB8.out.cell 11
                    have f0 : w8.frozen? ⟨bx, 0, none⟩ = false := HB8.out.free 0
                    have f1 : w8.frozen? ⟨bx, 1, none⟩ = false := HB8.out.free 1
                    have f2 : w8.frozen? ⟨bx, 2, none⟩ = false := HB8.out.free 2
                    have f3 : w8.frozen? ⟨bx, 3, none⟩ = false := HB8.out.free 3
                    have f4 : w8.frozen? ⟨bx, 4, none⟩ = false := HB8.out.free 4
                    have f5 : w8.frozen? ⟨bx, 5, none⟩ = false := HB8.out.free 5
                    have f6 : w8.frozen? ⟨bx, 6, none⟩ = false := HB8.out.free 6
                    have f7 : w8.frozen? ⟨bx, 7, none⟩ = false := HB8.out.free 7
                    have f8 : w8.frozen? ⟨bx, 8, none⟩ = false := HB8.out.free 8
                    have f9 : w8.frozen? ⟨bx, 9, none⟩ = false := HB8.out.free 9
                    have f10 : w8.frozen? ⟨bx, 10, none⟩ = false := HB8.out.free 10
                    have f11 : w8.frozen? ⟨bx, 11, none⟩ = false := HB8.out.free 11
                    have hcp := HN8.out.copy HB8.out hbx x
                    rw [Hu.out, Hh.out] at hcp
                    have HC := Lib.hid hcp
                    clear hcp
                    go_wp2_with fail
                    go_roundw
                    case rel => exact ⟨j + 1, by omega, by go_num, by rw [HS.out], by rw [HS.out]; exact Lib.hid HC.out.2, Lib.hid HC.out.1⟩
                    case measure => simp [intOf]; omega
                  | some c =>
                    rw [hb] at HB8 HS
                    simp only at HS
                    have hcn := Hok.out.node c (Hpm.out c hb)
                    have hc1 : In64 c.node := ⟨by omega, by omega⟩
                    have hc2 : In64 x.node := ⟨by omega, by omega⟩
                    have CA := ahead_any x c mb (loadN l out) (32 + k) w8 HN8.out.map hc2 hc1
                    unfold Seat.val at CA
                    rw [Hu.out, Hh.out] at CA
                    have HCA := Lib.hid CA
                    clear CA hc1 hc2 hb
                    have b0 : w8.cell? ⟨bx, 0, none⟩ = some (.int .i64 c.shard) := HB8.out.cell 0
                    have b1 : w8.cell? ⟨bx, 1, none⟩ = some (.int .i64 c.node) := HB8.out.cell 1
                    have b2 : w8.cell? ⟨bx, 2, none⟩ = some (.bool c.up) := HB8.out.cell 2
                    have b3 : w8.cell? ⟨bx, 3, none⟩ = some (.bool c.prim) := HB8.out.cell 3
                    have b4 : w8.cell? ⟨bx, 4, none⟩ = some (.int .i64 c.closed.wall) := HB8.out.cell 4
                    have b5 : w8.cell? ⟨bx, 5, none⟩ = some (.int .u32 c.closed.tick) := HB8.out.cell 5
                    have b6 : w8.cell? ⟨bx, 6, none⟩ = some (.int .u32 c.closed.mark) := HB8.out.cell 6
                    have b7 : w8.cell? ⟨bx, 7, none⟩ = some (.int .i64 c.safe.wall) := HB8.out.cell 7
                    have b8 : w8.cell? ⟨bx, 8, none⟩ = some (.int .u32 c.safe.tick) := HB8.out.cell 8
                    have b9 : w8.cell? ⟨bx, 9, none⟩ = some (.int .u32 c.safe.mark) := HB8.out.cell 9
                    have b10 : w8.cell? ⟨bx, 10, none⟩ = some (.bool c.held) := HB8.out.cell 10
                    have b11 : w8.cell? ⟨bx, 11, none⟩ = some (.int .i64 c.load) := HB8.out.cell 11
                    go_wp2_with fail
                    refine HCA.out.mono ?_
                    rintro e w9 ⟨rfl, hb9⟩
                    have HN9 := Lib.hid (HN8.out.next hb9)
                    have HB9 := Lib.hid (HB8.out.next hb9)
                    have HX9 := Lib.hid (HX8.out.next hb9)
                    clear hb9 HN8 HB8 HX8 k0 k1 k2 k3 k4 k5 k6 k7 k8 k9 k10 k11 b0 b1 b2 b3 b4 b5 b6 b7 b8 b9 b10 b11 HCA
                    cases hA : ahead (loadN l out) x c with
                    | true =>
                      rw [hA] at HS
                      have HS2 : Hid (shardPick (loadN l out) k t (l.take (j + 1)) = { p with up := true, young := true, best := some x }) := Lib.hid (by rw [HS.out]; rfl)
                      have k0 : w9.cell? ⟨xb, 0, none⟩ = some (.int .i64 x.shard) := HX9.out.cell 0
                      have k1 : w9.cell? ⟨xb, 1, none⟩ = some (.int .i64 x.node) := HX9.out.cell 1
                      have k2 : w9.cell? ⟨xb, 2, none⟩ = some (.bool true) := HX9.out.cell 2
                      have k3 : w9.cell? ⟨xb, 3, none⟩ = some (.bool x.prim) := HX9.out.cell 3
                      have k4 : w9.cell? ⟨xb, 4, none⟩ = some (.int .i64 x.closed.wall) := HX9.out.cell 4
                      have k5 : w9.cell? ⟨xb, 5, none⟩ = some (.int .u32 x.closed.tick) := HX9.out.cell 5
                      have k6 : w9.cell? ⟨xb, 6, none⟩ = some (.int .u32 x.closed.mark) := HX9.out.cell 6
                      have k7 : w9.cell? ⟨xb, 7, none⟩ = some (.int .i64 x.safe.wall) := HX9.out.cell 7
                      have k8 : w9.cell? ⟨xb, 8, none⟩ = some (.int .u32 x.safe.tick) := HX9.out.cell 8
                      have k9 : w9.cell? ⟨xb, 9, none⟩ = some (.int .u32 x.safe.mark) := HX9.out.cell 9
                      have k10 : w9.cell? ⟨xb, 10, none⟩ = some (.bool false) := HX9.out.cell 10
                      have k11 : w9.cell? ⟨xb, 11, none⟩ = some (.int .i64 x.load) := HX9.out.cell 11
                      have b0 : w9.cell? ⟨bx, 0, none⟩ = some (.int .i64 c.shard) := HB9.out.cell 0
                      have b1 : w9.cell? ⟨bx, 1, none⟩ = some (.int .i64 c.node) := HB9.out.cell 1
                      have b2 : w9.cell? ⟨bx, 2, none⟩ = some (.bool c.up) := HB9.out.cell 2
                      have b3 : w9.cell? ⟨bx, 3, none⟩ = some (.bool c.prim) := HB9.out.cell 3
                      have b4 : w9.cell? ⟨bx, 4, none⟩ = some (.int .i64 c.closed.wall) := HB9.out.cell 4
                      have b5 : w9.cell? ⟨bx, 5, none⟩ = some (.int .u32 c.closed.tick) := HB9.out.cell 5
                      have b6 : w9.cell? ⟨bx, 6, none⟩ = some (.int .u32 c.closed.mark) := HB9.out.cell 6
                      have b7 : w9.cell? ⟨bx, 7, none⟩ = some (.int .i64 c.safe.wall) := HB9.out.cell 7
                      have b8 : w9.cell? ⟨bx, 8, none⟩ = some (.int .u32 c.safe.tick) := HB9.out.cell 8
                      have b9 : w9.cell? ⟨bx, 9, none⟩ = some (.int .u32 c.safe.mark) := HB9.out.cell 9
                      have b10 : w9.cell? ⟨bx, 10, none⟩ = some (.bool c.held) := HB9.out.cell 10
                      have b11 : w9.cell? ⟨bx, 11, none⟩ = some (.int .i64 c.load) := HB9.out.cell 11
                      have f0 : w9.frozen? ⟨bx, 0, none⟩ = false := HB9.out.free 0
                      have f1 : w9.frozen? ⟨bx, 1, none⟩ = false := HB9.out.free 1
                      have f2 : w9.frozen? ⟨bx, 2, none⟩ = false := HB9.out.free 2
                      have f3 : w9.frozen? ⟨bx, 3, none⟩ = false := HB9.out.free 3
                      have f4 : w9.frozen? ⟨bx, 4, none⟩ = false := HB9.out.free 4
                      have f5 : w9.frozen? ⟨bx, 5, none⟩ = false := HB9.out.free 5
                      have f6 : w9.frozen? ⟨bx, 6, none⟩ = false := HB9.out.free 6
                      have f7 : w9.frozen? ⟨bx, 7, none⟩ = false := HB9.out.free 7
                      have f8 : w9.frozen? ⟨bx, 8, none⟩ = false := HB9.out.free 8
                      have f9 : w9.frozen? ⟨bx, 9, none⟩ = false := HB9.out.free 9
                      have f10 : w9.frozen? ⟨bx, 10, none⟩ = false := HB9.out.free 10
                      have f11 : w9.frozen? ⟨bx, 11, none⟩ = false := HB9.out.free 11
                      have hcp := HN9.out.copy HB9.out hbx x
                      rw [Hu.out, Hh.out] at hcp
                      have HC := Lib.hid hcp
                      clear hcp hA HS
                      go_wp2_with fail
                      go_roundw
                      case rel => exact ⟨j + 1, by omega, by go_num, by rw [HS2.out], by rw [HS2.out]; exact Lib.hid HC.out.2, Lib.hid HC.out.1⟩
                      case measure => simp [intOf]; omega
                    | false =>
                      rw [hA] at HS
                      have HS2 : Hid (shardPick (loadN l out) k t (l.take (j + 1)) = { p with up := true, young := true, best := some c }) := Lib.hid (by rw [HS.out]; rfl)
                      clear hA HS
                      go_wp2_with fail
                      go_roundw
                      case rel => exact ⟨j + 1, by omega, by go_num, by rw [HS2.out], by rw [HS2.out]; exact HB9, HN9⟩
                      case measure => simp [intOf]; omega
            · obtain rfl : j = l.length := by omega
              rw [List.take_length] at HB ⊢
              have hpo := pick_ok (loadN l out) k t l
              have Hpm : Hid (∀ b, (shardPick (loadN l out) k t l).best = some b → b ∈ l) := Lib.hid (fun b hb => ((pick_may (loadN l out) k t l).mem b hb).1)
              have Hst : Hid (picks l t (k + 1) = match (shardPick (loadN l out) k t l).best with | none => .inl (shardPick (loadN l out) k t l).e | some s => .inr (out ++ [s.node])) := Lib.hid (by
                show (match picks l t k with | .inl e => Sum.inl e | .inr out => _) = _
                rw [Hpk.out]; rfl)
              generalize shardPick (loadN l out) k t l = p at *
              cases hb : p.best with
              | none =>
                rw [hb] at HB Hst
                simp only at Hst
                have HE := Lib.hid (picks_err l t (k + 1) p.e Hst.out N (by omega))
                have b1 : wr.cell? ⟨bx, 1, none⟩ = some (.int .i64 (-1)) := HB.out.cell 1
                clear hpo hb
                go_wp2_with fail
                rw [Exit.noGoto_ret]
                go_ret2
                exact picked_err (by rw [HP.out, HE.out]) HN.out.bel
              | some c =>
                rw [hb] at HB Hst
                simp only at Hst
                have hcn := Hok.out.node c (Hpm.out c hb)
                have hc1 : In64 c.node := ⟨by omega, by omega⟩
                have b1 : wr.cell? ⟨bx, 1, none⟩ = some (.int .i64 c.node) := HB.out.cell 1
                have hlook := HN.out.map.look hc1
                clear hpo hb
                have hbl := HB.out.lt
                by_cases hmx : loadN l out c.node < 4611686018427387904
                · obtain ⟨w9, hrun, hL9, hg9⟩ := HN.out.map.put (by omega) hc1 (loadN l out c.node + 1)
                  have hl0 : 0 ≤ loadN l out c.node := bump_nonneg _ _ _ (maxLoad_nonneg l c.node)
                  have HL9 : Hid (LdMap w9 mb (loadN l (out ++ [c.node])) (32 + (k + 1))) := Lib.hid (by
                    rw [loadN_snoc]
                    have e : (fun y => bump y (loadN l out y) c.node) = fun y => if y = c.node then loadN l out c.node + 1 else loadN l out y := by
                      funext y
                      unfold bump
                      by_cases hy : y = c.node
                      · subst hy; rw [if_pos ⟨rfl, hmx⟩, if_pos rfl]
                      · rw [if_neg (fun h => hy h.1.symm), if_neg hy]
                    rw [e]
                    exact hL9)
                  have hnb : mb ≠ bx := HN.out.map.ne HB.out
                  have Hb9 : Hid (Below w.heap.size w w9) := Lib.hid (HN.out.bel.grown hg9 HN.out.bel.size (fun b h => by injection h with h; omega))
                  have HO9 : Hid (Own 3 1 w9 u11 out.length (out.map (Value.int .i64))) := Lib.hid (HN.out.own.grown hg9 (fun b hb e => by obtain ⟨f, n, q, _⟩ := HN.out.map; exact own_no_map HN.out.own q (by rw [hb]; exact e.symm)))
                  have HT9 : Hid (Blk w9 w.heap.size #[.int .i64 t.wall, .int .u32 t.tick, .int .u32 t.mark] 33) := Lib.hid (HN.out.tb.grown hg9 (fun h => by injection h with h; exact (HN.out.map.ne HN.out.tb) h))
                  have Hge := Lib.hid HN.out.ge
                  have b1' : w9.cell? ⟨bx, 1, none⟩ = some (.int .i64 c.node) := (HB.out.grown hg9 (fun h => by injection h with h; exact hnb h)).cell 1
                  clear hL9 hg9 HN HB
                  go_wp2_with (at_builtin; apply Hold.mk)
                  unfold Hold
                  refine wpList_app rfl _ _ 27 rfl ok27 (by rfl) (by rfl) (HO9.out.below' (below_alloc w9 _)) (own_lit w9 3 1 #[.int .i64 c.node] 1 (by simp [maxLen]) rfl).rd (by simp [Value.oneCell']) (by have := Hol.out; simp only [maxLen]; omega) (by have := Hol.out; omega) ?_
                  intro v7 w7 ho7 hg7 hn7
                  have HN7 : Hid (Bnch w w7 mb (32 + (k + 1)) t (loadN l (out ++ [c.node])) v7 (out ++ [c.node])) := Lib.hid (by
                    have hown := HO9.out.below' (below_alloc w9 (.cells #[.int .i64 c.node] 3))
                    have hmp := HL9.out.below (below_alloc w9 (.cells #[.int .i64 c.node] 3))
                    refine ⟨by rw [List.length_append, List.map_append]; exact ho7, fun b hb => (hn7 b hb).elim (Hge.out b) (fun h => by have := Hb9.out.size; simp at h; omega), hmp.grown hg7 (fun e => by obtain ⟨f, n, q, _⟩ := hmp; exact own_no_map hown q e.symm), (bel_alloc Hb9.out).grown hg7 (bel_alloc Hb9.out).size Hge.out, (HT9.out.next (below_alloc w9 _)).grown hg7 (own_no_blk hown (HT9.out.next (below_alloc w9 _)) (by decide))⟩)
                  clear ho7 hg7 hn7 b1 b1' HL9 Hb9 HO9 HT9
                  go_wp2_with fail
                  rw [Exit.noGoto_normal]
                  go_wp2_with fail
                  go_roundw
                  case rel => exact ⟨k + 1, out ++ [c.node], by omega, by go_num, Hst, Lib.hid (by rw [List.length_append, Hol.out]; rfl), HN7⟩
                  case measure => simp [intOf]; omega
                · have dmx : decide (loadN l out c.node < 4611686018427387904) = false := by simpa using hmx
                  have HL9 : Hid (LdMap wr mb (loadN l (out ++ [c.node])) (32 + (k + 1))) := Lib.hid (by
                    rw [loadN_snoc]
                    have e : (fun y => bump y (loadN l out y) c.node) = loadN l out := by
                      funext y
                      unfold bump
                      by_cases hy : y = c.node
                      · subst hy; rw [if_neg (fun h => hmx h.2)]
                      · rw [if_neg (fun h => hy h.1.symm)]
                    rw [e]
                    obtain ⟨f, n, q1, q2, q3⟩ := HN.out.map
                    exact ⟨f, n, q1, by omega, q3⟩)
                  have Hb9 : Hid (Below w.heap.size w wr) := Lib.hid HN.out.bel
                  have HO9 : Hid (Own 3 1 wr u11 out.length (out.map (Value.int .i64))) := Lib.hid HN.out.own
                  have HT9 : Hid (Blk wr w.heap.size #[.int .i64 t.wall, .int .u32 t.tick, .int .u32 t.mark] 33) := Lib.hid HN.out.tb
                  have Hge := Lib.hid HN.out.ge
                  clear HN HB
                  go_wp2_with (at_builtin; apply Hold.mk)
                  unfold Hold
                  refine wpList_app rfl _ _ 27 rfl ok27 (by rfl) (by rfl) (HO9.out.below' (below_alloc wr _)) (own_lit wr 3 1 #[.int .i64 c.node] 1 (by simp [maxLen]) rfl).rd (by simp [Value.oneCell']) (by have := Hol.out; simp only [maxLen]; omega) (by have := Hol.out; omega) ?_
                  intro v7 w7 ho7 hg7 hn7
                  have HN7 : Hid (Bnch w w7 mb (32 + (k + 1)) t (loadN l (out ++ [c.node])) v7 (out ++ [c.node])) := Lib.hid (by
                    have hown := HO9.out.below' (below_alloc wr (.cells #[.int .i64 c.node] 3))
                    have hmp := HL9.out.below (below_alloc wr (.cells #[.int .i64 c.node] 3))
                    refine ⟨by rw [List.length_append, List.map_append]; exact ho7, fun b hb => (hn7 b hb).elim (Hge.out b) (fun h => by have := Hb9.out.size; simp at h; omega), hmp.grown hg7 (fun e => by obtain ⟨f, n, q, _⟩ := hmp; exact own_no_map hown q e.symm), (bel_alloc Hb9.out).grown hg7 (bel_alloc Hb9.out).size Hge.out, (HT9.out.next (below_alloc wr _)).grown hg7 (own_no_blk hown (HT9.out.next (below_alloc wr _)) (by decide))⟩)
                  clear ho7 hg7 hn7 b1 HL9 Hb9 HO9 HT9
                  go_wp2_with fail
                  rw [Exit.noGoto_normal]
                  go_wp2_with fail
                  go_roundw
                  case rel => exact ⟨k + 1, out ++ [c.node], by omega, by go_num, Hst, Lib.hid (by rw [List.length_append, Hol.out]; rfl), HN7⟩
                  case measure => simp [intOf]; omega
        · obtain rfl : k = N := by omega
          go_wp2_with fail
          go_ret2
          exact ⟨HN.out.bel, .inr ⟨out, u11, by rw [HP.out, Hpk.out], rfl, HN.out.own.rd⟩⟩
end Go.Proofs.Ytgfegadklkecdaa
