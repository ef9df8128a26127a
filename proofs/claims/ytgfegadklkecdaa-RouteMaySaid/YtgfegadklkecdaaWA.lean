/- Seats: the document's Pick (9), where the arguments may be. -/
import Derived.Test.YtgfegadklkecdaaW9
namespace Go.Proofs.Ytgfegadklkecdaa
open Go.RowKit Go.Kt

/-- the place of the best seat so far -/
def IdxIs (l : List Seat) (b : Option Seat) (i : Int) : Prop := (b = none ∧ i = -1) ∨ ∃ (k : Nat) (c : Seat), b = some c ∧ i = (k : Int) ∧ l[k]? = some c
theorem step_not {ld : Int → Int} {sh : Int} {t : St} {p : Pk} {x : Seat} (hs : x.shard = sh) (hu : x.up = true) (hm : mayB x sh t = false) :
    ∃ e, stepP ld sh t p x = ⟨p.best, true, p.young || !blw t x.safe, e⟩ := by
  unfold stepP
  rw [if_neg (by rintro (h | h); exact h hs; rw [hu] at h; cases h)]
  cases h1 : blw t x.safe with
  | true => rw [if_pos rfl]; exact ⟨_, by simp; rfl⟩
  | false =>
    rw [if_neg (by decide)]
    have h2 : blw x.closed t = true ∨ x.held = true := by
      cases h3 : blw x.closed t with
      | true => exact .inl rfl
      | false =>
        cases h4 : x.held with
        | true => exact .inr rfl
        | false => simp [mayB, hs, hu, h1, h3, h4] at hm
    rw [if_pos h2]
    exact ⟨_, by simp; rfl⟩
theorem step_yes {ld : Int → Int} {sh : Int} {t : St} {p : Pk} {x : Seat} (hm : mayB x sh t = true) :
    ∃ e, stepP ld sh t p x = ⟨some (match p.best with | none => x | some b => if ahead ld x b then x else b), true, p.young || !blw t x.safe, e⟩ := by
  simp [mayB] at hm
  obtain ⟨⟨⟨⟨h1, h2⟩, h3⟩, h4⟩, h5⟩ := hm
  unfold stepP
  rw [if_neg (by rintro (h | h); exact h h1; rw [h2] at h; cases h), h3, if_neg (by decide), h4, h5, if_neg (by simp)]
  exact ⟨p.e, by simp; cases p.best <;> rfl⟩
/-- what the walk over the shards keeps -/
structure Rnch (w0 wr : World) (t : St) (ov : Value) (out : List Int) : Prop where
  own : Own 3 1 wr ov out.length (out.map (Value.int .i64))
  ge : ∀ b, ov.ownBlock = some b → w0.heap.size ≤ b
  bel : Below w0.heap.size w0 wr
  tb : Blk wr w0.heap.size #[.int .i64 t.wall, .int .u32 t.tick, .int .u32 t.mark] 25
theorem Rnch.next {w0 wr w' : World} {t : St} {ov : Value} {out : List Int} (h : Rnch w0 wr t ov out) (hb : Below wr.heap.size wr w') : Rnch w0 w' t ov out :=
  ⟨h.own.below' hb, h.ge, bel_trans h.bel hb, h.tb.next hb⟩

set_option maxRecDepth 100000 in
set_option maxHeartbeats 4000000 in
theorem refpick_yes (v : Value) (l : List Seat) (shards : Int) (t : St) (w : World) (hv : RdS w v l) (hok : SeatsOk l) (h1 : 1 ≤ shards) (h2 : shards ≤ 4) (h3 : stR t = true) (h4 : l.length ≤ 32) :
    Calls Try.prog 9 #[v, .int .i64 shards, t.val] w (Picked (pickF l shards t) w) := by
  obtain ⟨N, rfl⟩ : ∃ N : Nat, shards = (N : Int) := ⟨shards.toNat, by omega⟩
  have HP : Hid (pickF l N t = picks l t N) := Lib.hid (by unfold pickF; rw [if_neg (by rw [h3]; simp; omega)]; rfl)
  have Hok := Lib.hid hok
  have HV := Lib.hid hv
  obtain ⟨a, cap, rfl, hcap, hbig, hcell⟩ := hv.open
  have Hcell := Lib.hid hcell
  have H3 := Lib.hid h3
  clear hcell hv h3 hok
  have HT := Lib.hid (Blk.new w #[.int .i64 t.wall, .int .u32 t.tick, .int .u32 t.mark] 25)
  unfold St.val
  have d1 : decide ((N : Int) < 1) = false := by simp only [decide_eq_false_iff_not]; omega
  have d2 : decide (4 < (N : Int)) = false := by simp only [decide_eq_false_iff_not]; omega
  have d4 : decide (32 < (l.length : Int)) = false := by simp only [decide_eq_false_iff_not]; omega
  go_enter Try.func9, Try.ntmps9
  go_wp2_with fail
  refine (refstr_any t _).mono ?_
  rw [H3.out]
  rintro e w1 ⟨rfl, hb⟩
  have HN1 : Hid (Rnch w w1 t (.slice none 0 0) []) := Lib.hid ⟨own_nil _ 3 1, fun b hb => (by cases hb), bel_trans (bel_alloc (bel_refl w)) hb, HT.out.next hb⟩
  clear hb HT
  go_wp2_with fail
  go_loopw [8, 9, 10, 11, 12, 13, 14, 15, 16] (fun ov iv _ _ _ _ _ _ _ wr => ∃ (k : Nat) (out : List Int), k ≤ N ∧ iv = .int .i64 k ∧ Hid (picks l t k = .inr out) ∧ Hid (out.length = k) ∧ Hid (Rnch w wr t ov out)) (fun _ iv _ _ _ _ _ _ _ _ => N - (intOf iv).toNat)
  case atStart => exact ⟨0, [], by omega, rfl, Lib.hid rfl, Lib.hid rfl, HN1⟩
  case round =>
    clear HN1
    obtain ⟨k, out, hk, rfl, Hpk, Hol, HN⟩ := hrel
    by_cases hkn : k < N
    · go_wp2_with fail
      go_loopw [10, 11, 12, 13, 14, 15, 16] (fun bv uv yv jv _ _ _ wr => ∃ (j : Nat) (bi : Int), j ≤ l.length ∧ jv = .int .i64 j ∧ bv = .int .i64 bi ∧ IdxIs l (shardPick (loadN l out) k t (l.take j)).best bi ∧ uv = .bool (shardPick (loadN l out) k t (l.take j)).up ∧ yv = .bool (shardPick (loadN l out) k t (l.take j)).young ∧ Hid (Rnch w wr t u8 out)) (fun _ _ _ jv _ _ _ _ => l.length - (intOf jv).toNat)
      case atStart => exact ⟨0, -1, by omega, rfl, rfl, .inl ⟨rfl, rfl⟩, rfl, rfl, HN⟩
      case round =>
        clear HN
        obtain ⟨j, bi, hj, rfl, rfl, hbi, rfl, rfl, HN⟩ := hrel
        have Hbi := Lib.hid hbi
        clear hbi
        by_cases hjl : j < l.length
        · obtain ⟨x, hx⟩ : ∃ x, l[j]? = some x := ⟨l[j], List.getElem?_eq_getElem hjl⟩
          obtain ⟨b, o, rfl, hat⟩ := Hcell.out j x hx
          obtain ⟨c0, c1, c2, c3, c4, c5, c6, c7, c8, c9, c10, c11⟩ := hat.below HN.out.bel hat.lt
          have Hat := Lib.hid (hat.below HN.out.bel hat.lt)
          have Hsn : Hid (shardPick (loadN l out) k t (l.take (j + 1)) = stepP (loadN l out) k t (shardPick (loadN l out) k t (l.take j)) x) := Lib.hid (fold_snoc _ _ l j x hx)
          have hnd := Hok.out.node x (List.mem_of_getElem? hx)
          have Hx := Lib.hid hx
          have hj0 : (0 : Int) ≤ (j : Int) := by omega
          have hj1 : (j : Int) < (l.length : Int) := by omega
          clear hat hx
          generalize shardPick (loadN l out) k t (l.take j) = p at *
          have m0 : wr.cell? ⟨w.heap.size, 0, none⟩ = some (.int .i64 t.wall) := HN.out.tb.cell 0
          have m1 : wr.cell? ⟨w.heap.size, 1, none⟩ = some (.int .u32 t.tick) := HN.out.tb.cell 1
          have m2 : wr.cell? ⟨w.heap.size, 2, none⟩ = some (.int .u32 t.mark) := HN.out.tb.cell 2
          have hwl := HN.out.tb.lt
          have hbl := Hat.out.lt
          have HK : Hid (∀ w', Below wr.heap.size wr w' → w'.cell? ⟨b, o + j * 12, none⟩ = some (.int .i64 x.shard) ∧ w'.cell? ⟨b, o + j * 12 + 1, none⟩ = some (.int .i64 x.node) ∧ w'.cell? ⟨b, o + j * 12 + 2, none⟩ = some (.bool x.up) ∧ w'.cell? ⟨b, o + j * 12 + 3, none⟩ = some (.bool x.prim) ∧ w'.cell? ⟨b, o + j * 12 + 4, none⟩ = some (.int .i64 x.closed.wall) ∧ w'.cell? ⟨b, o + j * 12 + 5, none⟩ = some (.int .u32 x.closed.tick) ∧ w'.cell? ⟨b, o + j * 12 + 6, none⟩ = some (.int .u32 x.closed.mark) ∧ w'.cell? ⟨b, o + j * 12 + 7, none⟩ = some (.int .i64 x.safe.wall) ∧ w'.cell? ⟨b, o + j * 12 + 8, none⟩ = some (.int .u32 x.safe.tick) ∧ w'.cell? ⟨b, o + j * 12 + 9, none⟩ = some (.int .u32 x.safe.mark) ∧ w'.cell? ⟨b, o + j * 12 + 10, none⟩ = some (.bool x.held) ∧ w'.cell? ⟨b, o + j * 12 + 11, none⟩ = some (.int .i64 x.load) ∧ w'.cell? ⟨w.heap.size, 0, none⟩ = some (.int .i64 t.wall) ∧ w'.cell? ⟨w.heap.size, 1, none⟩ = some (.int .u32 t.tick) ∧ w'.cell? ⟨w.heap.size, 2, none⟩ = some (.int .u32 t.mark)) := Lib.hid (fun w' h => by
            have q := Hat.out.next h
            have r := HN.out.tb.next h
            exact ⟨q.c0, q.c1, q.c2, q.c3, q.c4, q.c5, q.c6, q.c7, q.c8, q.c9, q.c10, q.c11, r.cell 0, r.cell 1, r.cell 2⟩)
          have hwr := bel_refl wr
          have Hs0 := Hsn
          unfold stepP at Hsn
          by_cases hs : x.shard = (k : Int)
          case neg =>
            have d0 : (x.shard == (k : Int)) = false := by rw [beq_eq_false_iff_ne]; exact hs
            have HS : Hid (shardPick (loadN l out) k t (l.take (j + 1)) = p) := Lib.hid (by rw [Hsn.out, if_pos (.inl hs)])
            have HM : Hid (mayB x k t = false) := Lib.hid (by simp [mayB, hs])
            clear hs Hsn
            go_wp2_with fail
            go_region_held3 (fun w' => w'.cell? ⟨b, o + j * 12, none⟩ = some (.int .i64 x.shard) ∧ w'.cell? ⟨b, o + j * 12 + 1, none⟩ = some (.int .i64 x.node) ∧ w'.cell? ⟨b, o + j * 12 + 2, none⟩ = some (.bool x.up) ∧ w'.cell? ⟨b, o + j * 12 + 3, none⟩ = some (.bool x.prim) ∧ w'.cell? ⟨b, o + j * 12 + 4, none⟩ = some (.int .i64 x.closed.wall) ∧ w'.cell? ⟨b, o + j * 12 + 5, none⟩ = some (.int .u32 x.closed.tick) ∧ w'.cell? ⟨b, o + j * 12 + 6, none⟩ = some (.int .u32 x.closed.mark) ∧ w'.cell? ⟨b, o + j * 12 + 7, none⟩ = some (.int .i64 x.safe.wall) ∧ w'.cell? ⟨b, o + j * 12 + 8, none⟩ = some (.int .u32 x.safe.tick) ∧ w'.cell? ⟨b, o + j * 12 + 9, none⟩ = some (.int .u32 x.safe.mark) ∧ w'.cell? ⟨b, o + j * 12 + 10, none⟩ = some (.bool x.held) ∧ w'.cell? ⟨b, o + j * 12 + 11, none⟩ = some (.int .i64 x.load) ∧ w'.cell? ⟨w.heap.size, 0, none⟩ = some (.int .i64 t.wall) ∧ w'.cell? ⟨w.heap.size, 1, none⟩ = some (.int .u32 t.tick) ∧ w'.cell? ⟨w.heap.size, 2, none⟩ = some (.int .u32 t.mark))
              (first | go_keep | (exact HK.out _ (by repeat (first | assumption | apply bel_alloc | apply bel_drew))))
              (first
                | (go_at_call 11; refine (may_any x k t _).mono ?_; rw [HM.out]; rintro e w7 ⟨rfl, hb⟩; have hw7 : Below wr.heap.size wr w7 := bel_trans (by repeat (first | assumption | apply bel_alloc | apply bel_drew)) hb; clear hb))
            all_goals (go_wp2_with fail)
            go_roundw
            case rel => exact ⟨j + 1, bi, by omega, by go_num, rfl, by rw [HS.out]; exact Hbi.out, by rw [HS.out], by rw [HS.out], Lib.hid (HN.out.next hw7)⟩
            case measure => simp [intOf]; omega
          obtain ⟨xs, xn, xu, xp, xc, xf, xh, xl⟩ := x
          simp only at *
          have d0 : (xs == (k : Int)) = true := by rw [beq_iff_eq]; exact hs
          have Hs := Lib.hid hs
          clear hs
          cases xu with
          | false =>
            have HS : Hid (shardPick (loadN l out) k t (l.take (j + 1)) = p) := Lib.hid (by rw [Hsn.out, if_pos (.inr rfl)])
            have HM : Hid (mayB ⟨xs, xn, false, xp, xc, xf, xh, xl⟩ k t = false) := Lib.hid (by simp [mayB])
            clear Hsn
            go_wp2_with fail
            go_region_held3 (fun w' => w'.cell? ⟨b, o + j * 12, none⟩ = some (.int .i64 xs) ∧ w'.cell? ⟨b, o + j * 12 + 1, none⟩ = some (.int .i64 xn) ∧ w'.cell? ⟨b, o + j * 12 + 2, none⟩ = some (.bool false) ∧ w'.cell? ⟨b, o + j * 12 + 3, none⟩ = some (.bool xp) ∧ w'.cell? ⟨b, o + j * 12 + 4, none⟩ = some (.int .i64 xc.wall) ∧ w'.cell? ⟨b, o + j * 12 + 5, none⟩ = some (.int .u32 xc.tick) ∧ w'.cell? ⟨b, o + j * 12 + 6, none⟩ = some (.int .u32 xc.mark) ∧ w'.cell? ⟨b, o + j * 12 + 7, none⟩ = some (.int .i64 xf.wall) ∧ w'.cell? ⟨b, o + j * 12 + 8, none⟩ = some (.int .u32 xf.tick) ∧ w'.cell? ⟨b, o + j * 12 + 9, none⟩ = some (.int .u32 xf.mark) ∧ w'.cell? ⟨b, o + j * 12 + 10, none⟩ = some (.bool xh) ∧ w'.cell? ⟨b, o + j * 12 + 11, none⟩ = some (.int .i64 xl) ∧ w'.cell? ⟨w.heap.size, 0, none⟩ = some (.int .i64 t.wall) ∧ w'.cell? ⟨w.heap.size, 1, none⟩ = some (.int .u32 t.tick) ∧ w'.cell? ⟨w.heap.size, 2, none⟩ = some (.int .u32 t.mark))
              (first | go_keep | (exact HK.out _ (by repeat (first | assumption | apply bel_alloc | apply bel_drew))))
              (first
                | (go_at_call 11; refine (may_any ⟨xs, xn, false, xp, xc, xf, xh, xl⟩ k t _).mono ?_; rw [HM.out]; rintro e w7 ⟨rfl, hb⟩; have hw7 : Below wr.heap.size wr w7 := bel_trans (by repeat (first | assumption | apply bel_alloc | apply bel_drew)) hb; clear hb))
            all_goals (go_wp2_with fail)
            go_roundw
            case rel => exact ⟨j + 1, bi, by omega, by go_num, rfl, by rw [HS.out]; exact Hbi.out, by rw [HS.out], by rw [HS.out], Lib.hid (HN.out.next hw7)⟩
            case measure => simp [intOf]; omega
          | true =>
            obtain ⟨pb, pu, py, pe⟩ := p
            simp only at *
            go_wp2_with fail
            go_cut [12] (fun yv wc => yv = .bool (py || !blw t xf) ∧ Hid (Below wr.heap.size wr wc))
            case first =>
              cases py with
              | true =>
                rename_i J0 J1 hJ0 hJ1
                go_quiet (fail)
                go_wp2_with fail
                refine hJ1 _ _ ?_
                repeat apply Exists.intro
                exact ⟨⟨rfl, Lib.hid (bel_drewN hwr _)⟩, rfl⟩
              | false =>
                rename_i J0 J1 hJ0 hJ1
                go_region_held3 (fun w' => w'.cell? ⟨b, o + j * 12, none⟩ = some (.int .i64 xs) ∧ w'.cell? ⟨b, o + j * 12 + 1, none⟩ = some (.int .i64 xn) ∧ w'.cell? ⟨b, o + j * 12 + 2, none⟩ = some (.bool true) ∧ w'.cell? ⟨b, o + j * 12 + 3, none⟩ = some (.bool xp) ∧ w'.cell? ⟨b, o + j * 12 + 4, none⟩ = some (.int .i64 xc.wall) ∧ w'.cell? ⟨b, o + j * 12 + 5, none⟩ = some (.int .u32 xc.tick) ∧ w'.cell? ⟨b, o + j * 12 + 6, none⟩ = some (.int .u32 xc.mark) ∧ w'.cell? ⟨b, o + j * 12 + 7, none⟩ = some (.int .i64 xf.wall) ∧ w'.cell? ⟨b, o + j * 12 + 8, none⟩ = some (.int .u32 xf.tick) ∧ w'.cell? ⟨b, o + j * 12 + 9, none⟩ = some (.int .u32 xf.mark) ∧ w'.cell? ⟨b, o + j * 12 + 10, none⟩ = some (.bool xh) ∧ w'.cell? ⟨b, o + j * 12 + 11, none⟩ = some (.int .i64 xl) ∧ w'.cell? ⟨w.heap.size, 0, none⟩ = some (.int .i64 t.wall) ∧ w'.cell? ⟨w.heap.size, 1, none⟩ = some (.int .u32 t.tick) ∧ w'.cell? ⟨w.heap.size, 2, none⟩ = some (.int .u32 t.mark))
                  (first | go_keep | (exact HK.out _ (by repeat (first | assumption | apply bel_alloc | apply bel_drew))))
                  (first
                    | (go_at_call 16; refine (blw_any t xf _).mono ?_; rintro e w7 ⟨rfl, hb⟩; have hw7 : Below wr.heap.size wr w7 := bel_trans (by repeat (first | assumption | apply bel_alloc | apply bel_drew)) hb; clear hb))
                all_goals (go_wp2_with fail)
                all_goals (refine hJ1 _ _ ?_)
                all_goals (repeat apply Exists.intro)
                all_goals (exact ⟨⟨rfl, Lib.hid hw7⟩, rfl⟩)
            case rest =>
              obtain ⟨rfl, Hw⟩ := hcut
              have hwc := bel_refl wc
              have HNc := Lib.hid (HN.out.next Hw.out)
              have HKc : Hid (∀ w', Below wc.heap.size wc w' → w'.cell? ⟨b, o + j * 12, none⟩ = some (.int .i64 xs) ∧ w'.cell? ⟨b, o + j * 12 + 1, none⟩ = some (.int .i64 xn) ∧ w'.cell? ⟨b, o + j * 12 + 2, none⟩ = some (.bool true) ∧ w'.cell? ⟨b, o + j * 12 + 3, none⟩ = some (.bool xp) ∧ w'.cell? ⟨b, o + j * 12 + 4, none⟩ = some (.int .i64 xc.wall) ∧ w'.cell? ⟨b, o + j * 12 + 5, none⟩ = some (.int .u32 xc.tick) ∧ w'.cell? ⟨b, o + j * 12 + 6, none⟩ = some (.int .u32 xc.mark) ∧ w'.cell? ⟨b, o + j * 12 + 7, none⟩ = some (.int .i64 xf.wall) ∧ w'.cell? ⟨b, o + j * 12 + 8, none⟩ = some (.int .u32 xf.tick) ∧ w'.cell? ⟨b, o + j * 12 + 9, none⟩ = some (.int .u32 xf.mark) ∧ w'.cell? ⟨b, o + j * 12 + 10, none⟩ = some (.bool xh) ∧ w'.cell? ⟨b, o + j * 12 + 11, none⟩ = some (.int .i64 xl) ∧ w'.cell? ⟨w.heap.size, 0, none⟩ = some (.int .i64 t.wall) ∧ w'.cell? ⟨w.heap.size, 1, none⟩ = some (.int .u32 t.tick) ∧ w'.cell? ⟨w.heap.size, 2, none⟩ = some (.int .u32 t.mark)) := Lib.hid (fun w' h => HK.out w' (bel_trans Hw.out h))
              obtain ⟨e0, e1, e2, e3, e4, e5, e6, e7, e8, e9, e10, e11, e12, e13, e14⟩ := HKc.out wc hwc
              have hlc : wr.heap.size ≤ wc.heap.size := Hw.out.size
              clear c0 c1 c2 c3 c4 c5 c6 c7 c8 c9 c10 c11 m0 m1 m2 HK HN hwr
              cases hm : mayB ⟨xs, xn, true, xp, xc, xf, xh, xl⟩ k t with
              | false =>
                have HS : Hid (∃ e, shardPick (loadN l out) k t (l.take (j + 1)) = ⟨pb, true, py || !blw t xf, e⟩) := Lib.hid (by rw [Hs0.out]; exact step_not Hs.out rfl hm)
                have HM := Lib.hid hm
                clear hm Hsn Hs0
                generalize (py || !blw t xf) = yy at *
                go_wp2_with fail
                go_region_held3 (fun w' => w'.cell? ⟨b, o + j * 12, none⟩ = some (.int .i64 xs) ∧ w'.cell? ⟨b, o + j * 12 + 1, none⟩ = some (.int .i64 xn) ∧ w'.cell? ⟨b, o + j * 12 + 2, none⟩ = some (.bool true) ∧ w'.cell? ⟨b, o + j * 12 + 3, none⟩ = some (.bool xp) ∧ w'.cell? ⟨b, o + j * 12 + 4, none⟩ = some (.int .i64 xc.wall) ∧ w'.cell? ⟨b, o + j * 12 + 5, none⟩ = some (.int .u32 xc.tick) ∧ w'.cell? ⟨b, o + j * 12 + 6, none⟩ = some (.int .u32 xc.mark) ∧ w'.cell? ⟨b, o + j * 12 + 7, none⟩ = some (.int .i64 xf.wall) ∧ w'.cell? ⟨b, o + j * 12 + 8, none⟩ = some (.int .u32 xf.tick) ∧ w'.cell? ⟨b, o + j * 12 + 9, none⟩ = some (.int .u32 xf.mark) ∧ w'.cell? ⟨b, o + j * 12 + 10, none⟩ = some (.bool xh) ∧ w'.cell? ⟨b, o + j * 12 + 11, none⟩ = some (.int .i64 xl) ∧ w'.cell? ⟨w.heap.size, 0, none⟩ = some (.int .i64 t.wall) ∧ w'.cell? ⟨w.heap.size, 1, none⟩ = some (.int .u32 t.tick) ∧ w'.cell? ⟨w.heap.size, 2, none⟩ = some (.int .u32 t.mark))
                  (first | go_keep | (exact HKc.out _ (by repeat (first | assumption | apply bel_alloc | apply bel_drew))))
                  (first
                    | (go_at_call 11; refine (may_any ⟨xs, xn, true, xp, xc, xf, xh, xl⟩ k t _).mono ?_; rw [HM.out]; rintro e w7 ⟨rfl, hb⟩; have hw7 : Below wc.heap.size wc w7 := bel_trans (by repeat (first | assumption | apply bel_alloc | apply bel_drew)) hb; clear hb))
                all_goals (go_wp2_with fail)
                obtain ⟨e9, hS⟩ := HS.out
                have HS' := Lib.hid hS
                clear hS
                go_roundw
                case rel => exact ⟨j + 1, bi, by omega, by go_num, rfl, by rw [HS'.out]; exact Hbi.out, by rw [HS'.out], by rw [HS'.out], Lib.hid (HNc.out.next hw7)⟩
                case measure => simp [intOf]; omega
              | true =>
                have HS : Hid (∃ e, shardPick (loadN l out) k t (l.take (j + 1)) = ⟨some (match pb with | none => ⟨xs, xn, true, xp, xc, xf, xh, xl⟩ | some b => if ahead (loadN l out) ⟨xs, xn, true, xp, xc, xf, xh, xl⟩ b then ⟨xs, xn, true, xp, xc, xf, xh, xl⟩ else b), true, py || !blw t xf, e⟩) := Lib.hid (by rw [Hs0.out]; exact step_yes hm)
                have HM := Lib.hid hm
                clear hm Hsn Hs0
                generalize (py || !blw t xf) = yy at *
                go_wp2_with fail
                go_region_held3 (fun w' => w'.cell? ⟨b, o + j * 12, none⟩ = some (.int .i64 xs) ∧ w'.cell? ⟨b, o + j * 12 + 1, none⟩ = some (.int .i64 xn) ∧ w'.cell? ⟨b, o + j * 12 + 2, none⟩ = some (.bool true) ∧ w'.cell? ⟨b, o + j * 12 + 3, none⟩ = some (.bool xp) ∧ w'.cell? ⟨b, o + j * 12 + 4, none⟩ = some (.int .i64 xc.wall) ∧ w'.cell? ⟨b, o + j * 12 + 5, none⟩ = some (.int .u32 xc.tick) ∧ w'.cell? ⟨b, o + j * 12 + 6, none⟩ = some (.int .u32 xc.mark) ∧ w'.cell? ⟨b, o + j * 12 + 7, none⟩ = some (.int .i64 xf.wall) ∧ w'.cell? ⟨b, o + j * 12 + 8, none⟩ = some (.int .u32 xf.tick) ∧ w'.cell? ⟨b, o + j * 12 + 9, none⟩ = some (.int .u32 xf.mark) ∧ w'.cell? ⟨b, o + j * 12 + 10, none⟩ = some (.bool xh) ∧ w'.cell? ⟨b, o + j * 12 + 11, none⟩ = some (.int .i64 xl) ∧ w'.cell? ⟨w.heap.size, 0, none⟩ = some (.int .i64 t.wall) ∧ w'.cell? ⟨w.heap.size, 1, none⟩ = some (.int .u32 t.tick) ∧ w'.cell? ⟨w.heap.size, 2, none⟩ = some (.int .u32 t.mark))
                  (first | go_keep | (exact HKc.out _ (by repeat (first | assumption | apply bel_alloc | apply bel_drew))))
                  (first
                    | (go_at_call 11; refine (may_any ⟨xs, xn, true, xp, xc, xf, xh, xl⟩ k t _).mono ?_; rw [HM.out]; rintro e w7 ⟨rfl, hb⟩; have hw7 : Below wc.heap.size wc w7 := bel_trans (by repeat (first | assumption | apply bel_alloc | apply bel_drew)) hb; clear hb))
                obtain ⟨e9, hS⟩ := HS.out
                have HN7 := Lib.hid (HNc.out.next hw7)
                obtain ⟨f0, f1, f2, f3, f4, f5, f6, f7, f8, f9, f10, f11, f12, f13, f14⟩ := HKc.out w7 hw7
                have hl7 : wc.heap.size ≤ w7.heap.size := hw7.size
                clear e0 e1 e2 e3 e4 e5 e6 e7 e8 e10 e11 e12 e13 e14 HS HKc HNc hwc hw7
                rcases Hbi.out with ⟨rfl, rfl⟩ | ⟨m, c, rfl, rfl, hc⟩
                · have HS' := Lib.hid hS
                  clear hS
                  go_wp2_with fail
                  go_roundw
                  case rel => exact ⟨j + 1, j, by omega, by go_num, rfl, by rw [HS'.out]; exact .inr ⟨j, _, rfl, rfl, Hx.out⟩, by rw [HS'.out], by rw [HS'.out], HN7⟩
                  case measure => simp [intOf]; omega
                · obtain ⟨b2, o2, hab, hat2⟩ := Hcell.out m c hc
                  obtain ⟨rfl, rfl⟩ : b = b2 ∧ o = o2 := by injection hab with hab; injection hab with h1 h2; exact ⟨h1, h2⟩
                  obtain ⟨g0, g1, g2, g3, g4, g5, g6, g7, g8, g9, g10, g11⟩ := hat2.below HN7.out.bel hat2.lt
                  have hml := (List.getElem?_eq_some_iff.1 hc).1
                  have hm0 : (0 : Int) ≤ (m : Int) := by omega
                  have hm1 : (m : Int) < (l.length : Int) := by omega
                  have Hc9 := Lib.hid hc
                  have HQ : Hid (∀ (n : Nat) (nd : Int), Calls Try.prog 17 #[.slice (some ⟨b, o, none⟩) l.length cap, .int .i64 nd, u8] (w7.drewN n) fun e w' => e = .returned (.int .i64 (loadN l out nd)) ∧ w' = w7.drewN n) := Lib.hid (fun n nd =>
                    (load_any _ _ l out nd (w7.drewN n) (HV.out.below (bel_drewN HN7.out.bel n)) (HN7.out.own.below' (bel_drewN (bel_refl _) n)).rd).mono fun e w' h => ⟨h.1, h.2.symm⟩)
                  obtain ⟨cs, cn, cu, cp, cc, cf, ch, cl⟩ := c
                  simp only at *
                  have HS' := Lib.hid hS
                  clear hS hc hat2 hab g0 g2 g4 g5 g6 g7 g8 g9 g10 g11 f0 f2 f4 f5 f6 f7 f8 f9 f10 f11 f12 f13 f14
                  go_wp2_with fail
                  go_quiet ((go_at_call 17; exact Calls.quiet_of_same (HQ.out _ _)))
                  clear HQ
                  have HA : Hid (ahead (loadN l out) ⟨xs, xn, true, xp, xc, xf, xh, xl⟩ ⟨cs, cn, cu, cp, cc, cf, ch, cl⟩ = if xp ≠ cp then cp else if loadN l out xn ≠ loadN l out cn then decide (loadN l out xn < loadN l out cn) else decide (xn < cn)) := Lib.hid rfl
                  generalize ahead (loadN l out) ⟨xs, xn, true, xp, xc, xf, xh, xl⟩ ⟨cs, cn, cu, cp, cc, cf, ch, cl⟩ = ah at *
                  generalize loadN l out xn = A at *
                  generalize loadN l out cn = B at *
                  cases xp <;> cases cp
                  case false.false =>
                    by_cases hAB : A = B
                    · by_cases hlt : xn < cn
                      · have HB : Hid (ah = true) := Lib.hid (by rw [HA.out]; simp [*])
                        rw [HB.out] at HS'
                        have dl : decide (xn < cn) = true := by simpa using hlt
                        have dn : (A != B) = false := by simp [hAB]
                        have Hlt := Lib.hid hlt
                        have HAB := Lib.hid hAB
                        clear HA hlt hAB
                        go_wp2_with fail
                        go_quiet (fail)
                        go_wp2_with fail
                        all_goals (go_quiet (fail))
                        all_goals (go_wp2_with fail)
                        all_goals go_roundw
                        all_goals (first
                          | (case rel => exact ⟨j + 1, j, by omega, by go_num, rfl, by rw [HS'.out]; exact .inr ⟨j, _, rfl, rfl, Hx.out⟩, by rw [HS'.out], by rw [HS'.out], Lib.hid (HN7.out.next (by repeat (first | exact bel_refl _ | apply bel_drewN | apply bel_drew)))⟩)
                          | skip)
                        all_goals (simp [intOf]; omega)
                      · have HB : Hid (ah = false) := Lib.hid (by rw [HA.out]; simp [*])
                        rw [HB.out] at HS'
                        have dl : decide (xn < cn) = false := by simpa using hlt
                        have dn : (A != B) = false := by simp [hAB]
                        have Hlt := Lib.hid hlt
                        have HAB := Lib.hid hAB
                        clear HA hlt hAB
                        go_wp2_with fail
                        go_quiet (fail)
                        go_wp2_with fail
                        all_goals (go_quiet (fail))
                        all_goals (go_wp2_with fail)
                        all_goals go_roundw
                        all_goals (first
                          | (case rel => exact ⟨j + 1, m, by omega, by go_num, rfl, by rw [HS'.out]; exact .inr ⟨m, _, rfl, rfl, Hc9.out⟩, by rw [HS'.out], by rw [HS'.out], Lib.hid (HN7.out.next (by repeat (first | exact bel_refl _ | apply bel_drewN | apply bel_drew)))⟩)
                          | skip)
                        all_goals (simp [intOf]; omega)
                    · by_cases hlt : A < B
                      · have HB : Hid (ah = true) := Lib.hid (by rw [HA.out]; simp [*])
                        rw [HB.out] at HS'
                        have dl : decide (A < B) = true := by simpa using hlt
                        have dn : (A != B) = true := by simp [hAB]
                        have Hlt := Lib.hid hlt
                        have HAB := Lib.hid hAB
                        clear HA hlt hAB
                        go_wp2_with fail
                        go_quiet (fail)
                        go_wp2_with fail
                        all_goals (go_quiet (fail))
                        all_goals (go_wp2_with fail)
                        all_goals go_roundw
                        all_goals (first
                          | (case rel => exact ⟨j + 1, j, by omega, by go_num, rfl, by rw [HS'.out]; exact .inr ⟨j, _, rfl, rfl, Hx.out⟩, by rw [HS'.out], by rw [HS'.out], Lib.hid (HN7.out.next (by repeat (first | exact bel_refl _ | apply bel_drewN | apply bel_drew)))⟩)
                          | skip)
                        all_goals (simp [intOf]; omega)
                      · have HB : Hid (ah = false) := Lib.hid (by rw [HA.out]; simp [*])
                        rw [HB.out] at HS'
                        have dl : decide (A < B) = false := by simpa using hlt
                        have dn : (A != B) = true := by simp [hAB]
                        have Hlt := Lib.hid hlt
                        have HAB := Lib.hid hAB
                        clear HA hlt hAB
                        go_wp2_with fail
                        go_quiet (fail)
                        go_wp2_with fail
                        all_goals (go_quiet (fail))
                        all_goals (go_wp2_with fail)
                        all_goals go_roundw
                        all_goals (first
                          | (case rel => exact ⟨j + 1, m, by omega, by go_num, rfl, by rw [HS'.out]; exact .inr ⟨m, _, rfl, rfl, Hc9.out⟩, by rw [HS'.out], by rw [HS'.out], Lib.hid (HN7.out.next (by repeat (first | exact bel_refl _ | apply bel_drewN | apply bel_drew)))⟩)
                          | skip)
                        all_goals (simp [intOf]; omega)
                  case false.true =>
                    have HB : Hid (ah = true) := Lib.hid (by rw [HA.out]; simp [*])
                    rw [HB.out] at HS'
                    clear HA
                    go_wp2_with fail
                    go_quiet (fail)
                    go_wp2_with fail
                    all_goals (go_quiet (fail))
                    all_goals (go_wp2_with fail)
                    all_goals go_roundw
                    all_goals (first
                      | (case rel => exact ⟨j + 1, j, by omega, by go_num, rfl, by rw [HS'.out]; exact .inr ⟨j, _, rfl, rfl, Hx.out⟩, by rw [HS'.out], by rw [HS'.out], Lib.hid (HN7.out.next (by repeat (first | exact bel_refl _ | apply bel_drewN | apply bel_drew)))⟩)
                      | skip)
                    all_goals (simp [intOf]; omega)
                  case true.false =>
                    have HB : Hid (ah = false) := Lib.hid (by rw [HA.out]; simp [*])
                    rw [HB.out] at HS'
                    clear HA
                    go_wp2_with fail
                    go_quiet (fail)
                    go_wp2_with fail
                    all_goals (go_quiet (fail))
                    all_goals (go_wp2_with fail)
                    all_goals go_roundw
                    all_goals (first
                      | (case rel => exact ⟨j + 1, m, by omega, by go_num, rfl, by rw [HS'.out]; exact .inr ⟨m, _, rfl, rfl, Hc9.out⟩, by rw [HS'.out], by rw [HS'.out], Lib.hid (HN7.out.next (by repeat (first | exact bel_refl _ | apply bel_drewN | apply bel_drew)))⟩)
                      | skip)
                    all_goals (simp [intOf]; omega)
                  case true.true =>
                    by_cases hAB : A = B
                    · by_cases hlt : xn < cn
                      · have HB : Hid (ah = true) := Lib.hid (by rw [HA.out]; simp [*])
                        rw [HB.out] at HS'
                        have dl : decide (xn < cn) = true := by simpa using hlt
                        have dn : (A != B) = false := by simp [hAB]
                        have Hlt := Lib.hid hlt
                        have HAB := Lib.hid hAB
                        clear HA hlt hAB
                        go_wp2_with fail
                        go_quiet (fail)
                        go_wp2_with fail
                        all_goals (go_quiet (fail))
                        all_goals (go_wp2_with fail)
                        all_goals go_roundw
                        all_goals (first
                          | (case rel => exact ⟨j + 1, j, by omega, by go_num, rfl, by rw [HS'.out]; exact .inr ⟨j, _, rfl, rfl, Hx.out⟩, by rw [HS'.out], by rw [HS'.out], Lib.hid (HN7.out.next (by repeat (first | exact bel_refl _ | apply bel_drewN | apply bel_drew)))⟩)
                          | skip)
                        all_goals (simp [intOf]; omega)
                      · have HB : Hid (ah = false) := Lib.hid (by rw [HA.out]; simp [*])
                        rw [HB.out] at HS'
                        have dl : decide (xn < cn) = false := by simpa using hlt
                        have dn : (A != B) = false := by simp [hAB]
                        have Hlt := Lib.hid hlt
                        have HAB := Lib.hid hAB
                        clear HA hlt hAB
                        go_wp2_with fail
                        go_quiet (fail)
                        go_wp2_with fail
                        all_goals (go_quiet (fail))
                        all_goals (go_wp2_with fail)
                        all_goals go_roundw
                        all_goals (first
                          | (case rel => exact ⟨j + 1, m, by omega, by go_num, rfl, by rw [HS'.out]; exact .inr ⟨m, _, rfl, rfl, Hc9.out⟩, by rw [HS'.out], by rw [HS'.out], Lib.hid (HN7.out.next (by repeat (first | exact bel_refl _ | apply bel_drewN | apply bel_drew)))⟩)
                          | skip)
                        all_goals (simp [intOf]; omega)
                    · by_cases hlt : A < B
                      · have HB : Hid (ah = true) := Lib.hid (by rw [HA.out]; simp [*])
                        rw [HB.out] at HS'
                        have dl : decide (A < B) = true := by simpa using hlt
                        have dn : (A != B) = true := by simp [hAB]
                        have Hlt := Lib.hid hlt
                        have HAB := Lib.hid hAB
                        clear HA hlt hAB
                        go_wp2_with fail
                        go_quiet (fail)
                        go_wp2_with fail
                        all_goals (go_quiet (fail))
                        all_goals (go_wp2_with fail)
                        all_goals go_roundw
                        all_goals (first
                          | (case rel => exact ⟨j + 1, j, by omega, by go_num, rfl, by rw [HS'.out]; exact .inr ⟨j, _, rfl, rfl, Hx.out⟩, by rw [HS'.out], by rw [HS'.out], Lib.hid (HN7.out.next (by repeat (first | exact bel_refl _ | apply bel_drewN | apply bel_drew)))⟩)
                          | skip)
                        all_goals (simp [intOf]; omega)
                      · have HB : Hid (ah = false) := Lib.hid (by rw [HA.out]; simp [*])
                        rw [HB.out] at HS'
                        have dl : decide (A < B) = false := by simpa using hlt
                        have dn : (A != B) = true := by simp [hAB]
                        have Hlt := Lib.hid hlt
                        have HAB := Lib.hid hAB
                        clear HA hlt hAB
                        go_wp2_with fail
                        go_quiet (fail)
                        go_wp2_with fail
                        all_goals (go_quiet (fail))
                        all_goals (go_wp2_with fail)
                        all_goals go_roundw
                        all_goals (first
                          | (case rel => exact ⟨j + 1, m, by omega, by go_num, rfl, by rw [HS'.out]; exact .inr ⟨m, _, rfl, rfl, Hc9.out⟩, by rw [HS'.out], by rw [HS'.out], Lib.hid (HN7.out.next (by repeat (first | exact bel_refl _ | apply bel_drewN | apply bel_drew)))⟩)
                          | skip)
                        all_goals (simp [intOf]; omega)
        · obtain rfl : j = l.length := by omega
          rw [List.take_length] at Hbi ⊢
          have hpo := pick_ok (loadN l out) k t l
          have Hst : Hid (picks l t (k + 1) = match (shardPick (loadN l out) k t l).best with | none => .inl (shardPick (loadN l out) k t l).e | some s => .inr (out ++ [s.node])) := Lib.hid (by
            show (match picks l t k with | .inl e => Sum.inl e | .inr out => _) = _
            rw [Hpk.out]; rfl)
          generalize shardPick (loadN l out) k t l = p at *
          rcases Hbi.out with ⟨hb, rfl⟩ | ⟨m, c, hb, rfl, hc⟩
          · rw [hb] at Hst
            simp only at Hst
            have HE0 := Lib.hid (picks_err l t (k + 1) p.e Hst.out N (by omega))
            cases hy : p.young with
            | true =>
              have HE : Hid (picks l t N = .inl 101) := Lib.hid (by rw [HE0.out, (hpo.young hy).2 hb])
              clear hpo hb hy
              go_wp2_with fail
              go_ret2
              exact picked_err (by rw [HP.out, HE.out]) HN.out.bel
            | false =>
              cases hu : p.up with
              | true =>
                have HE : Hid (picks l t N = .inl 100) := Lib.hid (by rw [HE0.out, (hpo.old hu hy).1])
                clear hpo hb hy hu
                go_wp2_with fail
                go_ret2
                exact picked_err (by rw [HP.out, HE.out]) HN.out.bel
              | false =>
                have HE : Hid (picks l t N = .inl 6) := Lib.hid (by rw [HE0.out, (hpo.no hu).1])
                clear hpo hb hy hu
                go_wp2_with fail
                go_ret2
                exact picked_err (by rw [HP.out, HE.out]) HN.out.bel
          · rw [hb] at Hst
            simp only at Hst
            obtain ⟨b, o, rfl, hat⟩ := Hcell.out m c hc
            obtain ⟨c0, c1, c2, c3, c4, c5, c6, c7, c8, c9, c10, c11⟩ := hat.below HN.out.bel hat.lt
            have hml := (List.getElem?_eq_some_iff.1 hc).1
            have hm0 : (0 : Int) ≤ (m : Int) := by omega
            have hm1 : (m : Int) < (l.length : Int) := by omega
            have HO9 := Lib.hid HN.out.own
            have Hb9 := Lib.hid HN.out.bel
            have HT9 := Lib.hid HN.out.tb
            have Hge := Lib.hid HN.out.ge
            clear hat hc hb hpo HN
            go_wp2_with (at_builtin; apply Hold.mk)
            unfold Hold
            refine wpList_app rfl _ _ 27 rfl ok27 (by rfl) (by rfl) (HO9.out.below' (below_alloc wr _)) (own_lit wr 3 1 #[.int .i64 c.node] 1 (by simp [maxLen]) rfl).rd (by simp [Value.oneCell']) (by have := Hol.out; simp only [maxLen]; omega) (by have := Hol.out; omega) ?_
            intro v7 w7 ho7 hg7 hn7
            have HN7 : Hid (Rnch w w7 t v7 (out ++ [c.node])) := Lib.hid (by
              have hown := HO9.out.below' (below_alloc wr (.cells #[.int .i64 c.node] 3))
              refine ⟨by rw [List.length_append, List.map_append]; exact ho7, fun b hb => (hn7 b hb).elim (Hge.out b) (fun h => by have := Hb9.out.size; simp at h; omega), (bel_alloc Hb9.out).grown hg7 (bel_alloc Hb9.out).size Hge.out, (HT9.out.next (below_alloc wr _)).grown hg7 (own_no_blk hown (HT9.out.next (below_alloc wr _)) (by decide))⟩)
            clear ho7 hg7 hn7 Hb9 HO9 HT9
            go_wp2_with fail
            go_roundw
            case rel => exact ⟨k + 1, out ++ [c.node], by omega, by go_num, Hst, Lib.hid (by rw [List.length_append, Hol.out]; rfl), HN7⟩
            case measure => simp [intOf]; omega
    · obtain rfl : k = N := by omega
      go_wp2_with fail
      go_ret2
      exact ⟨HN.out.bel, .inr ⟨out, u8, by rw [HP.out, Hpk.out], rfl, HN.out.own.rd⟩⟩
end Go.Proofs.Ytgfegadklkecdaa
