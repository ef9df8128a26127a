/- Gates: GateBounds (3). -/
import Derived.Test.YtjeecffhclhbaaaWB
namespace Go.Proofs.Ytjeecffhclhbaaa
open Go.RowKit Go.Kt

/-- the gate, the record, and that they hold together -/
structure Bnd (w0 wr : World) (g m am : Nat) (G : Gt) (F : Lit → Option Value) (L : Lit → List (Int × Int)) (T : Int) (n c : Nat) : Prop where
  gat : GateAt wr g m G
  gok : G.ok
  bel : Below w0.heap.size w0 wr
  mge : w0.heap.size ≤ m
  amm : am ≠ m
  book : Book w0 wr am F L n
  inv : ∀ k, CInv G (L k) T (G.f k)
  len : ∀ k, (L k).length ≤ c
theorem Bnd.next {w0 wr w' : World} {g m am : Nat} {G : Gt} {F : Lit → Option Value} {L : Lit → List (Int × Int)} {T : Int} {n c : Nat} (q : Bnd w0 wr g m am G F L T n c) (hb : Below wr.heap.size wr w') : Bnd w0 w' g m am G F L T n c :=
  ⟨q.gat.below hb, q.gok, bel_trans q.bel hb, q.mge, q.amm, q.book.below hb, q.inv, q.len⟩
theorem Bnd.later {w0 wr : World} {g m am : Nat} {G : Gt} {F : Lit → Option Value} {L : Lit → List (Int × Int)} {T T' : Int} {n c c' : Nat} (q : Bnd w0 wr g m am G F L T n c) (h : T ≤ T') (hc : c ≤ c') : Bnd w0 wr g m am G F L T' n c' :=
  ⟨q.gat, q.gok, q.bel, q.mge, q.amm, q.book, fun k => (q.inv k).later h, fun k => Nat.le_trans (q.len k) hc⟩
theorem askF_yes {G : Gt} {s : ByteArray} {c t : Int} (h : (askF G s c t).1 = 0) : askF G s c t = (0, asked G s c t) ∧ 1 ≤ c ∧ c ≤ G.burst ∧ c ≤ (findF G s t).1 := by
  unfold askF at h ⊢
  by_cases h1 : rightB s t = false ∨ c < 1
  · rw [if_pos h1] at h; simp at h
  rw [if_neg h1] at h ⊢
  by_cases h2 : G.burst < c
  · rw [if_pos h2] at h; simp at h
  rw [if_neg h2] at h ⊢
  by_cases h3 : (G.f (kl s)).isSome = false ∧ G.room ≤ (G.n : Int)
  · rw [if_pos h3] at h; simp at h
  rw [if_neg h3] at h ⊢
  by_cases h4 : (findF G s t).1 < c
  · rw [if_pos h4] at h; simp at h
  rw [if_neg h4]
  refine ⟨rfl, ?_, by omega, by omega⟩
  have : ¬ c < 1 := fun h => h1 (.inr h)
  omega
theorem own_no_blk {w : World} {e t : TypeId} {size n g : Nat} {v : Value} {xs : List Value} {cs : Array Value} (h : Own e size w v n xs) (hb : Blk w g cs t) (hne : e ≠ t) : v.ownBlock ≠ some g := by
  intro hv
  rcases h.2 with ⟨rfl, _⟩ | ⟨g', cap, cur, rfl, _, hg, _⟩
  · cases hv
  · have : g' = g := by simpa [Value.ownBlock] using hv
    subst this
    unfold Blk at hb
    rw [hg] at hb
    injection hb with hb
    injection hb with _ hb
    exact hne hb
theorem grow_below {w0 w w' : World} {v : Value} (hb : Below w0.heap.size w0 w) (hg : w.grownBy w' v.ownBlock) (hv : ∀ b, v.ownBlock = some b → w0.heap.size ≤ b) : Below w0.heap.size w0 w' := hb.grown hg hb.size hv
theorem blk_grown {w w' : World} {g : Nat} {cs : Array Value} {t : TypeId} (h : Blk w g cs t) {r : Option Nat} (hg : w.grownBy w' r) (hne : r ≠ some g) : Blk w' g cs t := (hg.block g h.lt (fun e => hne e.symm)).trans h
theorem rd_in {w : World} {v : Value} {L : List (Int × Int)} (h : Own 35 2 w v L.length (flat2 L)) : ∃ a cap, v = .slice a L.length cap ∧ L.length ≤ cap ∧ cap ≤ 9223372036854775807 ∧
    ∀ (i : Nat) (x : Int × Int), L[i]? = some x → ∃ b o, a = some ⟨b, o, none⟩ ∧ w.cell? ⟨b, o + i * 2, none⟩ = some (.int .i64 x.1) ∧ w.cell? ⟨b, o + i * 2 + 1, none⟩ = some (.int .i64 x.2) := by
  obtain ⟨_, a, cap, rfl, h1, h2, _, h5⟩ := h.rd
  refine ⟨a, cap, rfl, h1, h2, fun i x hi => ?_⟩
  obtain ⟨c1, c2⟩ := flat2_get L i x hi
  obtain ⟨b, o, rfl, hc⟩ := h5 _ _ c1
  obtain ⟨b', o', e, hc'⟩ := h5 _ _ c2
  cases e
  exact ⟨b, o, rfl, hc, by rw [Nat.add_assoc]; exact hc'⟩

set_option maxRecDepth 100000 in
set_option maxHeartbeats 4000000 in
theorem bounds_any (b0 e0 : Int) (v : Value) (l : List OpS) (w : World) (hv : RdOps w v l) :
    Calls Try.prog 3 #[.int .i64 b0, .int .i64 e0, v] w fun e w' => e = .returned (.bool true) ∧ Below w.heap.size w w' := by
  obtain ⟨x, hx0, hx1, hx⟩ := u64_mod b0 1000 (by omega) (by omega)
  obtain ⟨y, hy0, hy1, hy⟩ := u64_mod e0 50 (by omega) (by omega)
  obtain ⟨a, cap, rfl, hcap, hbig, hcell⟩ := hv.open
  have Hcell := Lib.hid hcell
  clear hcell hv
  have hmm := @run_makeMap Try.prog
  go_enter Try.func3, Try.ntmps3
  go_wp2_with fail
  rw [hy]
  have Hf := Lib.hid ((fitsB_iff (1 + x) y 9).2 ⟨by omega, by omega, by omega, by omega, by omega, by omega⟩)
  refine (new_ok (1 + x) y 9 _ Hf.out).mono ?_
  rintro e w1 ⟨g, m, rfl, hG1, hg, hm, hb1⟩
  have HG1 := Lib.hid hG1
  have Hb1 := Lib.hid hb1
  clear hG1 hb1
  go_wp2_with fail
  refine (awake_any _).mono ?_
  rintro e w2 ⟨rfl, hb2⟩
  have HG2 := Lib.hid (HG1.out.below hb2)
  have Hb2 := Lib.hid (bel_trans Hb1.out hb2)
  clear hb2 HG1 Hb1
  go_wp2_with fail
  have hm2 := HG2.out.2.lt
  have HQ : Hid (Bnd w (w2.alloc (.map #[] 0)) g m w2.heap.size (newG (1 + x) y 9) (fun _ => none) (fun _ => []) 0 0 0) :=
    Lib.hid ⟨HG2.out.below (below_alloc _ _), newG_ok Hf.out, bel_alloc Hb2.out, hm, by omega, Book.new w w2 Hb2.out.size, fun k => ⟨fun _ => rfl, fun b hb => (by cases hb), by simp⟩, fun k => Nat.le_refl _⟩
  clear HG2 Hb2 hm2 hmm
  generalize w2.heap.size = am at *
  go_loopw [10, 11, 12, 13, 14, 15, 40] (fun tv _ _ _ _ _ i wr => ∃ (k n : Nat) (T : Int) (G : Gt) (F : Lit → Option Value) (L : Lit → List (Int × Int)), k ≤ l.length ∧ k ≤ 60 ∧ n ≤ k ∧ 0 ≤ T ∧ T ≤ 19 * (k : Int) ∧ G.burst = 1 + x ∧ G.each = y ∧ i = .int .i64 k ∧ tv = .int .i64 T ∧ Hid (Bnd w wr g m am G F L T n k)) (fun _ _ _ _ _ _ i _ => l.length - (intOf i).toNat)
  case atStart => exact ⟨0, 0, 0, _, _, _, by omega, by omega, by omega, by omega, by omega, rfl, rfl, rfl, rfl, HQ⟩
  case round =>
    obtain ⟨k, n, T, G, F, L, hk, hk60, hn, hT0, hT1, hGb, hGe, rfl, rfl, HQ⟩ := hrel
    have HGb := Lib.hid hGb
    have HGe := Lib.hid hGe
    clear hGb hGe
    by_cases hlt : k < l.length
    · obtain ⟨z, hz⟩ : ∃ z, l[k]? = some z := ⟨l[k], List.getElem?_eq_getElem hlt⟩
      obtain ⟨zok, bb, o, rfl, c1, c2, c3⟩ := Hcell.out k z hz
      obtain ⟨z1, z2, z3, z4, z5⟩ := zok
      have lb := World.block_lt_of_cell? w _ c1
      have c1' : wr.cell? ⟨bb, o + k * 3, none⟩ = some (.string z.s) := (HQ.out.bel.cell (p := ⟨bb, o + k * 3, none⟩) lb).trans c1
      have c2' : wr.cell? ⟨bb, o + k * 3 + 1, none⟩ = some (.int .i64 z.c) := (HQ.out.bel.cell (p := ⟨bb, o + k * 3 + 1, none⟩) lb).trans c2
      have c3' : wr.cell? ⟨bb, o + k * 3 + 2, none⟩ = some (.int .i64 z.t) := (HQ.out.bel.cell (p := ⟨bb, o + k * 3 + 2, none⟩) lb).trans c3
      clear c1 c2 c3 hz
      obtain ⟨s, co, ti⟩ := z
      simp only at *
      by_cases h60 : k < 60
      · obtain ⟨u, hu0, hu1, hu⟩ := u64_mod ti 20 (by omega) (by omega)
        go_wp2_with fail
        have hbx := HQ.out.gat.2.lt
        have HB0 := Lib.hid (Blk.new wr #[.string s, .int .i64 co, .int .i64 ti] 31)
        have HQ0 := Lib.hid (HQ.out.next (below_alloc wr (.cells #[.string s, .int .i64 co, .int .i64 ti] 31)))
        clear HQ c1' c2' c3' hu
        generalize hgx : wr.heap.size = bx at *
        clear hgx
        refine (ask_any g m G s co (T + u) _ HQ0.out.gat HQ0.out.gok z1 z2).mono ?_
        rintro e w4 ⟨rfl, hG4, hg4⟩
        have HB4 := Lib.hid (HB0.out.grown hg4 (by omega))
        have hbook4 := HQ0.out.book.grown hg4 HQ0.out.amm (fun k v hv => own_no_map (HQ0.out.book.row k v hv).1 HQ0.out.gat.2)
        have hbel4 := below_grown' HQ0.out.bel hg4 HQ0.out.mge
        by_cases he : (askF G s co (T + u)).1 = 0
        · obtain ⟨hy1', hc1, hc2, hc3⟩ := askF_yes he
          rw [hy1'] at hG4 ⊢
          have hok4 : (asked G s co (T + u)).ok := by have := askF_ok HQ0.out.gok s co (T + u); rwa [hy1'] at this
          have hinv := (HQ0.out.inv (kl s)).step HQ0.out.gok (T' := T + u) (by omega) (by omega) (by omega) hc1 hc2 hc3
          have hlen := HQ0.out.len (kl s)
          have hinvo := HQ0.out.inv
          have hleno := HQ0.out.len
          have hmge := HQ0.out.mge
          have hamm := HQ0.out.amm
          have hcap2 : co ≤ 1 + x := by rw [← HGb.out]; exact hc2
          have Hgok := Lib.hid HQ0.out.gok
          have Hc3 := Lib.hid hc3
          clear HQ0 HB0 hy1' he hg4 hc2 hc3
          have k0 : w4.cell? ⟨bx, 0, none⟩ = some (.string s) := HB4.out.cell 0
          have k1 : w4.cell? ⟨bx, 1, none⟩ = some (.int .i64 co) := HB4.out.cell 1
          have k2 : w4.cell? ⟨bx, 2, none⟩ = some (.int .i64 ti) := HB4.out.cell 2
          have hlook := hbook4.map.look1 key9 Try.underlying29 (zero33 w4) (keyOf9 s z1)
          obtain ⟨hrow, hrowge⟩ := hbook4.look (kl s)
          have Hrow := Lib.hid hrow
          have Hrowge := Lib.hid hrowge
          have Hbook4 := Lib.hid hbook4
          have HG4 := Lib.hid hG4
          have Hbel4 := Lib.hid hbel4
          have Hok4 := Lib.hid hok4
          have Hinv := Lib.hid hinv
          have Hinvo := Lib.hid hinvo
          have Hleno := Lib.hid hleno
          clear hrow hrowge hbook4 hG4 hbel4 hok4 hinv hinvo hleno
          generalize hv0 : (F (kl s)).getD (.slice none 0 0) = v0 at *
          have Hv0 := Lib.hid hv0
          clear hv0
          go_wp2_with (at_builtin; apply Hold.mk)
          unfold Hold
          refine wpList_app rfl _ _ 33 rfl ok33 (by rfl) (by rfl) (Hrow.out.below' (below_alloc w4 _)) (own_lit w4 35 2 #[.int .i64 co, .int .i64 (T + u)] 1 (by simp [maxLen]) rfl).rd (by intro z hz; exact flat2_one [(co, T + u)] z hz) (by simp only [maxLen]; omega) (by omega) ?_
          intro v5 w5 ho5 hg5 hn5
          have ho5' : Own 35 2 w5 v5 (L (kl s) ++ [(co, T + u)]).length (flat2 (L (kl s) ++ [(co, T + u)])) := by
            rw [List.length_append, flat2_append]
            exact ho5
          have hbel5 : Below w.heap.size w w5 := grow_below (bel_alloc Hbel4.out) hg5 Hrowge.out
          have hB5 : Blk w5 bx #[.string s, .int .i64 co, .int .i64 ti] 31 := blk_grown (HB4.out.next (below_alloc w4 _)) hg5 (own_no_blk (Hrow.out.below' (below_alloc w4 (.cells #[.int .i64 co, .int .i64 (T + u)] 35))) (HB4.out.next (below_alloc w4 _)) (by decide))
          have hgat5 : GateAt w5 g m (asked G s co (T + u)) := (HG4.out.below (below_alloc w4 (.cells #[.int .i64 co, .int .i64 (T + u)] 35))).grown hg5 (fun e => own_no_gate (Hrow.out.below' (below_alloc w4 (.cells #[.int .i64 co, .int .i64 (T + u)] 35))) (HG4.out.below (below_alloc w4 _)) e.symm) (fun e => own_no_map (Hrow.out.below' (below_alloc w4 (.cells #[.int .i64 co, .int .i64 (T + u)] 35))) (HG4.out.below (below_alloc w4 _)).2 e.symm)
          have hmap5 : MapIs Try.prog 9 w5 am F n := (Hbook4.out.map.alloc (.cells #[.int .i64 co, .int .i64 (T + u)] 35)).grown hg5 (fun e => own_no_map (Hrow.out.below' (below_alloc w4 (.cells #[.int .i64 co, .int .i64 (T + u)] 35))) (Hbook4.out.map.alloc _) e.symm)
          obtain ⟨w6, hrun, hm6, hgr⟩ := hmap5.put key9 Try.underlying29 (by unfold maxLen; omega) v5 (keyOf9 s z1) trivial
          have hbook6 : Book w w6 am (upd F (kl s) v5) (setL L (kl s) (L (kl s) ++ [(co, T + u)])) (if (F (kl s)).isSome then n else n + 1) :=
            (Hbook4.out.below (below_alloc w4 (.cells #[.int .i64 co, .int .i64 (T + u)] 35))).push (kl s) ho5' (by rw [Hv0.out]; exact hg5) (by rw [Hv0.out]; exact hn5) (bel_alloc Hbel4.out).size hm6 hgr hmap5
          have hl6 : Own 35 2 w6 v5 (L (kl s) ++ [(co, T + u)]).length (flat2 (L (kl s) ++ [(co, T + u)])) := by
            have := hbook6.row (kl s) v5 (by unfold upd; rw [if_pos rfl])
            have e : setL L (kl s) (L (kl s) ++ [(co, T + u)]) (kl s) = L (kl s) ++ [(co, T + u)] := by unfold setL; rw [if_pos rfl]
            rw [e] at this
            exact this.1
          have HQ6 : Hid (Bnd w w6 g m am (asked G s co (T + u)) (upd F (kl s) v5) (setL L (kl s) (L (kl s) ++ [(co, T + u)])) (T + u) (if (F (kl s)).isSome then n else n + 1) (k + 1)) := Lib.hid (by
            refine ⟨hgat5.grown hgr (fun e => ?_) (fun e => hamm (by injection e with e; exact e.symm)), Hok4.out, below_grown' hbel5 hgr Hbook4.out.ge, hmge, hamm, hbook6, fun q => ?_, fun q => ?_⟩
            · obtain ⟨D, ⟨es, clock, hb, _⟩, _⟩ := hmap5
              have e' : g = am := by injection e
              rw [← e', hgat5.1] at hb
              cases hb
            · unfold setL
              by_cases e : q = kl s
              · subst e
                rw [if_pos rfl]
                have := Hinv.out
                have e2 : (asked G s co (T + u)).f (kl s) = some ((findF G s (T + u)).1 - co, (findF G s (T + u)).2) := setF_same _ _ _
                rw [e2]
                exact ⟨this.none_, this.some_, this.each_⟩
              · rw [if_neg e]
                have e2 : (asked G s co (T + u)).f q = G.f q := setF_other _ _ e
                rw [e2]
                have := (Hinvo.out q).later (T' := T + u) (by omega)
                exact ⟨this.none_, this.some_, this.each_⟩
            · unfold setL
              by_cases e : q = kl s
              · rw [if_pos e, List.length_append]; simp only [List.length_singleton]; omega
              · rw [if_neg e]; exact Nat.le_succ_of_le (Hleno.out q))
          have Hn6 : Hid ((if (F (kl s)).isSome then n else n + 1) ≤ k + 1) := Lib.hid (by split <;> omega)
          have HIE := Hinv.out.each_
          have HBD : Hid (∀ j z, (L (kl s) ++ [(co, T + u)])[j]? = some z → tot ((L (kl s) ++ [(co, T + u)]).drop j) ≤ (1 + x) + y * (T + u - z.2) ∧ 1 ≤ z.1 ∧ z.1 ≤ 1 + x ∧ 0 ≤ z.2 ∧ z.2 ≤ T + u) := Lib.hid (by
            intro j z hz
            have q1 := Hinv.out.bound (G := G) Hgok.out (by have := Hc3.out; simp only; omega) j z hz
            rw [HGb.out, HGe.out] at q1
            have q2 := HIE z (List.mem_of_getElem? hz)
            rw [HGb.out] at q2
            exact ⟨q1, q2⟩)
          have HTB : Hid (∀ j, 0 ≤ tot ((L (kl s) ++ [(co, T + u)]).drop j) ∧ tot ((L (kl s) ++ [(co, T + u)]).drop j) ≤ 61 * 1000) := Lib.hid (by
            intro j
            have q1 := tot_bound ((L (kl s) ++ [(co, T + u)]).drop j) 1000 (fun z hz => by have := HIE z (List.mem_of_mem_drop hz); rw [HGb.out] at this; omega)
            have q2 : ((L (kl s) ++ [(co, T + u)]).drop j).length ≤ 61 := by
              rw [List.length_drop, List.length_append, List.length_singleton]; omega
            refine ⟨q1.1, Int.le_trans q1.2 ?_⟩
            have : (((L (kl s) ++ [(co, T + u)]).drop j).length : Int) ≤ 61 := by omega
            exact Int.mul_le_mul_of_nonneg_right this (by omega))
          have hLL : (L (kl s) ++ [(co, T + u)]).length ≤ 61 := by rw [List.length_append, List.length_singleton]; omega
          have k0' : w5.cell? ⟨bx, 0, none⟩ = some (.string s) := hB5.cell 0
          have Hl6 := Lib.hid hl6
          clear ho5 hg5 hn5 ho5' hbel5 hgat5 hmap5 hm6 hgr hbook6 hl6 k0 k1 k2 hlook Hrow Hrowge Hbook4 HG4 Hbel4 Hok4 Hinv Hinvo Hleno Hv0 HB4 hB5 HIE
          generalize L (kl s) ++ [(co, T + u)] = LL at *
          obtain ⟨ra, rc, rfl, hr1, hr2, hr3⟩ := rd_in Hl6.out
          have Hr3 := Lib.hid hr3
          clear hr3
          go_wp2_with fail
          go_loop [14, 15] (fun sv kv => ∃ j : Nat, j ≤ LL.length ∧ kv = .int .i64 ((j : Int) - 1) ∧ sv = .int .i64 (tot (LL.drop j))) (fun _ kv => (intOf kv + 1).toNat)
          case atStart => exact ⟨LL.length, Nat.le_refl _, rfl, by rw [List.drop_length]; rfl⟩
          case round =>
            obtain ⟨j, hj, rfl, rfl⟩ := hrel
            match j, hj with
            | 0, hj =>
              rw [show (((0 : Nat) : Int) - 1) = -1 by omega]
              go_wp2_with fail
              go_roundw
              case rel => exact ⟨k + 1, _, _, asked G s co (T + u), _, _, by omega, by omega, Hn6.out, by omega, by omega, HGb.out, HGe.out, by go_num, rfl, HQ6⟩
              case measure => simp [intOf]; omega
            | j + 1, hj =>
              rw [show (((j + 1 : Nat) : Int) - 1) = (j : Int) by omega]
              obtain ⟨z, hz⟩ : ∃ z, LL[j]? = some z := ⟨LL[j], List.getElem?_eq_getElem (by omega)⟩
              obtain ⟨rb, ro, rfl, e1, e2⟩ := Hr3.out j z hz
              obtain ⟨q1, q2, q3, q4, q5⟩ := HBD.out j z hz
              have q6 := HTB.out j
              have q7 := HTB.out (j + 1)
              have hd := tot_drop LL j z hz
              rw [hd] at q1 q6
              have q8 : 0 ≤ y * (T + u - z.2) := Int.mul_nonneg hy0 (by omega)
              have q9 : y * (T + u - z.2) ≤ 49 * 2000 := Int.le_trans (Int.mul_le_mul_of_nonneg_right (show y ≤ 49 by omega) (show 0 ≤ T + u - z.2 by omega)) (Int.mul_le_mul_of_nonneg_left (by omega) (by omega))
              have Hd := Lib.hid hd
              obtain ⟨zc, zt⟩ := z
              simp only at e1 e2 q1 q2 q3 q4 q5 q6 q8 q9
              have dd : decide (1 + x + y * (T + u - zt) < tot (LL.drop (j + 1)) + zc) = false := by simp only [decide_eq_false_iff_not]; omega
              clear hd hz
              have hj0 : (0 : Int) ≤ (j : Int) := by omega
              have hj1 : (j : Int) < (LL.length : Int) := by omega
              go_wp2_with fail
              go_round
              case rel => exact ⟨j, by omega, rfl, by rw [Hd.out]; simp only; congr 1; omega⟩
              case measure => simp [intOf]
        · have hno := askF_no he
          rw [hno] at hG4
          have d0 : ((askF G s co (T + u)).1 != 0) = true := by simpa using he
          have HQ4 : Hid (Bnd w w4 g m am G F L (T + u) n (k + 1)) := Lib.hid ⟨hG4, HQ0.out.gok, hbel4, HQ0.out.mge, HQ0.out.amm, hbook4, fun k => (HQ0.out.inv k).later (by omega), fun k' => Nat.le_succ_of_le (HQ0.out.len k')⟩
          clear hG4 hg4 hbook4 hbel4 HQ0 HB0 HB4 he hno
          go_wp2_with fail
          go_roundw
          case rel => exact ⟨k + 1, n, _, G, F, L, by omega, by omega, by omega, by omega, by omega, HGb.out, HGe.out, by go_num, rfl, HQ4⟩
          case measure => simp [intOf]; omega
      · go_wp2_with fail
        go_ret
        exact ⟨rfl, bel_alloc HQ.out.bel⟩
    · go_wp2_with fail
      go_ret
      exact ⟨rfl, HQ.out.bel⟩
end Go.Proofs.Ytjeecffhclhbaaa
