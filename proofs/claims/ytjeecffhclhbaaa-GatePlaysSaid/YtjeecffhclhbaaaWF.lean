/- Gates: the document's gate: Ask (12). -/
import Derived.Test.YtjeecffhclhbaaaWE
namespace Go.Proofs.Ytjeecffhclhbaaa
open Go.RowKit Go.Kt

def skip (i : Int) : Nat → List Cl → List Cl
  | _, [] => []
  | j, x :: t => if (j : Int) = i then skip i (j + 1) t else x :: skip i (j + 1) t
theorem skip_append (i : Int) (b : List Cl) : ∀ (a : List Cl) (j : Nat), skip i j (a ++ b) = skip i j a ++ skip i (j + a.length) b
  | [], j => by simp [skip]
  | x :: t, j => by
    simp only [List.cons_append, skip, List.length_cons]
    rw [skip_append i b t (j + 1), show j + 1 + t.length = j + (t.length + 1) by omega]
    split <;> rfl
theorem skip_sub (i : Int) : ∀ (l : List Cl) (j : Nat), (skip i j l).Sublist l
  | [], _ => List.Sublist.refl _
  | x :: t, j => by
    simp only [skip]
    split
    · exact (skip_sub i t (j + 1)).cons x
    · exact (skip_sub i t (j + 1)).cons_cons x
theorem skip_mem (i : Int) (x : Cl) : ∀ (l : List Cl) (j p : Nat), l[p]? = some x → ((j + p : Nat) : Int) ≠ i → x ∈ skip i j l
  | [], _, _, h, _ => by simp at h
  | y :: t, j, 0, h, hn => by
    simp at h
    subst h
    simp only [skip]
    rw [if_neg (by simpa using hn)]
    simp
  | y :: t, j, p + 1, h, hn => by
    have h2 := skip_mem i x t (j + 1) p (by simpa using h) (by rw [show j + 1 + p = j + (p + 1) by omega]; exact hn)
    simp only [skip]
    split
    · exact h2
    · exact List.mem_cons_of_mem _ h2
theorem skip_none (i : Int) : ∀ (l : List Cl) (j : Nat), (∀ p : Nat, ((j + p : Nat) : Int) ≠ i) → skip i j l = l
  | [], _, _ => rfl
  | x :: t, j, h => by
    simp only [skip]
    rw [if_neg (by simpa using h 0), skip_none i t (j + 1) (fun p => by rw [show j + 1 + p = j + (p + 1) by omega]; exact h (p + 1))]
theorem skip_hit (i : Int) : ∀ (l : List Cl) (j p : Nat), ((j + p : Nat) : Int) = i → ∀ x, l[p]? = some x → (skip i j l).length + 1 = l.length ∧ (x.name ∉ ((l.eraseIdx p).map (·.name)) → ∀ y ∈ skip i j l, y.name ≠ x.name)
  | [], _, _, _, x, h => by simp at h
  | y :: t, j, 0, hi, x, h => by
    simp at h
    subst h
    have e : skip i (j + 1) t = t := skip_none i t (j + 1) (fun p => by omega)
    simp only [skip]
    rw [if_pos (by simpa using hi), e]
    refine ⟨by simp, fun hn z hz he => hn ?_⟩
    simp only [List.eraseIdx_cons_zero, List.mem_map]
    exact ⟨z, hz, he⟩
  | y :: t, j, p + 1, hi, x, h => by
    obtain ⟨h1, h2⟩ := skip_hit i t (j + 1) p (by omega) x (by simpa using h)
    simp only [skip]
    rw [if_neg (by omega)]
    refine ⟨by simp only [List.length_cons]; omega, fun hn z hz => ?_⟩
    simp only [List.eraseIdx_cons_succ, List.map_cons, List.mem_cons, not_or] at hn
    rcases List.mem_cons.1 hz with rfl | hz
    · exact fun e => hn.1 e.symm
    · exact h2 hn.2 z hz
theorem skip_hit_ne {i : Int} {l : List Cl} {p : Nat} {x : Cl} (hi : (p : Int) = i) (hx : l[p]? = some x) (hn : (l.map (·.name)).Nodup) : ∀ y ∈ skip i 0 l, y.name ≠ x.name := by
  refine (skip_hit i l 0 p (by omega) x hx).2 ?_
  intro hm
  obtain ⟨hp, rfl⟩ := List.getElem?_eq_some_iff.1 hx
  obtain ⟨y, hy, he⟩ := List.mem_map.1 hm
  obtain ⟨q, hq, hqp, rfl⟩ := List.mem_eraseIdx_iff_getElem.1 hy
  have := (List.getElem_inj (xs := l.map (·.name)) (i := q) (j := p) (h₀ := by simpa using hq) (h₁ := by simpa using hp) hn).1 (by simpa using he)
  exact hqp this
theorem found_same {G : Gt} {l : List Cl} (hS : Same G l) {s : ByteArray} {i : Int} (hf : Found l s i) (cost t : Int) :
    Same (asked G s cost t) (skip i 0 l ++ [Cl.mk s ((findF G s t).1 - cost) (findF G s t).2]) := by
  have hne : ∀ y ∈ skip i 0 l, y.name ≠ s := by
    rcases hf with ⟨rfl, hno⟩ | ⟨k, x, rfl, hx, rfl⟩
    · exact fun y hy => hno y ((skip_sub _ l 0).subset hy)
    · exact skip_hit_ne rfl hx hS.one
  refine ⟨?_, fun x hx => ?_, fun s' b hb => ?_, ?_⟩
  · show (if (G.f (kl s)).isSome then G.n else G.n + 1) = _
    rw [List.length_append, List.length_singleton]
    rcases hf with ⟨rfl, hno⟩ | ⟨k, x, rfl, hx, rfl⟩
    · rw [hS.none hno, skip_none _ l 0 (fun p => by omega), hS.n]; rfl
    · rw [hS.has x (List.mem_of_getElem? hx), (skip_hit _ l 0 k (by simp) x hx).1, hS.n]; rfl
  · show setF G.f (kl s) ((findF G s t).1 - cost, (findF G s t).2) (kl x.name) = _
    rcases List.mem_append.1 hx with hx | hx
    · rw [setF_other _ _ (fun e => hne x hx (kl_inj e))]
      exact hS.has x ((skip_sub _ l 0).subset hx)
    · simp at hx
      subst hx
      rw [setF_same]
  · have hb' : setF G.f (kl s) ((findF G s t).1 - cost, (findF G s t).2) (kl s') = some b := hb
    by_cases e : s' = s
    · exact ⟨_, List.mem_append_right _ (List.mem_singleton.2 rfl), e.symm⟩
    · rw [setF_other _ _ (fun h => e (kl_inj h))] at hb'
      obtain ⟨x, hx, he⟩ := hS.only s' b hb'
      refine ⟨x, List.mem_append_left _ ?_, he⟩
      obtain ⟨p, hp⟩ := List.mem_iff_getElem?.1 hx
      refine skip_mem i x l 0 p hp ?_
      rcases hf with ⟨rfl, hno⟩ | ⟨k, z, rfl, hz, rfl⟩
      · omega
      · intro hpk
        have : p = k := by omega
        subst this
        rw [hp] at hz
        cases hz
        exact e he.symm
  · rw [List.map_append, List.nodup_append]
    refine ⟨hS.one.sublist ((skip_sub _ l 0).map _), by simp, fun a ha b hb => ?_⟩
    obtain ⟨y, hy, rfl⟩ := List.mem_map.1 ha
    simp at hb
    subst hb
    exact hne y hy

theorem own_set {e : TypeId} {size n : Nat} {w : World} {v : Value} {xs : List Value} (h : Own e size w v n xs) {p : Addr} (hp : ∀ b, v.ownBlock = some b → b ≠ p.block) (u : Value) : Own e size (w.setCell p u) v n xs :=
  h.keep fun b hb => heap_setCell_other w p b u (hp b hb)
theorem askF_ok4 {G : Gt} {s : ByteArray} {cost t : Int} (ha : ¬ (rightB s t = false ∨ cost < 1)) (hb : ¬ G.burst < cost) (hr : ¬ ((G.f (kl s)).isSome = false ∧ G.room ≤ (G.n : Int))) :
    (findF G s t).1 < cost → askF G s cost t = (4, G) := fun h => by unfold askF; rw [if_neg ha, if_neg hb, if_neg hr, if_pos h]
theorem askF_ok0 {G : Gt} {s : ByteArray} {cost t : Int} (ha : ¬ (rightB s t = false ∨ cost < 1)) (hb : ¬ G.burst < cost) (hr : ¬ ((G.f (kl s)).isSome = false ∧ G.room ≤ (G.n : Int))) :
    ¬ (findF G s t).1 < cost → askF G s cost t = (0, asked G s cost t) := fun h => by unfold askF; rw [if_neg ha, if_neg hb, if_neg hr, if_neg h]
theorem rasks_yes {G : Gt} {l : List Cl} (hS : Same G l) {s : ByteArray} {i : Int} (hf : Found l s i) {cost t : Int} {w w' : World} {v : Value} (h : askF G s cost t = (0, asked G s cost t))
    (hv : RdCl w' v (skip i 0 l ++ [Cl.mk s ((findF G s t).1 - cost) (findF G s t).2])) (hb : Below w.heap.size w w') :
    ∃ v' l', Ending.returned (.tuple #[.int .i64 0, .agg #[.int .i64 G.burst, .int .i64 G.each, .int .i64 G.room, v]]) = .returned (.tuple #[.int .i64 (askF G s cost t).1, .agg #[.int .i64 G.burst, .int .i64 G.each, .int .i64 G.room, v']]) ∧ RdCl w' v' l' ∧ Same (askF G s cost t).2 l' ∧ Below w.heap.size w w' := by
  refine ⟨v, _, by rw [h], hv, ?_, hb⟩
  rw [h]
  exact found_same hS hf cost t

theorem rd_drew {size n : Nat} {w : World} {v : Value} {xs : List Value} (h : RdRow size w v n xs) : RdRow size w.drew v n xs := h
theorem own5 {w7 : World} {v : Value} {n b1 b2 : Nat} {xs : List Value} {u1 u2 u3 u4 u5 : Value} (h : Own 58 3 w7 v n xs) (h1 : ∀ b, v.ownBlock = some b → b ≠ b1 ∧ b ≠ b2) :
    RdRow 3 (((((w7.setCell ⟨b1, 3, none⟩ u1).setCell ⟨b2, 0, none⟩ u2).setCell ⟨b2, 1, none⟩ u3).setCell ⟨b2, 2, none⟩ u4).setCell ⟨b2, 3, none⟩ u5).drew v n xs := by
  have h0 := own_set (p := ⟨b1, 3, none⟩) h (fun b hb => (h1 b hb).1) u1
  have h2 := own_set (p := ⟨b2, 0, none⟩) h0 (fun b hb => (h1 b hb).2) u2
  have h3 := own_set (p := ⟨b2, 1, none⟩) h2 (fun b hb => (h1 b hb).2) u3
  have h4 := own_set (p := ⟨b2, 2, none⟩) h3 (fun b hb => (h1 b hb).2) u4
  have h5 := own_set (p := ⟨b2, 3, none⟩) h4 (fun b hb => (h1 b hb).2) u5
  exact rd_drew (Own.rd h5)
theorem bel5 {w w7 : World} {b1 b2 : Nat} {u1 u2 u3 u4 u5 : Value} (h : Below w.heap.size w w7) (h1 : w.heap.size ≤ b1) (h2 : w.heap.size ≤ b2) :
    Below w.heap.size w (((((w7.setCell ⟨b1, 3, none⟩ u1).setCell ⟨b2, 0, none⟩ u2).setCell ⟨b2, 1, none⟩ u3).setCell ⟨b2, 2, none⟩ u4).setCell ⟨b2, 3, none⟩ u5).drew :=
  by
  have k1 := bel_set (p := ⟨b1, 3, none⟩) (u := u1) h h1
  have k2 := bel_set (p := ⟨b2, 0, none⟩) (u := u2) k1 h2
  have k3 := bel_set (p := ⟨b2, 1, none⟩) (u := u3) k2 h2
  have k4 := bel_set (p := ⟨b2, 2, none⟩) (u := u4) k3 h2
  have k5 := bel_set (p := ⟨b2, 3, none⟩) (u := u5) k4 h2
  exact bel_drew k5

/-- what the document's Ask answers -/
def RAsks (G : Gt) (s : ByteArray) (cost t : Int) (w : World) (en : Ending) (w' : World) : Prop :=
  ∃ v' l', en = .returned (.tuple #[.int .i64 (askF G s cost t).1, .agg #[.int .i64 G.burst, .int .i64 G.each, .int .i64 G.room, v']]) ∧ RdCl w' v' l' ∧ Same (askF G s cost t).2 l' ∧ Below w.heap.size w w'
theorem rasks_no {G : Gt} {s : ByteArray} {cost t c : Int} {w w' : World} {v : Value} {l : List Cl} (h : askF G s cost t = (c, G)) (hv : RdCl w' v l) (hS : Same G l) (hb : Below w.heap.size w w') :
    RAsks G s cost t w (.returned (.tuple #[.int .i64 c, .agg #[.int .i64 G.burst, .int .i64 G.each, .int .i64 G.room, v]])) w' := by
  refine ⟨v, l, ?_, hv, ?_, hb⟩
  · rw [h]
  · rw [h]; exact hS

set_option maxHeartbeats 2000000 in
theorem refask_any (G : Gt) (v : Value) (l : List Cl) (s : ByteArray) (cost t : Int) (w : World) (hv : RdCl w v l) (hS : Same G l) (hok : G.ok) (hs : s.size ≤ 9223372036854775807) (hcl : -9223372036854775808 ≤ cost) :
    Calls Try.prog 12 #[.agg #[.int .i64 G.burst, .int .i64 G.each, .int .i64 G.room, v], .string s, .int .i64 cost, .int .i64 t] w (RAsks G s cost t w) := by
  have Hv := Lib.hid hv
  have Hok := Lib.hid hok
  have HS := Lib.hid hS
  obtain ⟨a, cap, rfl, hcap, hbig, hcell⟩ := hv.open
  have Hcell := Lib.hid hcell
  clear hcell hv hS
  obtain ⟨o1, o2, o3, o4, o5, o6, o7, o8⟩ := hok
  clear o8
  have hB0 : Blk ((w.alloc (.cells #[.int .i64 G.burst, .int .i64 G.each, .int .i64 G.room, .slice a l.length cap] 42)).alloc (.cells #[.int .i64 0, .int .i64 0, .int .i64 0, .slice none 0 0] 42)) w.heap.size #[.int .i64 G.burst, .int .i64 G.each, .int .i64 G.room, .slice a l.length cap] 42 := (Blk.new w #[.int .i64 G.burst, .int .i64 G.each, .int .i64 G.room, .slice a l.length cap] 42).next (below_alloc _ _)
  have HB0 := Lib.hid hB0
  have Hb0 : Hid (Below w.heap.size w ((w.alloc (.cells #[.int .i64 G.burst, .int .i64 G.each, .int .i64 G.room, .slice a l.length cap] 42)).alloc (.cells #[.int .i64 0, .int .i64 0, .int .i64 0, .slice none 0 0] 42))) := Lib.hid (bel_alloc (bel_alloc (bel_refl _)))
  clear hB0
  cases hr : rightB s t with
  | false =>
    have HF : Hid (askF G s cost t = (1, G)) := Lib.hid (by unfold askF; rw [if_pos (.inl hr)])
    have Hr := Lib.hid hr
    clear hr
    go_enter Try.func12, Try.ntmps12
    go_wp2_with (go_at_call 14; refine (refright_any s t _ hs).mono ?_; rw [Hr.out]; rintro e w1 ⟨rfl, rfl⟩)
    go_region
    all_goals (go_wp2_with fail)
    all_goals (exact bodyPost_ret (v := .tuple #[.int .i64 1, .agg #[.int .i64 G.burst, .int .i64 G.each, .int .i64 G.room, .slice a l.length cap]]) (by simp [results, Try.results12, go_sem]) rfl (rasks_no HF.out (Hv.out.below (by repeat (first | exact bel_refl _ | assumption | apply bel_alloc | apply bel_drew | apply bel_drewN | (refine bel_set ?_ (by simp))))) HS.out (by repeat (first | exact bel_refl _ | assumption | apply bel_alloc | apply bel_drew | apply bel_drewN | (refine bel_set ?_ (by simp))))))
  | true =>
    obtain ⟨t1, t2⟩ := rightB_t hr
    have Hr := Lib.hid hr
    clear hr
    by_cases h1 : cost < 1
    · have HF : Hid (askF G s cost t = (1, G)) := Lib.hid (by unfold askF; rw [if_pos (.inr h1)])
      go_enter Try.func12, Try.ntmps12
      go_wp2_with (go_at_call 14; refine (refright_any s t _ hs).mono ?_; rw [Hr.out]; rintro e w1 ⟨rfl, rfl⟩)
      go_region
      all_goals (go_wp2_with fail)
      all_goals (exact bodyPost_ret (v := .tuple #[.int .i64 1, .agg #[.int .i64 G.burst, .int .i64 G.each, .int .i64 G.room, .slice a l.length cap]]) (by simp [results, Try.results12, go_sem]) rfl (rasks_no HF.out (Hv.out.below (by repeat (first | exact bel_refl _ | assumption | apply bel_alloc | apply bel_drew | apply bel_drewN | (refine bel_set ?_ (by simp))))) HS.out (by repeat (first | exact bel_refl _ | assumption | apply bel_alloc | apply bel_drew | apply bel_drewN | (refine bel_set ?_ (by simp))))))
    have HA : Hid (¬ (rightB s t = false ∨ cost < 1)) := Lib.hid (fun h => h.elim (fun h => by rw [Hr.out] at h; cases h) h1)
    by_cases h2 : G.burst < cost
    · have HF : Hid (askF G s cost t = (8, G)) := Lib.hid (by unfold askF; rw [if_neg HA.out, if_pos h2])
      go_enter Try.func12, Try.ntmps12
      go_wp2_with (go_at_call 14; refine (refright_any s t _ hs).mono ?_; rw [Hr.out]; rintro e w1 ⟨rfl, rfl⟩)
      go_region
      all_goals (go_wp2_with fail)
      all_goals (exact bodyPost_ret (v := .tuple #[.int .i64 8, .agg #[.int .i64 G.burst, .int .i64 G.each, .int .i64 G.room, .slice a l.length cap]]) (by simp [results, Try.results12, go_sem]) rfl (rasks_no HF.out (Hv.out.below (by repeat (first | exact bel_refl _ | assumption | apply bel_alloc | apply bel_drew | apply bel_drewN | (refine bel_set ?_ (by simp))))) HS.out (by repeat (first | exact bel_refl _ | assumption | apply bel_alloc | apply bel_drew | apply bel_drewN | (refine bel_set ?_ (by simp))))))
    have HC : Hid (¬ G.burst < cost) := Lib.hid h2
    go_enter Try.func12, Try.ntmps12
    go_wp2_with (go_at_call 14; refine (refright_any s t _ hs).mono ?_; rw [Hr.out]; rintro e w1 ⟨rfl, rfl⟩)
    refine (find18 G.burst G.each G.room _ l s _ (Hv.out.below Hb0.out)).mono ?_
    rintro en w2 ⟨i, rfl, hf, hb2⟩
    have HB2 := Lib.hid (HB0.out.next hb2)
    have Hf := Lib.hid hf
    have Hb2 := Lib.hid (bel_trans Hb0.out hb2)
    have HR2 : Hid (Blk w2 (w.heap.size + 1) #[.int .i64 0, .int .i64 0, .int .i64 0, .slice none 0 0] 42) := Lib.hid (by
      have hb := (Blk.new (w.alloc (.cells #[.int .i64 G.burst, .int .i64 G.each, .int .i64 G.room, .slice a l.length cap] 42)) #[.int .i64 0, .int .i64 0, .int .i64 0, .slice none 0 0] 42).next hb2
      simp only [World.size_alloc] at hb
      exact hb)
    clear hb2 hf HB0 Hb0
    have g0 : w2.cell? ⟨w.heap.size, 0, none⟩ = some (.int .i64 G.burst) := HB2.out.cell 0
    have g1 : w2.cell? ⟨w.heap.size, 1, none⟩ = some (.int .i64 G.each) := HB2.out.cell 1
    have g2 : w2.cell? ⟨w.heap.size, 2, none⟩ = some (.int .i64 G.room) := HB2.out.cell 2
    have g3 : w2.cell? ⟨w.heap.size, 3, none⟩ = some (.slice a l.length cap) := HB2.out.cell 3
    go_wp2_with fail
    refine (has15 G _ l s t _ (Hv.out.below Hb2.out) HS.out Hok.out t1 t2).mono ?_
    rintro en w3 ⟨rfl, hb3⟩
    have HB3 := Lib.hid (HB2.out.next hb3)
    have HR3 := Lib.hid (HR2.out.next hb3)
    have Hb3 := Lib.hid (bel_trans Hb2.out hb3)
    clear hb3 HB2 HR2 Hb2 g0 g1 g2 g3
    have g0 : w3.cell? ⟨w.heap.size, 0, none⟩ = some (.int .i64 G.burst) := HB3.out.cell 0
    have g1 : w3.cell? ⟨w.heap.size, 1, none⟩ = some (.int .i64 G.each) := HB3.out.cell 1
    have g2 : w3.cell? ⟨w.heap.size, 2, none⟩ = some (.int .i64 G.room) := HB3.out.cell 2
    have g3 : w3.cell? ⟨w.heap.size, 3, none⟩ = some (.slice a l.length cap) := HB3.out.cell 3
    have r0 : w3.cell? ⟨w.heap.size + 1, 0, none⟩ = some (.int .i64 0) := HR3.out.cell 0
    have r1 : w3.cell? ⟨w.heap.size + 1, 1, none⟩ = some (.int .i64 0) := HR3.out.cell 1
    have r2 : w3.cell? ⟨w.heap.size + 1, 2, none⟩ = some (.int .i64 0) := HR3.out.cell 2
    have r3 : w3.cell? ⟨w.heap.size + 1, 3, none⟩ = some (.slice none 0 0) := HR3.out.cell 3
    have p0 := frozen_of_row _ _ 0 _ _ HR3.out
    have p1 := frozen_of_row _ _ 1 _ _ HR3.out
    have p2 := frozen_of_row _ _ 2 _ _ HR3.out
    have p3 := frozen_of_row _ _ 3 _ _ HR3.out
    have hlr := HR3.out.lt
    have hlr0 := HB3.out.lt
    obtain ⟨q1, q2, q3, q4⟩ := findF_ok G Hok.out s t t1 t2
    have Hln : Hid ((l.length : Int) = G.n) := Lib.hid (by rw [HS.out.n])
    have hl6 : l.length ≤ 65536 := by have := Hln.out; omega
    rcases Hf.out with ⟨rfl, hno⟩ | ⟨k, x, rfl, hx, he⟩
    · have HN : Hid (G.f (kl s) = none) := Lib.hid (HS.out.none hno)
      clear hno
      by_cases hroom : G.room ≤ (l.length : Int)
      · have HF : Hid (askF G s cost t = (4, G)) := Lib.hid (by unfold askF; rw [if_neg HA.out, if_neg (by have := HC.out; omega), if_pos ⟨by rw [HN.out]; rfl, by have := Hln.out; omega⟩])
        have d1 : decide (G.room ≤ (l.length : Int)) = true := by simpa using hroom
        go_wp2_with fail
        go_region
        all_goals (go_wp2_with fail)
        all_goals (exact bodyPost_ret (v := .tuple #[.int .i64 4, .agg #[.int .i64 G.burst, .int .i64 G.each, .int .i64 G.room, .slice a l.length cap]]) (by simp [results, Try.results12, go_sem, r0, r1, r2, r3]) rfl (rasks_no HF.out (Hv.out.below (by repeat (first | exact Hb3.out | assumption | apply bel_alloc | apply bel_drew | apply bel_drewN | (refine bel_set ?_ (by simp))))) HS.out (by repeat (first | exact Hb3.out | assumption | apply bel_alloc | apply bel_drew | apply bel_drewN | (refine bel_set ?_ (by simp))))))
      have HR : Hid (¬ ((G.f (kl s)).isSome = false ∧ G.room ≤ (G.n : Int))) := Lib.hid (fun h => by have := Hln.out; have := h.2; omega)
      have d1 : decide (G.room ≤ (l.length : Int)) = false := by simpa using hroom
      by_cases hlow : (findF G s t).1 < cost
      · have HF : Hid (askF G s cost t = (4, G)) := Lib.hid (askF_ok4 HA.out (by have := HC.out; omega) HR.out hlow)
        go_wp2_with fail
        go_region
        all_goals (go_wp2_with fail)
        all_goals (exact bodyPost_ret (v := .tuple #[.int .i64 4, .agg #[.int .i64 G.burst, .int .i64 G.each, .int .i64 G.room, .slice a l.length cap]]) (by simp [results, Try.results12, go_sem, r0, r1, r2, r3]) rfl (rasks_no HF.out (Hv.out.below (by repeat (first | exact Hb3.out | assumption | apply bel_alloc | apply bel_drew | apply bel_drewN | (refine bel_set ?_ (by simp))))) HS.out (by repeat (first | exact Hb3.out | assumption | apply bel_alloc | apply bel_drew | apply bel_drewN | (refine bel_set ?_ (by simp))))))
      have HF : Hid (askF G s cost t = (0, asked G s cost t)) := Lib.hid (askF_ok0 HA.out (by have := HC.out; omega) HR.out hlow)
      have HT : Hid ((findF G s t).2 = t) := Lib.hid (by unfold findF; rw [HN.out])
      go_wp2_with fail
      have hbW : Below w3.heap.size w3 (w3.alloc (.cells #[.string s, .int .i64 ((findF G s t).1 - cost), .int .i64 t] 58)) := below_alloc _ _
      have HW : Hid (Blk (w3.alloc (.cells #[.string s, .int .i64 ((findF G s t).1 - cost), .int .i64 t] 58)) w3.heap.size #[.string s, .int .i64 ((findF G s t).1 - cost), .int .i64 t] 58) := Lib.hid (Blk.new _ _ _)
      have HB4 := Lib.hid (HB3.out.next hbW)
      have HR4 := Lib.hid (HR3.out.next hbW)
      have Hb4 := Lib.hid (bel_trans Hb3.out hbW)
      have hw3 : w.heap.size + 1 < w3.heap.size := hlr
      clear hbW HB3 HR3 g0 g1 g2 g3 r0 r1 r2 r3 p0 p1 p2 p3 hlr hlr0
      generalize (w3.alloc (.cells #[.string s, .int .i64 ((findF G s t).1 - cost), .int .i64 t] 58)) = w4 at *
      generalize w3.heap.size = bx at *
      go_loopw [13, 14] (fun out iv wr => ∃ k : Nat, k ≤ l.length ∧ iv = .int .i64 k ∧ Hid (Own 58 3 wr out (skip (-1) 0 (l.take k)).length (flatC (skip (-1) 0 (l.take k)))) ∧ Hid (∀ b, out.ownBlock = some b → w4.heap.size ≤ b) ∧ Hid (Below w4.heap.size w4 wr)) (fun _ iv _ => l.length - (intOf iv).toNat)
      case atStart => exact ⟨0, by omega, rfl, Lib.hid (by simpa [skip, flatC] using own_nil w4 58 3), Lib.hid (fun b hb => (by cases hb)), Lib.hid (bel_refl _)⟩
      case round =>
        obtain ⟨k2, hk2, rfl, Ho, Hob, Hb⟩ := hrel
        have hB := HB4.out.next Hb.out
        have g3 : wr.cell? ⟨w.heap.size, 3, none⟩ = some (.slice a l.length cap) := hB.cell 3
        by_cases hlt : k2 < l.length
        · obtain ⟨z, hz⟩ : ∃ z, l[k2]? = some z := ⟨l[k2], List.getElem?_eq_getElem hlt⟩
          obtain ⟨zb, zo, rfl, c1, c2, c3⟩ := Hcell.out k2 z hz
          have lb := World.block_lt_of_cell? w _ c1
          have c1' : wr.cell? ⟨zb, zo + k2 * 3, none⟩ = some (.string z.name) := ((bel_trans Hb4.out Hb.out).cell (p := ⟨zb, zo + k2 * 3, none⟩) lb).trans c1
          have c2' : wr.cell? ⟨zb, zo + k2 * 3 + 1, none⟩ = some (.int .i64 z.left) := ((bel_trans Hb4.out Hb.out).cell (p := ⟨zb, zo + k2 * 3 + 1, none⟩) lb).trans c2
          have c3' : wr.cell? ⟨zb, zo + k2 * 3 + 2, none⟩ = some (.int .i64 z.tick) := ((bel_trans Hb4.out Hb.out).cell (p := ⟨zb, zo + k2 * 3 + 2, none⟩) lb).trans c3
          have hsn : skip (-1) 0 (l.take (k2 + 1)) = skip (-1) 0 (l.take k2) ++ (if (k2 : Int) = (-1) then [] else [z]) := by
            obtain ⟨hkl, rfl⟩ := List.getElem?_eq_some_iff.1 hz
            rw [List.take_succ_eq_append_getElem hkl, skip_append]
            rw [List.length_take, Nat.min_eq_left (by omega), Nat.zero_add]
            rfl
          have Hsn := Lib.hid hsn
          have hll : (skip (-1) 0 (l.take k2)).length ≤ k2 := Nat.le_trans (skip_sub _ _ _).length_le (by rw [List.length_take]; omega)
          clear c1 c2 c3 hz hsn hB
          by_cases hki : (k2 : Int) = (-1)
          · have d : ((k2 : Int) != (-1)) = false := by simp [hki]
            have Hki := Lib.hid hki
            clear hki
            go_wp2_with fail
            go_roundw
            case rel => exact ⟨k2 + 1, by omega, by go_num, by rw [Hsn.out, if_pos Hki.out, List.append_nil]; exact Ho, Hob, Hb⟩
            case measure => simp [intOf]; omega
          · have d : ((k2 : Int) != (-1)) = true := by rw [bne_iff_ne]; exact hki
            have Hki := Lib.hid hki
            clear hki
            go_wp2_with (at_builtin; apply Hold.mk)
            unfold Hold
            refine wpList_app rfl _ _ 40 rfl ok40 (by rfl) (by rfl) (Ho.out.below' (below_alloc wr _)) (own_lit wr 58 3 #[.string z.name, .int .i64 z.left, .int .i64 z.tick] 1 (by simp [maxLen]) rfl).rd (by intro u hu; exact flatC_one [z] u hu) (by simp only [maxLen]; omega) (by omega) ?_
            intro v7 w7 ho7 hg7 hn7
            have Ho7 : Hid (Own 58 3 w7 v7 (skip (-1) 0 (l.take (k2 + 1))).length (flatC (skip (-1) 0 (l.take (k2 + 1))))) := Lib.hid (by
              rw [Hsn.out, if_neg Hki.out, List.length_append, flatC_append]
              exact ho7)
            have Hob7 : Hid (∀ b, v7.ownBlock = some b → w4.heap.size ≤ b) := Lib.hid (fun b hb => (hn7 b hb).elim (Hob.out b) (fun h => by have := Hb.out.size; simp at h; omega))
            have Hb7 : Hid (Below w4.heap.size w4 w7) := Lib.hid ((bel_alloc Hb.out).grown hg7 (bel_alloc Hb.out).size Hob.out)
            clear ho7 hg7 hn7 Ho Hob Hb c1' c2' c3' g3
            go_wp2_with fail
            go_roundw
            case rel => exact ⟨k2 + 1, by omega, by go_num, Ho7, Hob7, Hb7⟩
            case measure => simp [intOf]; omega
        · obtain rfl : k2 = l.length := by omega
          rw [List.take_length] at Ho
          have hll : (skip (-1) 0 l).length ≤ l.length := (skip_sub _ _ _).length_le
          have hX := HW.out.next Hb.out
          have x0 : wr.cell? ⟨bx, 0, none⟩ = some (.string s) := hX.cell 0
          have x1 : wr.cell? ⟨bx, 1, none⟩ = some (.int .i64 ((findF G s t).1 - cost)) := hX.cell 1
          have x2 : wr.cell? ⟨bx, 2, none⟩ = some (.int .i64 t) := hX.cell 2
          clear hX hB
          go_wp2_with (at_builtin; apply Hold.mk)
          unfold Hold
          refine wpList_app rfl _ _ 40 rfl ok40 (by rfl) (by rfl) (Ho.out.below' (below_alloc wr _)) (own_lit wr 58 3 #[.string s, .int .i64 ((findF G s t).1 - cost), .int .i64 t] 1 (by simp [maxLen]) rfl).rd (by intro u hu; exact flatC_one ([⟨s, (findF G s t).1 - cost, t⟩] : List Cl) u hu) (by simp only [maxLen]; omega) (by omega) ?_
          intro v7 w7 ho7 hg7 hn7
          have Ho7 : Hid (Own 58 3 w7 v7 (skip (-1) 0 l ++ [Cl.mk s ((findF G s t).1 - cost) (findF G s t).2]).length (flatC (skip (-1) 0 l ++ [Cl.mk s ((findF G s t).1 - cost) (findF G s t).2]))) := Lib.hid (by
            rw [List.length_append, flatC_append, HT.out]
            exact ho7)
          have Hob7 : Hid (∀ b, v7.ownBlock = some b → w4.heap.size ≤ b) := Lib.hid (fun b hb => (hn7 b hb).elim (Hob.out b) (fun h => by have := Hb.out.size; simp at h; omega))
          have hb7 : Below w4.heap.size w4 w7 := (bel_alloc Hb.out).grown hg7 (bel_alloc Hb.out).size Hob.out
          have HB7 := Lib.hid (HB4.out.next hb7)
          have HR7 := Lib.hid (HR4.out.next hb7)
          have Hb7 := Lib.hid (bel_trans Hb4.out hb7)
          have hlr := HR4.out.lt
          clear ho7 hg7 hn7 hb7 x0 x1 x2 g3 Ho Hob Hb
          have g0 : w7.cell? ⟨w.heap.size, 0, none⟩ = some (.int .i64 G.burst) := HB7.out.cell 0
          have g1 : w7.cell? ⟨w.heap.size, 1, none⟩ = some (.int .i64 G.each) := HB7.out.cell 1
          have g2 : w7.cell? ⟨w.heap.size, 2, none⟩ = some (.int .i64 G.room) := HB7.out.cell 2
          have g3 : w7.cell? ⟨w.heap.size, 3, none⟩ = some (.slice a l.length cap) := HB7.out.cell 3
          have gp := frozen_of_row _ _ 3 _ _ HB7.out
          have r0 : w7.cell? ⟨w.heap.size + 1, 0, none⟩ = some (.int .i64 0) := HR7.out.cell 0
          have r1 : w7.cell? ⟨w.heap.size + 1, 1, none⟩ = some (.int .i64 0) := HR7.out.cell 1
          have r2 : w7.cell? ⟨w.heap.size + 1, 2, none⟩ = some (.int .i64 0) := HR7.out.cell 2
          have r3 : w7.cell? ⟨w.heap.size + 1, 3, none⟩ = some (.slice none 0 0) := HR7.out.cell 3
          have p0 := frozen_of_row _ _ 0 _ _ HR7.out
          have p1 := frozen_of_row _ _ 1 _ _ HR7.out
          have p2 := frozen_of_row _ _ 2 _ _ HR7.out
          have p3 := frozen_of_row _ _ 3 _ _ HR7.out
          have hl7 := HR7.out.lt
          obtain ⟨va, vc, rfl, hv1, hv2, -⟩ := (show RdCl w7 v7 _ from Ho7.out.rd).open
          have hlen : Hid ((skip (-1) 0 l ++ [Cl.mk s ((findF G s t).1 - cost) (findF G s t).2]).length = (skip (-1) 0 l).length + 1) := Lib.hid (by simp)
          rw [hlen.out] at Ho7 Hob7 hv1
          have hbne : ∀ b, (Value.slice va ((skip (-1) 0 l).length + 1) vc).ownBlock = some b → b ≠ w.heap.size ∧ b ≠ w.heap.size + 1 := fun b hb => by have := Hob7.out b hb; omega
          go_wp2_with fail
          go_region
          all_goals (go_wp2_with fail)
          all_goals (refine bodyPost_ret (v := .tuple #[.int .i64 0, .agg #[.int .i64 G.burst, .int .i64 G.each, .int .i64 G.room, .slice va ((skip (-1) 0 l).length + 1) vc]]) (by simp [results, Try.results12, go_sem, r0, r1, r2, r3]) rfl (rasks_yes HS.out Hf.out HF.out ?_ ?_))
          all_goals first
            | (unfold RdCl
               rw [hlen.out]
               with_reducible exact own5 Ho7.out hbne)
            | (with_reducible exact bel5 (b2 := w.heap.size + 1) Hb7.out (Nat.le_refl _) (Nat.le_add_right _ _))
    · have hG : G.f (kl s) = some (x.left, x.tick) := by rw [← he]; exact HS.out.has x (List.mem_of_getElem? hx)
      obtain ⟨bb, o, rfl, -, -, c3⟩ := Hcell.out k x hx
      have lb := World.block_lt_of_cell? w _ c3
      have hbb : bb < w3.heap.size := Nat.lt_of_lt_of_le lb Hb3.out.size
      have c3' : w3.cell? ⟨bb, o + k * 3 + 2, none⟩ = some (.int .i64 x.tick) := (Hb3.out.cell (p := ⟨bb, o + k * 3 + 2, none⟩) lb).trans c3
      have hkl := (List.getElem?_eq_some_iff.1 hx).1
      have hk0 : (0 : Int) ≤ (k : Int) := by omega
      have hk1 : (k : Int) < (l.length : Int) := by omega
      have HR : Hid (¬ ((G.f (kl s)).isSome = false ∧ G.room ≤ (G.n : Int))) := Lib.hid (fun h => by rw [hG] at h; cases h.1)
      have HG := Lib.hid hG
      clear c3 hx he hG
      by_cases hlow : (findF G s t).1 < cost
      · have HF : Hid (askF G s cost t = (4, G)) := Lib.hid (askF_ok4 HA.out (by have := HC.out; omega) HR.out hlow)
        go_wp2_with fail
        go_region
        all_goals (go_wp2_with fail)
        all_goals (exact bodyPost_ret (v := .tuple #[.int .i64 4, .agg #[.int .i64 G.burst, .int .i64 G.each, .int .i64 G.room, .slice (some ⟨bb, o, none⟩) l.length cap]]) (by simp [results, Try.results12, go_sem, r0, r1, r2, r3]) rfl (rasks_no HF.out (Hv.out.below (by repeat (first | exact Hb3.out | assumption | apply bel_alloc | apply bel_drew | apply bel_drewN | (refine bel_set ?_ (by simp))))) HS.out (by repeat (first | exact Hb3.out | assumption | apply bel_alloc | apply bel_drew | apply bel_drewN | (refine bel_set ?_ (by simp))))))
      have HF : Hid (askF G s cost t = (0, asked G s cost t)) := Lib.hid (askF_ok0 HA.out (by have := HC.out; omega) HR.out hlow)
      by_cases htk : t < x.tick
      · have HT : Hid ((findF G s t).2 = x.tick) := Lib.hid (by unfold findF; rw [HG.out]; simp only; unfold fillF; rw [if_pos (by simp only; omega)])
        go_wp2_with fail
        have hbW : Below w3.heap.size w3 (w3.alloc (.cells #[.string s, .int .i64 ((findF G s t).1 - cost), .int .i64 x.tick] 58)) := below_alloc _ _
        have HW : Hid (Blk (w3.alloc (.cells #[.string s, .int .i64 ((findF G s t).1 - cost), .int .i64 x.tick] 58)) w3.heap.size #[.string s, .int .i64 ((findF G s t).1 - cost), .int .i64 x.tick] 58) := Lib.hid (Blk.new _ _ _)
        have HB4 := Lib.hid (HB3.out.next hbW)
        have HR4 := Lib.hid (HR3.out.next hbW)
        have Hb4 := Lib.hid (bel_trans Hb3.out hbW)
        have hw3 : w.heap.size + 1 < w3.heap.size := hlr
        clear hbW HB3 HR3 g0 g1 g2 g3 r0 r1 r2 r3 p0 p1 p2 p3 hlr hlr0 hbb c3'
        generalize (w3.alloc (.cells #[.string s, .int .i64 ((findF G s t).1 - cost), .int .i64 x.tick] 58)) = w4 at *
        generalize w3.heap.size = bx at *
        go_loopw [13, 14] (fun out iv wr => ∃ kk : Nat, kk ≤ l.length ∧ iv = .int .i64 kk ∧ Hid (Own 58 3 wr out (skip (k : Int) 0 (l.take kk)).length (flatC (skip (k : Int) 0 (l.take kk)))) ∧ Hid (∀ b, out.ownBlock = some b → w4.heap.size ≤ b) ∧ Hid (Below w4.heap.size w4 wr)) (fun _ iv _ => l.length - (intOf iv).toNat)
        case atStart => exact ⟨0, by omega, rfl, Lib.hid (by simpa [skip, flatC] using own_nil w4 58 3), Lib.hid (fun b hb => (by cases hb)), Lib.hid (bel_refl _)⟩
        case round =>
          obtain ⟨k2, hk2, rfl, Ho, Hob, Hb⟩ := hrel
          have hB := HB4.out.next Hb.out
          have g3 : wr.cell? ⟨w.heap.size, 3, none⟩ = some (.slice (some ⟨bb, o, none⟩) l.length cap) := hB.cell 3
          by_cases hlt : k2 < l.length
          · obtain ⟨z, hz⟩ : ∃ z, l[k2]? = some z := ⟨l[k2], List.getElem?_eq_getElem hlt⟩
            obtain ⟨zb, zo, hza, c1, c2, c3⟩ := Hcell.out k2 z hz
            cases hza
            have lb := World.block_lt_of_cell? w _ c1
            have c1' : wr.cell? ⟨bb, o + k2 * 3, none⟩ = some (.string z.name) := ((bel_trans Hb4.out Hb.out).cell (p := ⟨bb, o + k2 * 3, none⟩) lb).trans c1
            have c2' : wr.cell? ⟨bb, o + k2 * 3 + 1, none⟩ = some (.int .i64 z.left) := ((bel_trans Hb4.out Hb.out).cell (p := ⟨bb, o + k2 * 3 + 1, none⟩) lb).trans c2
            have c3' : wr.cell? ⟨bb, o + k2 * 3 + 2, none⟩ = some (.int .i64 z.tick) := ((bel_trans Hb4.out Hb.out).cell (p := ⟨bb, o + k2 * 3 + 2, none⟩) lb).trans c3
            have hsn : skip (k : Int) 0 (l.take (k2 + 1)) = skip (k : Int) 0 (l.take k2) ++ (if (k2 : Int) = (k : Int) then [] else [z]) := by
              obtain ⟨hkl, rfl⟩ := List.getElem?_eq_some_iff.1 hz
              rw [List.take_succ_eq_append_getElem hkl, skip_append]
              rw [List.length_take, Nat.min_eq_left (by omega), Nat.zero_add]
              rfl
            have Hsn := Lib.hid hsn
            have hll : (skip (k : Int) 0 (l.take k2)).length ≤ k2 := Nat.le_trans (skip_sub _ _ _).length_le (by rw [List.length_take]; omega)
            clear c1 c2 c3 hz hsn hB
            by_cases hki : (k2 : Int) = (k : Int)
            · have d : ((k2 : Int) != (k : Int)) = false := by simp [hki]
              have d' : (k2 != k) = false := bne_eq_false_iff_eq.2 (by omega)
              have Hki := Lib.hid hki
              clear hki
              go_wp2_with fail
              go_roundw
              case rel => exact ⟨k2 + 1, by omega, by go_num, by rw [Hsn.out, if_pos Hki.out, List.append_nil]; exact Ho, Hob, Hb⟩
              case measure => simp [intOf]; omega
            · have d : ((k2 : Int) != (k : Int)) = true := by rw [bne_iff_ne]; exact hki
              have d' : (k2 != k) = true := by rw [bne_iff_ne]; omega
              have Hki := Lib.hid hki
              clear hki
              go_wp2_with (at_builtin; apply Hold.mk)
              unfold Hold
              refine wpList_app rfl _ _ 40 rfl ok40 (by rfl) (by rfl) (Ho.out.below' (below_alloc wr _)) (own_lit wr 58 3 #[.string z.name, .int .i64 z.left, .int .i64 z.tick] 1 (by simp [maxLen]) rfl).rd (by intro u hu; exact flatC_one [z] u hu) (by simp only [maxLen]; omega) (by omega) ?_
              intro v7 w7 ho7 hg7 hn7
              have Ho7 : Hid (Own 58 3 w7 v7 (skip (k : Int) 0 (l.take (k2 + 1))).length (flatC (skip (k : Int) 0 (l.take (k2 + 1))))) := Lib.hid (by
                rw [Hsn.out, if_neg Hki.out, List.length_append, flatC_append]
                exact ho7)
              have Hob7 : Hid (∀ b, v7.ownBlock = some b → w4.heap.size ≤ b) := Lib.hid (fun b hb => (hn7 b hb).elim (Hob.out b) (fun h => by have := Hb.out.size; simp at h; omega))
              have Hb7 : Hid (Below w4.heap.size w4 w7) := Lib.hid ((bel_alloc Hb.out).grown hg7 (bel_alloc Hb.out).size Hob.out)
              clear ho7 hg7 hn7 Ho Hob Hb c1' c2' c3' g3
              go_wp2_with fail
              go_roundw
              case rel => exact ⟨k2 + 1, by omega, by go_num, Ho7, Hob7, Hb7⟩
              case measure => simp [intOf]; omega
          · obtain rfl : k2 = l.length := by omega
            rw [List.take_length] at Ho
            have hll : (skip (k : Int) 0 l).length ≤ l.length := (skip_sub _ _ _).length_le
            have hX := HW.out.next Hb.out
            have x0 : wr.cell? ⟨bx, 0, none⟩ = some (.string s) := hX.cell 0
            have x1 : wr.cell? ⟨bx, 1, none⟩ = some (.int .i64 ((findF G s t).1 - cost)) := hX.cell 1
            have x2 : wr.cell? ⟨bx, 2, none⟩ = some (.int .i64 x.tick) := hX.cell 2
            clear hX hB
            go_wp2_with (at_builtin; apply Hold.mk)
            unfold Hold
            refine wpList_app rfl _ _ 40 rfl ok40 (by rfl) (by rfl) (Ho.out.below' (below_alloc wr _)) (own_lit wr 58 3 #[.string s, .int .i64 ((findF G s t).1 - cost), .int .i64 x.tick] 1 (by simp [maxLen]) rfl).rd (by intro u hu; exact flatC_one ([⟨s, (findF G s t).1 - cost, x.tick⟩] : List Cl) u hu) (by simp only [maxLen]; omega) (by omega) ?_
            intro v7 w7 ho7 hg7 hn7
            have Ho7 : Hid (Own 58 3 w7 v7 (skip (k : Int) 0 l ++ [Cl.mk s ((findF G s t).1 - cost) (findF G s t).2]).length (flatC (skip (k : Int) 0 l ++ [Cl.mk s ((findF G s t).1 - cost) (findF G s t).2]))) := Lib.hid (by
              rw [List.length_append, flatC_append, HT.out]
              exact ho7)
            have Hob7 : Hid (∀ b, v7.ownBlock = some b → w4.heap.size ≤ b) := Lib.hid (fun b hb => (hn7 b hb).elim (Hob.out b) (fun h => by have := Hb.out.size; simp at h; omega))
            have hb7 : Below w4.heap.size w4 w7 := (bel_alloc Hb.out).grown hg7 (bel_alloc Hb.out).size Hob.out
            have HB7 := Lib.hid (HB4.out.next hb7)
            have HR7 := Lib.hid (HR4.out.next hb7)
            have Hb7 := Lib.hid (bel_trans Hb4.out hb7)
            have hlr := HR4.out.lt
            clear ho7 hg7 hn7 hb7 x0 x1 x2 g3 Ho Hob Hb
            have g0 : w7.cell? ⟨w.heap.size, 0, none⟩ = some (.int .i64 G.burst) := HB7.out.cell 0
            have g1 : w7.cell? ⟨w.heap.size, 1, none⟩ = some (.int .i64 G.each) := HB7.out.cell 1
            have g2 : w7.cell? ⟨w.heap.size, 2, none⟩ = some (.int .i64 G.room) := HB7.out.cell 2
            have g3 : w7.cell? ⟨w.heap.size, 3, none⟩ = some (.slice (some ⟨bb, o, none⟩) l.length cap) := HB7.out.cell 3
            have gp := frozen_of_row _ _ 3 _ _ HB7.out
            have r0 : w7.cell? ⟨w.heap.size + 1, 0, none⟩ = some (.int .i64 0) := HR7.out.cell 0
            have r1 : w7.cell? ⟨w.heap.size + 1, 1, none⟩ = some (.int .i64 0) := HR7.out.cell 1
            have r2 : w7.cell? ⟨w.heap.size + 1, 2, none⟩ = some (.int .i64 0) := HR7.out.cell 2
            have r3 : w7.cell? ⟨w.heap.size + 1, 3, none⟩ = some (.slice none 0 0) := HR7.out.cell 3
            have p0 := frozen_of_row _ _ 0 _ _ HR7.out
            have p1 := frozen_of_row _ _ 1 _ _ HR7.out
            have p2 := frozen_of_row _ _ 2 _ _ HR7.out
            have p3 := frozen_of_row _ _ 3 _ _ HR7.out
            have hl7 := HR7.out.lt
            obtain ⟨va, vc, rfl, hv1, hv2, -⟩ := (show RdCl w7 v7 _ from Ho7.out.rd).open
            have hlen : Hid ((skip (k : Int) 0 l ++ [Cl.mk s ((findF G s t).1 - cost) (findF G s t).2]).length = (skip (k : Int) 0 l).length + 1) := Lib.hid (by simp)
            rw [hlen.out] at Ho7 Hob7 hv1
            have hbne : ∀ b, (Value.slice va ((skip (k : Int) 0 l).length + 1) vc).ownBlock = some b → b ≠ w.heap.size ∧ b ≠ w.heap.size + 1 := fun b hb => by have := Hob7.out b hb; omega
            go_wp2_with fail
            go_region
            all_goals (go_wp2_with fail)
            all_goals (refine bodyPost_ret (v := .tuple #[.int .i64 0, .agg #[.int .i64 G.burst, .int .i64 G.each, .int .i64 G.room, .slice va ((skip (k : Int) 0 l).length + 1) vc]]) (by simp [results, Try.results12, go_sem, r0, r1, r2, r3]) rfl (rasks_yes HS.out Hf.out HF.out ?_ ?_))
            all_goals first
              | (unfold RdCl
                 rw [hlen.out]
                 with_reducible exact own5 Ho7.out hbne)
              | (with_reducible exact bel5 (b2 := w.heap.size + 1) Hb7.out (Nat.le_refl _) (Nat.le_add_right _ _))

      · have HT : Hid ((findF G s t).2 = t) := Lib.hid (by
          unfold findF; rw [HG.out]; simp only; unfold fillF; simp only
          by_cases h : t ≤ x.tick
          · rw [if_pos h]; simp only; omega
          · rw [if_neg h]; split <;> rfl)
        go_wp2_with fail
        have hbW : Below w3.heap.size w3 (w3.alloc (.cells #[.string s, .int .i64 ((findF G s t).1 - cost), .int .i64 t] 58)) := below_alloc _ _
        have HW : Hid (Blk (w3.alloc (.cells #[.string s, .int .i64 ((findF G s t).1 - cost), .int .i64 t] 58)) w3.heap.size #[.string s, .int .i64 ((findF G s t).1 - cost), .int .i64 t] 58) := Lib.hid (Blk.new _ _ _)
        have HB4 := Lib.hid (HB3.out.next hbW)
        have HR4 := Lib.hid (HR3.out.next hbW)
        have Hb4 := Lib.hid (bel_trans Hb3.out hbW)
        have hw3 : w.heap.size + 1 < w3.heap.size := hlr
        clear hbW HB3 HR3 g0 g1 g2 g3 r0 r1 r2 r3 p0 p1 p2 p3 hlr hlr0 hbb c3'
        generalize (w3.alloc (.cells #[.string s, .int .i64 ((findF G s t).1 - cost), .int .i64 t] 58)) = w4 at *
        generalize w3.heap.size = bx at *
        go_loopw [13, 14] (fun out iv wr => ∃ kk : Nat, kk ≤ l.length ∧ iv = .int .i64 kk ∧ Hid (Own 58 3 wr out (skip (k : Int) 0 (l.take kk)).length (flatC (skip (k : Int) 0 (l.take kk)))) ∧ Hid (∀ b, out.ownBlock = some b → w4.heap.size ≤ b) ∧ Hid (Below w4.heap.size w4 wr)) (fun _ iv _ => l.length - (intOf iv).toNat)
        case atStart => exact ⟨0, by omega, rfl, Lib.hid (by simpa [skip, flatC] using own_nil w4 58 3), Lib.hid (fun b hb => (by cases hb)), Lib.hid (bel_refl _)⟩
        case round =>
          obtain ⟨k2, hk2, rfl, Ho, Hob, Hb⟩ := hrel
          have hB := HB4.out.next Hb.out
          have g3 : wr.cell? ⟨w.heap.size, 3, none⟩ = some (.slice (some ⟨bb, o, none⟩) l.length cap) := hB.cell 3
          by_cases hlt : k2 < l.length
          · obtain ⟨z, hz⟩ : ∃ z, l[k2]? = some z := ⟨l[k2], List.getElem?_eq_getElem hlt⟩
            obtain ⟨zb, zo, hza, c1, c2, c3⟩ := Hcell.out k2 z hz
            cases hza
            have lb := World.block_lt_of_cell? w _ c1
            have c1' : wr.cell? ⟨bb, o + k2 * 3, none⟩ = some (.string z.name) := ((bel_trans Hb4.out Hb.out).cell (p := ⟨bb, o + k2 * 3, none⟩) lb).trans c1
            have c2' : wr.cell? ⟨bb, o + k2 * 3 + 1, none⟩ = some (.int .i64 z.left) := ((bel_trans Hb4.out Hb.out).cell (p := ⟨bb, o + k2 * 3 + 1, none⟩) lb).trans c2
            have c3' : wr.cell? ⟨bb, o + k2 * 3 + 2, none⟩ = some (.int .i64 z.tick) := ((bel_trans Hb4.out Hb.out).cell (p := ⟨bb, o + k2 * 3 + 2, none⟩) lb).trans c3
            have hsn : skip (k : Int) 0 (l.take (k2 + 1)) = skip (k : Int) 0 (l.take k2) ++ (if (k2 : Int) = (k : Int) then [] else [z]) := by
              obtain ⟨hkl, rfl⟩ := List.getElem?_eq_some_iff.1 hz
              rw [List.take_succ_eq_append_getElem hkl, skip_append]
              rw [List.length_take, Nat.min_eq_left (by omega), Nat.zero_add]
              rfl
            have Hsn := Lib.hid hsn
            have hll : (skip (k : Int) 0 (l.take k2)).length ≤ k2 := Nat.le_trans (skip_sub _ _ _).length_le (by rw [List.length_take]; omega)
            clear c1 c2 c3 hz hsn hB
            by_cases hki : (k2 : Int) = (k : Int)
            · have d : ((k2 : Int) != (k : Int)) = false := by simp [hki]
              have d' : (k2 != k) = false := bne_eq_false_iff_eq.2 (by omega)
              have Hki := Lib.hid hki
              clear hki
              go_wp2_with fail
              go_roundw
              case rel => exact ⟨k2 + 1, by omega, by go_num, by rw [Hsn.out, if_pos Hki.out, List.append_nil]; exact Ho, Hob, Hb⟩
              case measure => simp [intOf]; omega
            · have d : ((k2 : Int) != (k : Int)) = true := by rw [bne_iff_ne]; exact hki
              have d' : (k2 != k) = true := by rw [bne_iff_ne]; omega
              have Hki := Lib.hid hki
              clear hki
              go_wp2_with (at_builtin; apply Hold.mk)
              unfold Hold
              refine wpList_app rfl _ _ 40 rfl ok40 (by rfl) (by rfl) (Ho.out.below' (below_alloc wr _)) (own_lit wr 58 3 #[.string z.name, .int .i64 z.left, .int .i64 z.tick] 1 (by simp [maxLen]) rfl).rd (by intro u hu; exact flatC_one [z] u hu) (by simp only [maxLen]; omega) (by omega) ?_
              intro v7 w7 ho7 hg7 hn7
              have Ho7 : Hid (Own 58 3 w7 v7 (skip (k : Int) 0 (l.take (k2 + 1))).length (flatC (skip (k : Int) 0 (l.take (k2 + 1))))) := Lib.hid (by
                rw [Hsn.out, if_neg Hki.out, List.length_append, flatC_append]
                exact ho7)
              have Hob7 : Hid (∀ b, v7.ownBlock = some b → w4.heap.size ≤ b) := Lib.hid (fun b hb => (hn7 b hb).elim (Hob.out b) (fun h => by have := Hb.out.size; simp at h; omega))
              have Hb7 : Hid (Below w4.heap.size w4 w7) := Lib.hid ((bel_alloc Hb.out).grown hg7 (bel_alloc Hb.out).size Hob.out)
              clear ho7 hg7 hn7 Ho Hob Hb c1' c2' c3' g3
              go_wp2_with fail
              go_roundw
              case rel => exact ⟨k2 + 1, by omega, by go_num, Ho7, Hob7, Hb7⟩
              case measure => simp [intOf]; omega
          · obtain rfl : k2 = l.length := by omega
            rw [List.take_length] at Ho
            have hll : (skip (k : Int) 0 l).length ≤ l.length := (skip_sub _ _ _).length_le
            have hX := HW.out.next Hb.out
            have x0 : wr.cell? ⟨bx, 0, none⟩ = some (.string s) := hX.cell 0
            have x1 : wr.cell? ⟨bx, 1, none⟩ = some (.int .i64 ((findF G s t).1 - cost)) := hX.cell 1
            have x2 : wr.cell? ⟨bx, 2, none⟩ = some (.int .i64 t) := hX.cell 2
            clear hX hB
            go_wp2_with (at_builtin; apply Hold.mk)
            unfold Hold
            refine wpList_app rfl _ _ 40 rfl ok40 (by rfl) (by rfl) (Ho.out.below' (below_alloc wr _)) (own_lit wr 58 3 #[.string s, .int .i64 ((findF G s t).1 - cost), .int .i64 t] 1 (by simp [maxLen]) rfl).rd (by intro u hu; exact flatC_one ([⟨s, (findF G s t).1 - cost, t⟩] : List Cl) u hu) (by simp only [maxLen]; omega) (by omega) ?_
            intro v7 w7 ho7 hg7 hn7
            have Ho7 : Hid (Own 58 3 w7 v7 (skip (k : Int) 0 l ++ [Cl.mk s ((findF G s t).1 - cost) (findF G s t).2]).length (flatC (skip (k : Int) 0 l ++ [Cl.mk s ((findF G s t).1 - cost) (findF G s t).2]))) := Lib.hid (by
              rw [List.length_append, flatC_append, HT.out]
              exact ho7)
            have Hob7 : Hid (∀ b, v7.ownBlock = some b → w4.heap.size ≤ b) := Lib.hid (fun b hb => (hn7 b hb).elim (Hob.out b) (fun h => by have := Hb.out.size; simp at h; omega))
            have hb7 : Below w4.heap.size w4 w7 := (bel_alloc Hb.out).grown hg7 (bel_alloc Hb.out).size Hob.out
            have HB7 := Lib.hid (HB4.out.next hb7)
            have HR7 := Lib.hid (HR4.out.next hb7)
            have Hb7 := Lib.hid (bel_trans Hb4.out hb7)
            have hlr := HR4.out.lt
            clear ho7 hg7 hn7 hb7 x0 x1 x2 g3 Ho Hob Hb
            have g0 : w7.cell? ⟨w.heap.size, 0, none⟩ = some (.int .i64 G.burst) := HB7.out.cell 0
            have g1 : w7.cell? ⟨w.heap.size, 1, none⟩ = some (.int .i64 G.each) := HB7.out.cell 1
            have g2 : w7.cell? ⟨w.heap.size, 2, none⟩ = some (.int .i64 G.room) := HB7.out.cell 2
            have g3 : w7.cell? ⟨w.heap.size, 3, none⟩ = some (.slice (some ⟨bb, o, none⟩) l.length cap) := HB7.out.cell 3
            have gp := frozen_of_row _ _ 3 _ _ HB7.out
            have r0 : w7.cell? ⟨w.heap.size + 1, 0, none⟩ = some (.int .i64 0) := HR7.out.cell 0
            have r1 : w7.cell? ⟨w.heap.size + 1, 1, none⟩ = some (.int .i64 0) := HR7.out.cell 1
            have r2 : w7.cell? ⟨w.heap.size + 1, 2, none⟩ = some (.int .i64 0) := HR7.out.cell 2
            have r3 : w7.cell? ⟨w.heap.size + 1, 3, none⟩ = some (.slice none 0 0) := HR7.out.cell 3
            have p0 := frozen_of_row _ _ 0 _ _ HR7.out
            have p1 := frozen_of_row _ _ 1 _ _ HR7.out
            have p2 := frozen_of_row _ _ 2 _ _ HR7.out
            have p3 := frozen_of_row _ _ 3 _ _ HR7.out
            have hl7 := HR7.out.lt
            obtain ⟨va, vc, rfl, hv1, hv2, -⟩ := (show RdCl w7 v7 _ from Ho7.out.rd).open
            have hlen : Hid ((skip (k : Int) 0 l ++ [Cl.mk s ((findF G s t).1 - cost) (findF G s t).2]).length = (skip (k : Int) 0 l).length + 1) := Lib.hid (by simp)
            rw [hlen.out] at Ho7 Hob7 hv1
            have hbne : ∀ b, (Value.slice va ((skip (k : Int) 0 l).length + 1) vc).ownBlock = some b → b ≠ w.heap.size ∧ b ≠ w.heap.size + 1 := fun b hb => by have := Hob7.out b hb; omega
            go_wp2_with fail
            go_region
            all_goals (go_wp2_with fail)
            all_goals (refine bodyPost_ret (v := .tuple #[.int .i64 0, .agg #[.int .i64 G.burst, .int .i64 G.each, .int .i64 G.room, .slice va ((skip (k : Int) 0 l).length + 1) vc]]) (by simp [results, Try.results12, go_sem, r0, r1, r2, r3]) rfl (rasks_yes HS.out Hf.out HF.out ?_ ?_))
            all_goals first
              | (unfold RdCl
                 rw [hlen.out]
                 with_reducible exact own5 Ho7.out hbne)
              | (with_reducible exact bel5 (b2 := w.heap.size + 1) Hb7.out (Nat.le_refl _) (Nat.le_add_right _ _))

end Go.Proofs.Ytjeecffhclhbaaa
