/- The series of a store in their order: all$1 (59), slices.SortFunc (80), slices.SortedFunc (57), all (33). -/
import Derived.Test.YtplieoalfbpniaaGreatSJ
import Derived.Test.YtplieoalfbpniaaGreatSI
namespace Go.Proofs.YtplieoalfbpniaaGreat
open Go.RowKit Go.Kt Go.Ix Go.Sx Go.Maps Go.Shelf Go.Proofs
set_option maxRecDepth 100000
variable {F F' : Nat → Prop} {w w' : World} {s om : Nat} {S : Sp} {L : List It} {N : Nat}

theorem all1_raw (W : World) (x y : Nat) (a b : Value) (l m : List Pr) (c1 : W.cell? ⟨x, 0, none⟩ = some a) (c2 : W.cell? ⟨y, 0, none⟩ = some b) (ha : RdP W a l) (hb : RdP W b m) (hl : l.length ≤ 1048576) (hm : m.length ≤ 1048576) :
    Calls Tryz.prog 59 #[pv x, pv y] W fun e w' => e = .returned (.int .i64 (cmpS l m)) ∧ Gr W w' := by
  have HC := Lib.hid (fun (W' : World) (hW : Below W.heap.size W W') => lcompare_any a b l m W' (ha.below hW) (hb.below hW) hl hm)
  clear ha hb hl hm
  generalize cmpS l m = c at HC ⊢
  have l1 := World.block_lt_of_cell? W _ c1
  have l2 := World.block_lt_of_cell? W _ c2
  unfold pv
  go_enter Tryz.func59, Tryz.ntmps59
  go_wp2_with fail
  go_region_held3 (fun W' : World => W'.cell? ⟨x, 0, none⟩ = some a ∧ W'.cell? ⟨y, 0, none⟩ = some b)
    (go_keep)
    (first | (go_simp; go_at_call 60; refine (HC.out _ (by repeat (first | exact bel_refl _ | assumption | apply bel_alloc | apply bel_drew))).mono ?_; rintro e w5 ⟨rfl, hg5⟩; have q1 : w5.cell? ⟨x, 0, none⟩ = some a := (hg5.b.cell (p := ⟨x, 0, none⟩) l1).trans c1; have q2 : w5.cell? ⟨y, 0, none⟩ = some b := (hg5.b.cell (p := ⟨y, 0, none⟩) l2).trans c2))
  go_wp2_with fail
  go_ret
  exact ⟨rfl, Gr.trans (by repeat (first | exact Gr.refl _ | apply Gr.alloc | apply Gr.drew)) hg5⟩
/-- a series' key -/
abbrev SKey (S : Sp) : Type := {k : Lit // (S.f k).isSome = true}
def encS (S : Sp) (k : SKey S) : Value := pv (S.x k.1)
def cfS (S : Sp) (a b : SKey S) : Int := cmpS (S.d a.1) (S.d b.1)
theorem cmpS_neg {a b : List Pr} : cmpS a b < 0 ↔ ltS a b := by
  unfold ltS
  rcases cmpS_rng a b with h | h | h <;> rw [h] <;> omega
theorem swoS (S : Sp) : Go.Sort.SWO (ltOf (cfS S)) := by
  refine ⟨fun x => ?_, fun x y z h1 h2 => ?_, fun x y z h1 h2 => ?_⟩
  · unfold ltOf cfS
    rw [cmpS_self]
    rfl
  · unfold ltOf cfS at *
    rw [decide_eq_true_eq, cmpS_neg] at *
    exact ltS_trans h1 h2
  · unfold ltOf cfS at *
    rw [decide_eq_false_iff_not, cmpS_neg] at *
    intro h
    rcases line_sets.tri (S.d x.1) (S.d y.1) with e | e | e
    · exact h1 e
    · rw [e] at h; exact h2 h
    · exact h2 (ltS_trans e h)
theorem turn_sortWorld {α : Type} [Inhabited α] (enc : α → Value) (w : World) (g n : Nat) (d : Array α) (os : Array Obj) : Turn (fun x => x = g) w (Go.Proofs.sortWorld enc w g 0 n d os) := by
  refine ⟨rfl, rfl, rfl, by unfold Go.Proofs.sortWorld Go.Sort.grow Go.Sort.putRow Go.Sort.mapBlock Go.Sort.ahead; simp, fun k hk hne => ?_⟩
  unfold Go.Proofs.sortWorld
  rw [Go.Sort.heap_grow_old _ _ (by unfold Go.Sort.putRow Go.Sort.mapBlock Go.Sort.ahead; simpa using hk)]
  show (w.heap.modify g (Go.Sort.onCells (Go.Sort.putCells enc 0 _)))[k]? = _
  rw [Array.getElem?_modify, if_neg]
  intro e
  exact hne e.symm
set_option maxHeartbeats 1000000 in
theorem sortf_any (w : World) (h : StAt F w s om S L N) (v : Value) (ks : List (SKey S)) (hv : Go.Kt.Own 86 1 w v ks.length (ks.map (encS S))) (hF : ∀ b, v.ownBlock = some b → ¬ F b) (hl : ks.length ≤ 1048576) (hnd : ks.Nodup) :
    Calls Tryz.prog 80 #[v, .func (.func 59) #[] #[]] w fun e w' => e = .returned (.tuple #[]) ∧ ∃ ks' : List (SKey S), ks'.Perm ks ∧ ks'.Pairwise (fun a b => ltS (S.d a.1) (S.d b.1)) ∧ Go.Kt.Own 86 1 w' v ks'.length (ks'.map (encS S)) ∧ Turn (fun x => v.ownBlock = some x) w w' := by
  obtain ⟨_, ⟨rfl, h0⟩ | ⟨g, cap, cur, rfl, hb, hg, hn, hm, hcs, ht⟩⟩ := hv
  · have : ks = [] := List.eq_nil_of_length_eq_zero h0
    subst this
    refine (AnyF.slices_SortFunc_none { sortF with } none 0 (.func (.func 59) #[] #[]) w).mono ?_
    rintro e w' ⟨rfl, rfl⟩
    exact ⟨rfl, [], List.Perm.refl _, List.Pairwise.nil, own_nil _ 86 1, Turn.refl _ _⟩
  · have hgs : g < w.heap.size := (Array.getElem?_eq_some_iff.1 hg).1
    by_cases hk0 : ks = []
    · subst hk0
      refine (AnyF.slices_SortFunc_none { sortF with } (some ⟨g, 0, none⟩) cap (.func (.func 59) #[] #[]) w).mono ?_
      rintro e w' ⟨rfl, rfl⟩
      exact ⟨rfl, [], List.Perm.refl _, List.Pairwise.nil, ⟨rfl, .inr ⟨g, cap, cur, rfl, hb, hg, hn, hm, hcs, ht⟩⟩, Turn.refl _ _⟩
    obtain ⟨k0, hk0'⟩ : ∃ k0 : SKey S, k0 ∈ ks := List.exists_mem_of_ne_nil _ hk0
    haveI : Inhabited (SKey S) := ⟨k0⟩
    have hcur : ∀ (j : Nat) (k : SKey S), ks[j]? = some k → cur[j]? = some (encS S k) := by
      intro j k hj
      have hjl := (List.getElem?_eq_some_iff.1 hj).1
      have h2 := congrArg (fun z => z[j]?) ht
      simp only [List.getElem?_take, List.getElem?_map, hj, Option.map_some] at h2
      rw [if_pos (by omega)] at h2
      simpa using h2
    have hH : Go.Sort.Holds (encS S) w g 0 ks.toArray := by
      intro j hj
      simp only [List.size_toArray] at hj
      have hx : ks[j]? = some ks[j] := List.getElem?_eq_getElem hj
      have e : ks.toArray[j]! = ks[j] := by
        rw [getElem!_pos _ j (by simpa using hj)]
        simp
      rw [e, Nat.zero_add]
      exact ⟨(cell_of_row w g j cur 86 (0, 0) hg).trans (hcur j _ hx), frozen_of_row w g j cur 86 hg⟩
    have hgF : ∀ x, F x → ¬ x = g := fun x hx e => hF g rfl (e ▸ hx)
    have hcmp : CmpLays1 Tryz.prog 59 #[] (encS S) (cfS S) g 0 ks.toArray.size w := by
      intro m os dk _ x y
      have ht2 := turn_sortWorld (encS S) w g m dk os
      obtain ⟨u, hu⟩ := Option.isSome_iff_exists.1 x.2
      obtain ⟨u', hu'⟩ := Option.isSome_iff_exists.1 y.2
      have h1 := (h.ser _ u hu).keep ht2 hgF
      have h2 := (h.ser _ u' hu').keep ht2 hgF
      have hc := all1_raw _ (S.x x.1) (S.x y.1) _ _ _ _ (h1.blk.cell 0) (h2.blk.cell 0) h1.set.rd h2.set.rd (by have := h1.right.1; omega) (by have := h2.right.1; omega)
      refine hc.mono ?_
      rintro e w2 ⟨rfl, hg2⟩
      exact ⟨rfl, hg2.grow⟩
    have hc := Any.slices_SortFunc (ρ := sortF_ren) sortF (encS S) (fun x => rfl) (cfS S) (swoS S) 59 #[] g 0 cap ks.toArray w (enters_of Tryz.func59 (by kernel_rfl) rfl) hcmp hH hgs (by simp only [List.size_toArray]; omega)
    change Calls Tryz.prog 80 _ _ _ at hc
    rw [List.size_toArray] at hc
    refine hc.mono ?_
    rintro e w' ⟨rfl, d', n, os, hp, hso, rfl⟩
    obtain ⟨T, rfl⟩ : ∃ T : List (SKey S), T.toArray = d' := ⟨d'.toList, by simp⟩
    obtain ⟨hp1, _, hp3⟩ := hp
    simp only [List.size_toArray] at hp1
    have hp4 : T.Perm ks := by
      have := hp3
      simp only [List.extract_toArray, List.extract_eq_take_drop] at this
      simp only [Nat.sub_zero, List.drop_zero] at this
      rw [List.take_of_length_le (by omega), List.take_length] at this
      exact this
    refine ⟨rfl, T, hp4, ?_, ?_, ?_⟩
    · rw [List.pairwise_iff_getElem]
      intro i j hi hj hij
      have h3 := hso i j (Nat.zero_le _) hij (by omega)
      rw [getElem!_pos _ j (by simpa using hj), getElem!_pos _ i (by simpa using hi)] at h3
      simp only [List.getElem_toArray] at h3
      unfold ltOf cfS at h3
      rw [decide_eq_false_iff_not, cmpS_neg] at h3
      rcases line_sets.tri (S.d T[i].1) (S.d T[j].1) with e | e | e
      · exact e
      · exfalso
        have hnT : T.Nodup := hp4.nodup_iff.2 hnd
        obtain ⟨u, hu⟩ := Option.isSome_iff_exists.1 T[i].2
        obtain ⟨u', hu'⟩ := Option.isSome_iff_exists.1 T[j].2
        have e1 := (h.ser _ u hu).key
        have e2 := (h.ser _ u' hu').key
        rw [e, ← e2] at e1
        have e3 : T[i] = T[j] := Subtype.ext e1
        have := (List.nodup_iff_pairwise_ne.1 hnT)
        exact (List.pairwise_iff_getElem.1 this i j hi hj hij) e3
      · exact absurd e h3
    · have hh : (Go.Proofs.sortWorld (encS S) w g 0 n T.toArray os).heap[g]? = some (.cells (Go.Sort.putCells (encS S) 0 T.toArray cur) 86 (0, 0)) := by
        unfold Go.Proofs.sortWorld
        rw [Go.Sort.heap_grow_old _ _ (by unfold Go.Sort.putRow Go.Sort.mapBlock Go.Sort.ahead; simpa using hgs)]
        show (w.heap.modify g (Go.Sort.onCells (Go.Sort.putCells (encS S) 0 T.toArray)))[g]? = _
        rw [Array.getElem?_modify, if_pos rfl, hg]
        rfl
      rw [hp1]
      refine ⟨by rw [List.length_map, hp1, Nat.mul_one], .inr ⟨g, cap, Go.Sort.putCells (encS S) 0 T.toArray cur, rfl, hb, hh, hn, hm, ?_, ?_⟩⟩
      · rw [← hcs]; simp [Go.Sort.putCells]
      · apply List.ext_getElem?
        intro j
        rw [List.getElem?_take]
        by_cases hj : j < ks.length
        · rw [if_pos (by omega)]
          have hjc : j < cur.size := by rw [hcs]; omega
          simp only [Go.Sort.putCells, List.getElem?_map, Array.getElem?_toList, Array.getElem?_mapIdx]
          rw [Array.getElem?_eq_getElem hjc]
          have hjs : j < T.length := by omega
          rw [List.getElem?_eq_getElem hjs]
          simp only [Option.map_some, Nat.zero_le, Nat.zero_add, true_and, List.size_toArray, hjs, if_true, Nat.sub_zero]
          rw [getElem!_pos _ j (by simpa using hjs)]
          simp
        · rw [if_neg (by omega)]
          symm
          apply List.getElem?_eq_none
          rw [List.length_map]
          omega
    · refine (turn_sortWorld (encS S) w g n T.toArray os).mono ?_
      rintro x rfl
      rfl
/-- slices.SortedFunc over maps.Values -/
theorem sortedf_any (w : World) (h : StAt F w s om S L N) (hN : N ≤ 1000000) :
    Calls Tryz.prog 57 #[.func (.func 81) #[] #[.pointer (some ⟨w.heap.size, 0, none⟩)], .func (.func 59) #[] #[]] (w.alloc (.cells #[.map (some om)] 102)) fun e w' => ∃ v ks, e = .returned v ∧ KeysOf S ks ∧ Mine 86 1 w w' v ks.length (ks.map fun k => pv (S.x k)) := by
  obtain ⟨D, ho, hsz, hcf⟩ := h.outer
  have hx : ∀ k u, S.f k = some u → u = pv (S.x k) := fun k u hu => (h.ser k u hu).ptr
  have hb1 : Below w.heap.size w (w.alloc (.cells #[.map (some om)] 102)) := bel_alloc (bel_refl w)
  have ho1 : (w.alloc (.cells #[.map (some om)] 102)).ownsMap Tryz.prog 9 anyElem om S.n D := by
    have hbl := ho.lt
    obtain ⟨es, clock, hb, Ft, hs, hD⟩ := ho
    exact ⟨es, clock, (Below.heap_alloc _ _ om hbl).trans hb, Ft, hs, hD⟩
  have hcol := (callsIn_wide (n := 5)).1 (collect_in 5 (by omega) 81 #[.pointer (some ⟨w.heap.size, 0, none⟩)] (enters_of Tryz.func81 (by kernel_rfl) rfl) (fun ss => ValsOf S.f S.x ss ∧ ss.length ≤ Maps.size D) (Maps.size D) (by have := h.nb.1; omega) (w.alloc (.cells #[.map (some om)] 102))
    (vals_gives 3 (by omega) w.heap.size om S.n S.f S.x D hcf hx _ (by simp) (by simp) ho1))
  have hD : Maps.size D ≤ 1000000 := by have := h.nb.1; omega
  have HD := Lib.hid hD
  have H := Lib.hid h
  have HB1 := Lib.hid hb1
  have HC := Lib.hid hcol
  clear h ho hsz hcf hx ho1 hb1 hcol hD
  go_enter Tryz.func57, Tryz.ntmps57
  go_wp2_with fail
  refine HC.out.mono ?_
  rintro e w2 ⟨v2, ss, rfl, ⟨⟨ks, hnd, hmem, rfl⟩, hlen⟩, hrow, hb2⟩
  obtain ⟨kk, rfl⟩ : ∃ kk : List (SKey S), kk.map Subtype.val = ks := ⟨ks.attach.map (fun a => ⟨a.1, (hmem _).1 a.2⟩), by simp [List.map_map, Function.comp_def]⟩
  have HB2 : Hid (Below w.heap.size w w2) := Lib.hid (bel_trans HB1.out hb2)
  have hs1 : w.heap.size ≤ (w.alloc (.cells #[.map (some om)] 102)).heap.size := by simp
  have hown : Go.Kt.Own 86 1 w2 v2 kk.length (kk.map (encS S)) := by
    have : Go.Kt.Own 86 1 w2 v2 _ _ := ownsRow_base_a hrow (Nat.zero_le _)
    simpa [List.map_map, Function.comp_def, encS] using this
  have hown2 : ∀ b, v2.ownBlock = some b → w.heap.size ≤ b := fun b hb => Nat.le_trans hs1 (hrow.lt b hb).1
  have H2 := Lib.hid (H.out.next HB2.out)
  have hnk : kk.Nodup := by
    have := List.nodup_iff_pairwise_ne.1 hnd
    rw [List.pairwise_map] at this
    exact List.nodup_iff_pairwise_ne.2 (this.imp (fun h e => h (by rw [e])))
  have HSf := Lib.hid (sortf_any w2 H2.out v2 kk hown (fun b hb hF => by have h1 := H.out.lt _ hF; have h2 := hown2 b hb; omega) (by simp at hlen; have := HD.out; omega) hnk)
  have HM : Hid (∀ k : Lit, k ∈ kk.map Subtype.val ↔ (S.f k).isSome = true) := Lib.hid hmem
  have HO2 := Lib.hid hown2
  clear hnd hmem hlen hrow hb2 hs1 hown hown2 hnk HC
  go_wp2_with (go_at_call 80; refine HSf.out.mono ?_; rintro e w3 ⟨rfl, T, hp, hs, ho, ht⟩)
  go_ret
  refine ⟨v2, T.map Subtype.val, rfl, ⟨?_, fun k => ?_⟩, ?_, HO2.out, ?_⟩
  · rw [List.pairwise_map]
    exact hs
  · rw [← HM.out k]
    exact (hp.map _).mem_iff
  · rw [List.length_map, List.map_map]
    exact ho
  · exact ((Turn.of (F := fun x => v2.ownBlock = some x) HB2.out).trans ht (fun x hx => .inl hx)).bel (Nat.le_refl _) (fun x hx => HO2.out x hx)
/-- all -/
theorem all_any (w : World) (h : StAt F w s om S L N) (hN : N ≤ 1000000) :
    Calls Tryz.prog 33 #[.pointer (some ⟨s, 0, none⟩)] w fun e w' => ∃ v ks, e = .returned v ∧ KeysOf S ks ∧ Mine 86 1 w w' v ks.length (ks.map fun k => pv (S.x k)) := by
  have c1 : w.cell? ⟨s, 0, none⟩ = some (.map (some om)) := h.blk.cell 0
  have HC := Lib.hid (sortedf_any w h hN)
  clear h
  go_enter Tryz.func33, Tryz.ntmps33
  go_wp2_with (first
    | (go_at_call 58; refine (values_call _ _).mono ?_; rintro e w2 ⟨rfl, rfl⟩)
    | (go_at_call 57; refine HC.out.mono ?_; rintro e w2 ⟨v, ks, rfl, hk, hm⟩))
  go_ret
  exact ⟨v, ks, rfl, hk, hm⟩
theorem all_nil (w : World) : Calls Tryz.prog 33 #[.pointer none] w fun e w' => e = .returned (.slice none 0 0) ∧ w' = w := by
  go_enter Tryz.func33, Tryz.ntmps33
  go_wp2_with fail
  go_ret
  exact ⟨rfl, rfl⟩
end Go.Proofs.YtplieoalfbpniaaGreat
