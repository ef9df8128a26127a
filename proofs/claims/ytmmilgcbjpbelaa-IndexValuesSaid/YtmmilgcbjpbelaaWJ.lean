/- Index.one (40): which sets a rule holds of, marked. -/
import Derived.Test.YtmmilgcbjpbelaaWI
import Derived.Maps.RangeWalk
import Derived.Sort.MapsRangeIn
import Derived.Laws.IdiomRangeMap
import Derived.StillTailTactics
namespace Go.Proofs.Ytmmilgcbjpbelaa
open Go.RowKit Go.Kt Go.Ix

variable {F : Nat → Prop} {w w' : World} {g bm pm : Nat} {sv : Value} {us : List Value} {bf : Lit → Option Value} {Q : Post} {D : List (List Pr)} {E : List Ent}

theorem key_str {key : Value} {k : Lit} (h : keyOf Try.prog 9 key = some k) : ∃ s : ByteArray, key = .string s ∧ k = kl s := by
  obtain ⟨s, rfl⟩ := Maps.keyOf_string_inv Try.underlying9 h
  refine ⟨s, rfl, ?_⟩
  simp [keyOf, Try.underlying9, mapKey] at h
  rw [← h.2]
  rfl
theorem entry_any {f : Lit → Option Value} {Dm : DataW Value} (hcf : ∀ kl, (f kl = none → Maps.has Dm kl = false) ∧ ∀ v, f kl = some v → Maps.has Dm kl = true ∧ ∀ z, Dm.atKey kl z = .held v)
    {kl : Lit} {c0 : Value} {y : DataW Value × List MemPlace} (hd : Maps.has Dm kl = true) (hR : anyElem c0 = some y) (hat : ∀ zd, Dm.atKey kl zd = y.1) : f kl = some c0 := by
  cases hf : f kl with
  | none => rw [(hcf kl).1 hf] at hd; cases hd
  | some v =>
    have h1 := ((hcf kl).2 v hf).2 (.held v)
    rw [hat] at h1
    unfold anyElem at hR
    injection hR with hR
    rw [← hR] at h1
    simp only at h1
    injection h1 with h1
    rw [h1]
theorem Turn.row {v : Value} {w w' : World} (h : Turn (fun x => v.ownBlock = some x) w w') : w.grownBy w' v.ownBlock :=
  ⟨h.os, h.tape, h.output, h.size, fun i hi hn => h.block i hi (fun e => hn e.symm)⟩
theorem same_kl (k : Lit) (x : ByteArray) : k.sameKey (kl x) = true ↔ k = kl x := by
  constructor
  · intro h; exact WideAt.sameKey_eq h
  · rintro rfl; exact WideAt.sameKey_self (show WideAt.IsKeyLit (kl x) from trivial)
/-- the numbers of an entry's sets -/
theorem row_mem (hok : ∀ d ∈ D, RightP d) (nm s : ByteArray) (h0 : 0 < s.size) : ∀ i d, D[i]? = some d → (i ∈ yOf (entD D) (kl nm) (kl s) ↔ getL d nm = s) := by
  intro i d hd
  rw [yOf_mem, ent_iff hok]
  constructor
  · rintro ⟨d', hd', e, _⟩
    rw [hd] at hd'
    cases hd'
    exact e
  · intro e
    exact ⟨d, hd, e, h0⟩
theorem row_pos (hok : ∀ d ∈ D, RightP d) (nm s : ByteArray) (h : yOf (entD D) (kl nm) (kl s) ≠ []) : 0 < s.size ∧ s.size ≤ 64 ∧ ∀ i ∈ yOf (entD D) (kl nm) (kl s), i < D.length := by
  obtain ⟨n, hn⟩ := List.exists_mem_of_ne_nil _ h
  rw [yOf_mem, ent_iff hok] at hn
  obtain ⟨d, hd, e, h0⟩ := hn
  refine ⟨h0, e ▸ getL_size (hok d (List.mem_of_getElem? hd)) nm, fun i hi => ?_⟩
  rw [yOf_mem, ent_iff hok] at hi
  obtain ⟨d', hd', _⟩ := hi
  exact (List.getElem?_eq_some_iff.1 hd').1

theorem posts_no {pm : Nat} {Q : Post} {w : World} (h : PostsAt F w pm Q (entD D)) (hok : ∀ d ∈ D, RightP d) {nm s : ByteArray} (hg : Q.g (kl nm) (kl s) = none) : ∀ d ∈ D, 0 < s.size → getL d nm ≠ s := by
  intro d hd h0 e
  obtain ⟨i, hi⟩ := List.mem_iff_getElem?.1 hd
  have h1 := (row_mem hok nm s h0 i d hi).2 e
  rw [h.no _ _ hg] at h1
  cases h1
theorem ranges_turn {R : Value → Option (DataW Value × List MemPlace)} {G : Nat → Prop} {b r n cnt : Nat} {Dm : DataW Value} {left : Lit → Bool} (h : w.ranges Try.prog 9 R b r n Dm left cnt) (ht : Turn G w w') (hb : ¬ G b) (hr : ¬ G r) : w'.ranges Try.prog 9 R b r n Dm left cnt := by
  obtain ⟨es, clock, since, seen, c0, h1, h2, h3, h4, h5, h6⟩ := h
  exact ⟨es, clock, since, seen, c0, (ht.block b (Array.getElem?_eq_some_iff.1 h1).1 hb).trans h1, h2, h3, h4, (ht.block r (Array.getElem?_eq_some_iff.1 h5).1 hr).trans h5, h6⟩
theorem markOK_congr {r : Rl} {S S' : Lit → Prop} {M : List Bool} (h : MarkOK r D S M) (hS : ∀ l, S l ↔ S' l) : MarkOK r D S' M := by
  rw [← funext fun l => propext (hS l)]; exact h
theorem marks_len (r : Rl) (D : List (List Pr)) : (marksOf r D).length = D.length := by simp [marksOf]

/-- marks in memory -/
def Marks (w : World) (v : Value) (M : List Bool) : Prop := Own 4 1 w v M.length (bools M)
theorem Marks.next {w w' : World} {v : Value} {M : List Bool} (h : Marks w v M) (hb : Below w.heap.size w w') : Marks w' v M := Own.below' h hb
theorem Marks.place {w : World} {v : Value} {M : List Bool} (h : Marks w v M) {i : Nat} (hi : i < M.length) :
    ∃ b cap x, v = .slice (some ⟨b, 0, none⟩) M.length cap ∧ M[i]? = some x ∧ w.cell? ⟨b, i, none⟩ = some (.bool x) ∧ w.frozen? ⟨b, i, none⟩ = false ∧ ∀ y : Bool, Marks (w.setCell ⟨b, i, none⟩ (.bool y)) v (M.set i y) := by
  obtain ⟨b, cap, e, hc, hf, hs⟩ := own_place h (by omega : i < M.length * 1)
  refine ⟨b, cap, M[i], e, List.getElem?_eq_getElem hi, ?_, hf, fun y => ?_⟩
  · rw [hc]; simp [bools, hi]
  · unfold Marks
    rw [List.length_set, bools_set]
    exact hs _
theorem Marks.slice {w : World} {v : Value} {M : List Bool} (h : Marks w v M) : ∃ a c, v = .slice a M.length c := by
  obtain ⟨_, a, c, rfl, _⟩ := Own.rd h
  exact ⟨a, c, rfl⟩

theorem still_tail {id : Nat} {Q : Exit → Act → World → Prop} {a : Act} {w : World} {l : List Oper} (n : Nat) (hm : Try.prog.follows .mixedOrders = true) (hB : Region.lexTailB .any l.toArray n = true)
    (h : ∀ w2 : World, w2 = w.drew → wpStill Try.prog l.toArray w2 (fun a' => wpList Try.prog l.toArray Q (l.drop n) a' w2) (l.take n) a) : (Code.region id l.toArray true).wp Try.prog Q a w :=
  wp_region_still_tail n hm hB (h _ rfl)

set_option maxRecDepth 8000 in
set_option maxHeartbeats 2000000 in
theorem one_any (r : Rl) (mv : Value) (M0 : List Bool) (w : World) (h : Idx F w g D) (hr : 1 ≤ r.op ∧ r.op ≤ 4) (hn : r.n.size ≤ maxLen) (hm : Marks w mv M0) (hl : M0.length = D.length) (hF : ∀ b, mv.ownBlock = some b → ¬ F b ∧ b ≠ 0) (hg : Glob w) :
    Calls Try.prog 40 #[.pointer (some ⟨g, 0, none⟩), ragg r, mv] w fun e w' => e = .returned (.tuple #[]) ∧ Marks w' mv (marksOf r D) ∧ Turn (fun x => mv.ownBlock = some x) w w' := by
  obtain ⟨sv, us, bm, pm, bf, Q, h, hqn⟩ := h
  obtain ⟨ma, mc, rfl⟩ := hm.slice
  have hml := hm.lt
  have HI := Lib.hid h
  have HM := Lib.hid hm
  have HF := Lib.hid hF
  have HG := Lib.hid hg
  have HN := Lib.hid hn
  have HR := Lib.hid hr
  have HML := Lib.hid hml
  have HL := Lib.hid hl
  clear hl
  have HOK := Lib.hid h.ok
  have hD := h.len
  have HQN := Lib.hid hqn
  clear h hm hF hg hn hr hml hqn
  have hrr : ragg r = .agg #[.string r.n, .int .i64 r.op, .string r.v] := rfl
  go_enter Try.func40, Try.ntmps40
  rw [hrr]
  clear hrr
  go_wp2_with (first | (go_at_call 55; refine (holds_any r ⟨#[]⟩ _ HR.out (by simp [ByteArray.size]) (HG.out.below (below_alloc w _))).mono ?_; rintro e w1 ⟨rfl, hb1⟩; have HB1 := Lib.hid (bel_trans (below_alloc w _) hb1); have HX1 := Lib.hid ((Blk.new w #[.string r.n, .int .i64 r.op, .string r.v] 104).next hb1); clear hb1) | fail)
  obtain ⟨n, hn⟩ : ∃ n, n = M0.length := ⟨_, rfl⟩
  rw [← hn] at HM HF HML HL ⊢
  have Hn := Lib.hid hn
  have hn61 : n ≤ 61 := by have := HL.out; omega
  clear hn
  have HM1 : Hid (Marks w1 (.slice ma n mc) M0) := Lib.hid (HM.out.next HB1.out)
  have Hl0 : Hid (M0.length = n) := Lib.hid Hn.out.symm
  go_loopw [7, 17] (fun _ i wr => ∃ (k : Nat) (M : List Bool), k ≤ n ∧ i = .int .i64 k ∧ Hid (M.length = n ∧ ∀ j < k, M[j]? = some (holdsB r ⟨#[]⟩)) ∧ Hid (Marks wr (.slice ma n mc) M) ∧ Hid (Turn (fun x => (Value.slice ma n mc).ownBlock = some x) w1 wr)) (fun _ i _ => n - (intOf i).toNat)
  case atStart => exact ⟨0, M0, by omega, rfl, Lib.hid ⟨Hl0.out, fun j hj => by omega⟩, HM1, Lib.hid (Turn.refl _ _)⟩
  case round =>
    obtain ⟨k, M, hk, rfl, HK, HMr, HT⟩ := hrel
    by_cases hlt : k < n
    · obtain ⟨b, cap, x, hs, hx, hc, hf, hset⟩ := HMr.out.place (i := k) (by rw [HK.out.1]; exact hlt)
      rw [HK.out.1] at hs
      cases hs
      have HS := Lib.hid (hset (holdsB r ⟨#[]⟩))
      clear hset hx
      have hk1 : (0 : Int) ≤ (k : Int) := by omega
      have hk2 : (k : Int) < (n : Int) := by omega
      go_wp2_with fail
      go_roundw
      case rel => exact ⟨k + 1, _, by omega, by go_num, Lib.hid ⟨by rw [List.length_set]; exact HK.out.1, fun j hj => by
        by_cases e : j = k
        · subst e; rw [List.getElem?_set_self (by rw [HK.out.1]; omega)]
        · rw [List.getElem?_set_ne (fun e2 => e e2.symm)]; exact HK.out.2 j (by omega)⟩, HS, Lib.hid (HT.out.set (a := ⟨b, k, none⟩) rfl _)⟩
      case measure => simp [intOf]; omega
    · obtain rfl : n = k := by omega
      have HE : Hid (MarkOK r D (fun _ => False) M) := Lib.hid (mark0 (by rw [HK.out.1]; exact HL.out) (fun i hi => HK.out.2 i (by have := HL.out; omega)))
      have HnotF : Hid (∀ x, F x → ¬ (Value.slice ma n mc).ownBlock = some x) := Lib.hid (fun x hx e => (HF.out x e).1 hx)
      have HI2 := Lib.hid ((HI.out.next HB1.out).keep HT.out (fun x hx => HnotF.out x hx))
      have HX2 := Lib.hid (blk_keep HT.out HX1.out (fun e => by have := HML.out _ e; omega))
      have c0 : wr.cell? ⟨g, 2, none⟩ = some (.map (some pm)) := HI2.out.blk.cell 2
      have c1 : wr.cell? ⟨w.heap.size, 0, none⟩ = some (.string r.n) := HX2.out.cell 0
      have HTw : Hid (Turn (fun x => (Value.slice ma n mc).ownBlock = some x) w wr) := Lib.hid ((Turn.of HB1.out).trans HT.out (fun x hx => .inl hx))
      clear HX1 HT
      cases hf : Q.f (kl r.n) with
      | none =>
        have Hf := Lib.hid hf
        have hlook := HI2.out.posts.outer.drew.look1 key9 Try.underlying101 (zero111 wr.drew) (keyOf9 r.n HN.out)
        rw [hf] at hlook
        simp only [Option.getD] at hlook
        clear hf
        go_wp2_with fail
        refine still_tail 7 (by kernel_rfl) (by kernel_rfl) ?_
        intro w2 hw2
        simp only [List.take_succ_cons, List.take_zero, List.drop_succ_cons, List.drop_zero]
        have d0 : w2.cell? ⟨g, 2, none⟩ = some (.map (some pm)) := by rw [hw2]; exact c0
        have d1 : w2.cell? ⟨w.heap.size, 0, none⟩ = some (.string r.n) := by rw [hw2]; exact c1
        rw [← hw2] at hlook
        have HW2 := Lib.hid hw2
        clear hw2 c0 c1
        repeat still_step
        refine wpStill_nil ?_
        have hrg := run_range_nilMap (P := Try.prog) w2 111 9 52 Try.underlying111
        have hnx : ∀ ty, (Instr.next (.pointer (some ⟨w2.heap.size, 0, none⟩)) false ty).run Try.prog (w2.alloc (.mapIter none 0 #[] 0)) = _ := fun ty => run_next_nilMap w2 ty 0 0 #[]
        go_wp2_with fail
        refine wp_loop_rounds 1 ?_
        rw [rounds_succ]
        go_wp2_with fail
        refine bodyPost_end (v := .tuple #[]) (by simp [results, Try.results40, go_sem, *]) rfl ?_
        have hM : M = marksOf r D := mark_end HE.out (fun d hd h0 => (posts_no HI2.out.posts HOK.out (HI2.out.posts.gn _ Hf.out _) d hd h0 rfl).elim)
        rw [← Hn.out]
        refine ⟨rfl, ?_, ?_⟩
        · rw [← hM]
          have := HMr.out.next (bel_drew (bel_refl wr))
          rw [← HW2.out] at this
          exact this.next (below_alloc w2 _)
        · have := HTw.out.next (bel_drew (bel_refl wr))
          rw [← HW2.out] at this
          exact this.next (below_alloc w2 _)
      | some u =>
        obtain ⟨rfl, hFb, hpm, hmap, hcn⟩ := HI2.out.posts.ptr _ _ hf
        have hlook := HI2.out.posts.outer.drew.look1 key9 Try.underlying101 (zero111 wr.drew) (keyOf9 r.n HN.out)
        rw [hf] at hlook
        simp only [Option.getD] at hlook
        clear hf
        go_wp2_with fail
        refine still_tail 7 (by kernel_rfl) (by kernel_rfl) ?_
        intro w2 hw2
        simp only [List.take_succ_cons, List.take_zero, List.drop_succ_cons, List.drop_zero]
        have d0 : w2.cell? ⟨g, 2, none⟩ = some (.map (some pm)) := by rw [hw2]; exact c0
        have d1 : w2.cell? ⟨w.heap.size, 0, none⟩ = some (.string r.n) := by rw [hw2]; exact c1
        rw [← hw2] at hlook
        have HW2 := Lib.hid hw2
        clear hw2 c0 c1
        repeat still_step
        refine wpStill_nil ?_
        obtain ⟨Dm, hown, hsz, hcf⟩ := hmap
        have hown2 : w2.ownsMap Try.prog 9 anyElem (Q.b (kl r.n)) (Q.c (kl r.n)) Dm := by rw [HW2.out]; exact hown
        have HO2 := Lib.hid hown2
        have Hcf := Lib.hid hcf
        clear hown hsz hcf hown2
        go_wp2_with (first
          | (at_range; refine wpList_range_own _ rfl _ 111 rfl 9 52 key9 Try.underlying111 _ _ _ Dm rfl HO2.out ?_; intro w3 hrg3 hg3 hs3)
          | fail)
        have HI3 : Hid (IdxAt F w3 g sv us bm pm bf Q D (entD D)) := Lib.hid (((HI2.out.next (bel_drew (bel_refl wr))).keep (w' := w3) (G := fun _ => False) (by rw [← HW2.out]; exact Turn.grown hg3 (fun b hb => by cases hb)) (fun _ _ h => h)))
        have HX3 : Hid (Blk w3 w.heap.size #[.string r.n, .int .i64 r.op, .string r.v] 104) := Lib.hid (Blk.grown (w := w2) (by rw [HW2.out]; exact HX2.out) hg3 (by simp))
        have HM3 : Hid (Marks w3 (.slice ma n mc) M) := Lib.hid (Own.grown (w := w2) (by rw [HW2.out]; exact HMr.out) hg3 (by simp))
        have HT3 : Hid (Turn (fun x => (Value.slice ma n mc).ownBlock = some x) w w3) := Lib.hid ((HTw.out.next (bel_drew (bel_refl wr))).trans (by rw [← HW2.out]; exact Turn.grown (F := fun _ => False) hg3 (fun b hb => by cases hb)) (fun _ (h : False) => h.elim))
        have hr2 : w.heap.size < w2.heap.size := by
          have := HX2.out.lt
          rw [HW2.out]; exact this
        have HE3 : Hid (MarkOK r D (fun l => Maps.has Dm l = true ∧ Maps.has Dm l = false) M) := Lib.hid (markOK_congr HE.out (fun l => by cases Maps.has Dm l <;> simp))
        have Hmr : Hid (∀ x, (Value.slice ma n mc).ownBlock = some x → x < w.heap.size) := HML
        have HG3 := Lib.hid (HG.out.turn HT3.out (fun e => (HF.out _ e).2 rfl))
        have Hbq : Hid (F (Q.b (kl r.n))) := Lib.hid hFb
        have hrg3' := hrg3
        clear hg3 hs3 hrg3 d0 d1 hlook HE HB1 HM1 Hl0 HK hFb hpm hcn
        go_frame
        go_loopw [8, 9, 10, 12] (fun _ _ _ _ wr => ∃ (left : Lit → Bool) (c : Nat) (M : List Bool), wr.ranges Try.prog 9 anyElem (Q.b (kl r.n)) w2.heap.size (Q.c (kl r.n)) Dm left c ∧ Hid (MarkOK r D (fun l => Maps.has Dm l = true ∧ left l = false) M) ∧ Hid (Marks wr (.slice ma n mc) M) ∧ Hid (Turn (fun x => (Value.slice ma n mc).ownBlock = some x ∨ x = w2.heap.size) w3 wr) ∧ Hid (∀ kl, left kl = true → Maps.has Dm kl = true)) (fun _ _ _ _ wr => wr.rangeLeft (Q.b (kl r.n)) w2.heap.size)
        case atStart => exact ⟨_, _, M, hrg3', HE3, HM3, Lib.hid (Turn.refl _ _), Lib.hid (fun _ h => h)⟩
        case round =>
          clear hrg3' HE3 HM3
          obtain ⟨left, c, M, hrg, HE, HM, HT, Hhas⟩ := hrel
          obtain ⟨wt, rfl⟩ : ∃ wt, wt = wr := ⟨_, rfl⟩
          go_wp2_with (first
            | (at_next; refine wpList_next_ranges _ rfl _ rfl 9 key9 anyElem Value.string (fun v : Value => v) (fun key kl h => by obtain ⟨x, e, _⟩ := key_str h; exact ⟨x, e⟩) (fun v y h => ⟨v, rfl⟩) (Q.b (kl r.n)) w2.heap.size (Q.c (kl r.n)) Dm left c rfl hrg ?_ ?_)
            | fail)
          · intro hc0 hl0
            have hM : M = marksOf r D := mark_end HE.out (fun d hd h0 => by
              refine ⟨?_, hl0 _⟩
              cases hq : Q.g (kl r.n) (kl (getL d r.n)) with
              | none => exact (posts_no HI3.out.posts HOK.out hq d hd h0 rfl).elim
              | some v => exact ((Hcf.out _).2 v hq).1)
            have HMe := Lib.hid hM
            clear hl0 hrg hM
            go_wp2_with fail
            refine bodyPost_end (v := .tuple #[]) (by simp [results, Try.results40, go_sem, *]) rfl ?_
            rw [← Hn.out, ← HMe.out]
            exact ⟨rfl, HM.out, HT3.out.trans HT.out (fun x hx => hx.imp id (fun e => by omega))⟩
          · intro x c0 kl' ya yb w1' cnt1 hkey hlx hR hat hrg1 hlt1 hg1 hs1 hen
            obtain ⟨x', ex, rfl⟩ := key_str hkey
            cases ex
            have hq := entry_any Hcf.out (Hhas.out _ hlx) hR hat
            have hTa : Turn (fun y => (Value.slice ma n mc).ownBlock = some y ∨ y = w2.heap.size) w3 w1' := HT.out.trans (Turn.grown (F := fun y => y = w2.heap.size) hg1 (fun b hb => by injection hb with hb; exact hb.symm)) (fun y hy => .inl (.inr hy))
            have hNF : ∀ y, F y → ¬ ((Value.slice ma n mc).ownBlock = some y ∨ y = w2.heap.size) := fun y hy e => by
              rcases e with e | e
              · exact HnotF.out y hy e
              · have := HI.out.lt y hy; omega
            have HIa := Lib.hid (HI3.out.keep hTa hNF)
            have HXa := Lib.hid (blk_keep hTa HX3.out (fun e => by
              rcases e with e | e
              · have := Hmr.out _ e; omega
              · omega))
            have HMa : Hid (Marks w1' (.slice ma n mc) M) := Lib.hid (Own.grown HM.out hg1 (fun b hb e => by
              injection e with e
              have := Hmr.out b hb
              omega))
            have HGa := Lib.hid (HG3.out.turn hTa (fun e => by
              rcases e with e | e
              · exact (HF.out _ e).2 rfl
              · omega))
            obtain ⟨hrow, hrowF, hrowne⟩ := HIa.out.posts.row _ _ _ hq
            obtain ⟨hx0, hx64, hylt⟩ := row_pos HOK.out r.n x hrowne
            have Hmem := Lib.hid (row_mem HOK.out r.n x hx0)
            generalize hys : yOf (entD D) (kl r.n) (kl x) = ys at *
            have Hlen := Lib.hid (yOf_len (entD D) (kl r.n) (kl x))
            obtain ⟨hcl1, ra, rc, rfl, hcl2⟩ := hrow.rd
            have hys63 : ys.length ≤ 9223372036854775807 := by have h1 := hcl2.1; have h2 := hcl2.2.1; unfold maxLen at h2; omega
            clear hcl1 hcl2
            have HRow := Lib.hid hrow
            have HRF := Lib.hid (fun b hb => hrowF b hb)
            have HTa := Lib.hid hTa
            have Hyl := Lib.hid hylt
            have Hrg1 := Lib.hid hrg1
            have Hleft : Hid (wt.rangeLeft (Q.b (kl r.n)) w2.heap.size = c) := Lib.hid hrg.left_eq
            have Hlt1 : Hid (cnt1 < c) := Lib.hid hlt1
            have Hhx := Lib.hid (Hhas.out _ hlx)
            have x0 : w1'.cell? ⟨w.heap.size, 0, none⟩ = some (.string r.n) := HXa.out.cell 0
            have x1 : w1'.cell? ⟨w.heap.size, 1, none⟩ = some (.int .i64 r.op) := HXa.out.cell 1
            have x2 : w1'.cell? ⟨w.heap.size, 2, none⟩ = some (.string r.v) := HXa.out.cell 2
            clear hkey hlx hR hat hrg hrg1 hlt1 hg1 hs1 hTa hNF hrow hrowF hrowne hylt hys hq HM HT HI3 HX3 HT3 HG3
            go_wp2_with (first
              | (go_at_call 55; refine (holds_any r x _ HR.out (by omega) HGa.out).mono ?_; rintro e w5 ⟨rfl, hb5⟩; have HB5 := Lib.hid hb5; clear hb5)
              | fail)
            have HMb := Lib.hid (HMa.out.next HB5.out)
            have HRb := Lib.hid (HRow.out.below' HB5.out)
            have hrl : ∀ b, (Value.slice ra ys.length rc).ownBlock = some b → b < w5.heap.size := fun b hb => HRb.out.lt b hb
            have Hrl := Lib.hid hrl
            have HTb : Hid (Turn (fun y => (Value.slice ma n mc).ownBlock = some y ∨ y = w2.heap.size) w3 w5) := Lib.hid (HTa.out.next HB5.out)
            have HRgb : Hid (w5.ranges Try.prog 9 anyElem (Q.b (kl r.n)) w2.heap.size (Q.c (kl r.n)) Dm (fun z => left z && !z.sameKey (kl x)) cnt1) := Lib.hid (ranges_turn (G := fun _ => False) Hrg1.out (Turn.of HB5.out) id id)
            have HM0 : Hid (MarkTo r D (fun l => Maps.has Dm l = true ∧ left l = false) x (ys.take 0) M) := Lib.hid (markTo0 HE.out)
            clear hrl HMa HRow HTa Hrg1 hen x0 x1 x2 HXa HGa HIa
            go_loopw [12, 43] (fun _ i wr => ∃ (j : Nat) (M' : List Bool), j ≤ ys.length ∧ i = .int .i64 j ∧ Hid (MarkTo r D (fun l => Maps.has Dm l = true ∧ left l = false) x (ys.take j) M') ∧ Hid (Marks wr (.slice ma n mc) M') ∧ Hid (Turn (fun y => (Value.slice ma n mc).ownBlock = some y) w5 wr)) (fun _ i _ => ys.length - (intOf i).toNat)
            case atStart => exact ⟨0, M, by omega, rfl, HM0, HMb, Lib.hid (Turn.refl _ _)⟩
            case round =>
              clear HM0
              obtain ⟨j, M', hj, rfl, HK, HMr', HT⟩ := hrel
              by_cases hjl : j < ys.length
              · obtain ⟨y, hy⟩ : ∃ y, ys[j]? = some y := ⟨ys[j], List.getElem?_eq_getElem hjl⟩
                have hyn := Hyl.out y (List.mem_of_getElem? hy)
                have HRj : Own 3 1 wr (.slice ra ys.length rc) ys.length (ints ys) := own_keep HT.out HRb.out (fun b hb e => own_apart HRb.out HMb.out (by decide) b hb e)
                obtain ⟨_, ra', rc', e, _, _, _, hcell⟩ := HRj.rd
                cases e
                obtain ⟨b, o, rfl, hc⟩ := hcell j (.int .i64 (y : Int)) (by simp [ints, hy])
                have Hcn := Lib.hid hcell
                have hMl := HK.out.1
                obtain ⟨b2, cap2, x2, hs, hx2, hc2, hf2, hset⟩ := HMr'.out.place (i := y) (by rw [hMl]; exact hyn)
                have HS := Lib.hid (hset (holdsB r x))
                have Htk : Hid (ys.take (j + 1) = ys.take j ++ [y]) := Lib.hid (by
                  obtain ⟨hk', e⟩ := List.getElem?_eq_some_iff.1 hy
                  rw [List.take_succ_eq_append_getElem hk', e])
                have HNx := Lib.hid (markTo_next HK.out hyn)
                rw [hMl, ← HL.out] at hs
                cases hs
                rw [← HL.out] at hyn
                clear hcell hset hx2 hy HRj hMl
                have hj1 : (0 : Int) ≤ (j : Int) := by omega
                have hj2 : (j : Int) < (ys.length : Int) := by omega
                have hy1 : (0 : Int) ≤ (y : Int) := by omega
                have hy2 : (y : Int) < (n : Int) := by omega
                go_wp2_with fail
                go_roundw
                case rel => exact ⟨j + 1, _, by omega, by go_num, Lib.hid (by rw [Htk.out]; exact HNx.out), HS, Lib.hid (HT.out.set (a := ⟨b2, y, none⟩) rfl _)⟩
                case measure => simp [intOf]; omega
              · obtain rfl : ys.length = j := by omega
                rw [List.take_length] at HK
                have HEn : Hid (MarkOK r D (fun l => Maps.has Dm l = true ∧ (left l && !l.sameKey (kl x)) = false) M') := Lib.hid (markOK_congr (markTo_end HK.out HE.out Hmem.out) (fun l => by
                  cases hs : l.sameKey (kl x) with
                  | true =>
                    have := (same_kl l x).1 hs
                    subst this
                    simp [Hhx.out]
                  | false =>
                    have : ¬ l = kl x := fun e => by rw [(same_kl l x).2 e] at hs; cases hs
                    simp [this]))
                have HRgn := Lib.hid (ranges_turn HRgb.out HT.out (fun e => HnotF.out _ Hbq.out e) (fun e => by have := Hmr.out _ e; omega))
                go_wp2_with fail
                go_roundw
                case rel => exact ⟨_, cnt1, M', HRgn.out, HEn, HMr', Lib.hid (HTb.out.trans HT.out (fun x hx => .inl (.inl hx))), Lib.hid (fun k hk => Hhas.out k (by simp at hk; exact hk.1))⟩
                case measure =>
                  rw [HRgn.out.left_eq, Hleft.out]
                  exact Hlt1.out
end Go.Proofs.Ytmmilgcbjpbelaa
