/- What an iterator gives, in a row: slices.AppendSeq (102), slices.Collect (79). -/
import Derived.Test.YtplieoalfbpniaaGreatSH
namespace Go.Proofs.YtplieoalfbpniaaGreat
open Go.RowKit Go.Kt Go.Ix Go.Sx Go.Maps Go.Sort Go.Shelf Go.Proofs
set_option maxRecDepth 100000

/-- the loop of AppendSeq over its iterator: how a round begins, and its body -/
noncomputable def seqCode : Option (Code × Code) := match Tryz.f102.body with
  | some (.seq _ (.seq (.seq _ (.block _ (.rangeFunc _ _ a b))) _)) => some (a, b)
  | _ => none
noncomputable def seqA : Code := match seqCode with | some x => x.1 | none => Code.ret
noncomputable def seqB : Code := match seqCode with | some x => x.2 | none => Code.ret
/-- the loop's record, AppendSeq's own row boxed in block g -/
noncomputable def seqRec (fn : FuncId) (sv : Value) (g D : Nat) (st : LoopState) : Loop :=
  { state := st, pending := none, fn, tmps := #[.slice none 0 0, sv, .pointer (some ⟨g, 0, none⟩), undef, .slice none 0 0, undef, sv, undef, undef, undef, undef, undef, undef], params := #[7], assign := seqA, body := seqB, defers := D }
theorem i86 : ∃ i, Tryz.prog.info? 86 = some i ∧ i.zero = some (.pointer none) ∧ i.size = 1 ∧ i.bytes = 8 := info_parts (by kernel_rfl)
/-- between two rounds: the box holds a row of the call's own of what has come -/
structure SeqAt (w0 : World) (fn : FuncId) (sv : Value) (g l D : Nat) (ss : List Nat) (W : World) : Prop where
  box : ∃ v, W.heap[g]? = some (.cells #[v] 84 (0, 0)) ∧ W.ownsRow w0.heap.size 86 1 v ss.length (ss.map pv)
  loop : W.heap[l]? = some (.loop (seqRec fn sv g D .ready))
  defs : W.heap[D]? = some (.deferred (some []))
  below : Below w0.heap.size w0 W
theorem seq_abides (w0 : World) (fn : FuncId) (sv : Value) (g l D B : Nat) (hB : w0.heap.size ≤ B) : AbidesFrom B (SeqAt w0 fn sv g l D) := fun s W W' row h hg hrow => by
  have hr : ∀ r, row = some r → ∃ o : Obj, W.heap[r]? = some o ∧ o.isWalk = true := fun r e => (hrow r e).2
  obtain ⟨v, hv, ho⟩ := h.box
  exact ⟨⟨v, (grownBy_keeps hg hr hv rfl).trans hv, ownsRow_abides_a ho hg hr⟩, (grownBy_keeps hg hr h.loop rfl).trans h.loop, (grownBy_keeps hg hr h.defs rfl).trans h.defs, h.below.grown hg h.below.size (fun k e => Nat.le_trans hB (hrow k e).1)⟩
set_option maxHeartbeats 2000000 in
theorem seq_round (m : Nat) (w0 : World) (fn : FuncId) (sv : Value) (g l D : Nat) (hgl : g ≠ l) (hDl : D ≠ l) (hDg : D ≠ g) (h0g : w0.heap.size ≤ g) (h0l : w0.heap.size ≤ l)
    (N : Nat) (hN : N ≤ 1048576) (ss : List Nat) (x : Nat) (W : World) (h : SeqAt w0 fn sv g l D ss W) (hlen : ss.length < N) :
    YieldAt Fence.wide m Tryz.prog l #[pv x] W fun e W' => e = .returned (.bool true) ∧ SeqAt w0 fn sv g l D (ss ++ [x]) W' ∧ KeepsWalks W W' := by
  obtain ⟨i0, hi, hz0, hz1, hz2⟩ := i86
  obtain ⟨v, hv, hrow⟩ := h.box
  refine ⟨fn, #[.slice none 0 0, sv, .pointer (some ⟨g, 0, none⟩), undef, .slice none 0 0, undef, sv, pv x, undef, undef, undef, undef, undef], seqA, seqB, by simpa [seqRec] using run_yield (P := Tryz.prog) (args := #[pv x]) h.loop rfl, roundIn_of_wpIn trivial ?_⟩
  have hl : l < W.heap.size := (Array.getElem?_eq_some_iff.1 h.loop).1
  have hbr := run_beginRound (P := Tryz.prog) h.loop rfl
  obtain ⟨W2, hW2⟩ : ∃ W2, W.putObj l (.loop { seqRec fn sv g D .ready with state := .busy }) = W2 := ⟨_, rfl⟩
  rw [hW2] at hbr
  have hg2 : W.grownBy W2 (some l) := by rw [← hW2]; exact grownBy_putObj_a _ _ _
  have hk2 : KeepsWalks W W2 := by rw [← hW2]; exact KeepsWalks.putObj _ h.loop rfl
  have hv2 : W2.heap[g]? = some (.cells #[v] 84 (0, 0)) := by rw [← hW2]; exact (World.putObj_heap_other hgl).trans hv
  have hK2 : W2.heap[D]? = some (.deferred (some [])) := by rw [← hW2]; exact (World.putObj_heap_other hDl).trans h.defs
  have hL2 : W2.heap[l]? = some (.loop { seqRec fn sv g D .ready with state := .busy }) := by rw [← hW2]; exact World.putObj_heap_same hl
  have hrow2 : W2.ownsRow w0.heap.size 86 1 v ss.length (ss.map pv) := hrow.kept hg2 (ownsRow_ne_a hrow h.loop (fun cur e => by cases e))
  have hb2 : Below w0.heap.size w0 W2 := h.below.grown hg2 h.below.size (fun k e => by cases e; exact h0l)
  obtain ⟨hc2, hf2⟩ := cell_of_box_a hv2
  have hBlt : g < W2.heap.size := (Array.getElem?_eq_some_iff.1 hv2).1
  have hl2 : l < W2.heap.size := (Array.getElem?_eq_some_iff.1 hL2).1
  have hDlt : D < W2.heap.size := (Array.getElem?_eq_some_iff.1 hK2).1
  have ne_of : ∀ {j : Nat} {o : Obj}, W2.heap[j]? = some o → (∀ cur, o ≠ .cells cur 86 (0, 0)) → some j ≠ v.ownBlock := fun hj hno => by
    rcases ownsRow_ne_a hrow2 hj hno with e | e
    · rw [e]; simp
    · exact fun e' => e e'.symm
  clear hW2
  have hsl : ss.length ≤ 1048576 := by omega
  unfold seqA seqCode
  simp only [Tryz.f102]
  unfold pv
  gi_wp2_with gi_round_op_a
  unfold seqB seqCode
  simp only [Tryz.f102]
  gi_wp2_with (first
    | (gi_at_builtin; refine wpListIn_append_own _ rfl _ _ 84 rfl w0.heap.size 86 i0 (.pointer none) 1 8 Tryz.underlying84 hi hz0 hz1 hz2 rfl (by decide) _ _ _ rfl (hrow2.alloc _) ⟨W2.heap.size, 0, none⟩ 1 1 [pv x] rfl rfl (cell_one_new _ _ _) (by simp [Value.oneCell', pv]) (by simp only [maxLen]; omega) (by omega) (by have := hb2.size; simp; omega) ?_; intro v' w3 hown' hg3 hnil3
       have hv3 : w3.heap[g]? = some (.cells #[v] 84 (0, 0)) := (hg3.block g (by simp; omega) (ne_of hv2 (fun cur e => by cases e))).trans ((Below.heap_alloc _ _ g hBlt).trans hv2)
       obtain ⟨hc3, hf3⟩ := cell_of_box_a hv3
       obtain ⟨g', cap', cur', rfl, hbase', hgb', hr1, hr2, hr3, hr4⟩ : ∃ g' cap' cur', v' = .slice (some ⟨g', 0, none⟩) (ss.length + 1) cap' ∧ w0.heap.size ≤ g' ∧ w3.heap[g']? = some (.cells cur' 86 (0, 0)) ∧ ss.length + 1 ≤ cap' ∧ cap' ≤ maxLen ∧ cur'.size = cap' * 1 ∧ cur'.toList.take ((ss.length + 1) * 1) = ss.map pv ++ [pv x] := by
         rcases hown'.2 with ⟨_, h0⟩ | h'
         · exact absurd h0 (by omega)
         · exact h'
       go_frame)
    | gi_round_op_a)
  have hg3' : (W2.alloc (.cells #[pv x] 86)).grownBy w3 v.ownBlock := hg3
  have hL3 : w3.heap[l]? = some (.loop { seqRec fn sv g D .ready with state := .busy }) := (hg3'.block l (by simp; omega) (ne_of hL2 (fun cur e => by cases e))).trans ((Below.heap_alloc _ _ l hl2).trans hL2)
  have hK3 : w3.heap[D]? = some (.deferred (some [])) := (hg3'.block D (by simp; omega) (ne_of hK2 (fun cur e => by cases e))).trans ((Below.heap_alloc _ _ D hDlt).trans hK2)
  obtain ⟨w4, hw4⟩ : ∃ w4, w3.setCell ⟨g, 0, none⟩ (.slice (some ⟨g', 0, none⟩) (ss.length + 1) cap') = w4 := ⟨_, rfl⟩
  rw [hw4]
  have hg4 : w3.grownBy w4 (some g) := by rw [← hw4]; exact grownBy_setCell0_a _ _ _
  have hv4 : w4.heap[g]? = some (.cells #[.slice (some ⟨g', 0, none⟩) (ss.length + 1) cap'] 84 (0, 0)) := by rw [← hw4]; exact heap_setCell_box_a _ hv3
  have hL4 : w4.heap[l]? = some (.loop { seqRec fn sv g D .ready with state := .busy }) := (hg4.block l (Array.getElem?_eq_some_iff.1 hL3).1 (fun e => hgl (by cases e; rfl))).trans hL3
  have hK4 : w4.heap[D]? = some (.deferred (some [])) := (hg4.block D (Array.getElem?_eq_some_iff.1 hK3).1 (fun e => hDg (by cases e; rfl))).trans hK3
  have hrow4 := hown'.kept hg4 (ownsRow_ne_a hown' hv3 (fun cur e => by cases e))
  have hl4 : l < w4.heap.size := (Array.getElem?_eq_some_iff.1 hL4).1
  have hb3 : Below w0.heap.size w0 w3 := (hb2.alloc hb2.size _).grown hg3' (by have := hb2.size; simp; omega) (fun k e => (hrow2.lt k e).1)
  have hb4 : Below w0.heap.size w0 w4 := hb3.grown hg4 hb3.size (fun k e => by cases e; exact h0g)
  have hk4 : KeepsWalks W w4 := ((hk2.trans (KeepsWalks.alloc _ _)).trans (KeepsWalks.of_grownBy hg3' (ownsRow_not_walk_a (hrow2.alloc _)))).trans (by rw [← hw4]; exact KeepsWalks.setCell _ _ _)
  clear hw4
  refine ⟨_, _, run_endRound none hL4, rfl, ⟨⟨_, (World.putObj_heap_other hgl).trans hv4, ?_⟩, World.putObj_heap_same hl4, (World.putObj_heap_other hDl).trans hK4, hb4.grown (grownBy_putObj_a _ _ _) hb4.size (fun k e => by cases e; exact h0l)⟩, hk4.trans (KeepsWalks.putObj _ hL4 rfl)⟩
  have hlast := hrow4.kept (grownBy_putObj_a w4 l (.loop { { seqRec fn sv g D .ready with state := .busy } with state := if (none : Option Code).isNone then .ready else .done, pending := none })) (ownsRow_ne_a hrow4 hL4 (fun cur e => by cases e))
  simpa using hlast

set_option maxHeartbeats 2000000 in
/-- slices.AppendSeq(nil, seq): a row of what the iterator gives -/
theorem appendSeq_in (n : Nat) (hn : 2 ≤ n) (f : Nat) (lb : Array Value) (eg : ∀ args w, (callFunc f args).run Tryz.prog w = .ok (.enter f args) w) (S : List Nat → Prop) (N : Nat) (hN : N ≤ 1048576) (w : World) (hseq : SeqGives Fence.wide (n - 1) Tryz.prog f lb pv S N w) :
    CallsIn Fence.wide n Tryz.prog 102 #[.slice none 0 0, .func (.func f) #[] lb] w fun e w' => ∃ (v : Value) (ss : List Nat), e = .returned v ∧ S ss ∧ w'.ownsRow w.heap.size 86 1 v ss.length (ss.map pv) ∧ Below w.heap.size w w' := by
  have h1 : 1 ≤ n := by omega
  refine callsIn_of_wp_marks Tryz.func102 rfl trivial ?_ rfl
  simp only [Tryz.ntmps102, List.size_toArray, List.length_cons, List.length_nil, Nat.reduceAdd, Nat.reduceSub, Array.replicate_succ, Array.replicate_zero, List.push_toArray, List.append_toArray, List.nil_append, List.cons_append]
  gi_wp2
  refine wpIn_rangeFunc ?_
  intro fn hfn
  obtain ⟨W0, hW0⟩ : ∃ W0, w.alloc (.cells #[.slice none 0 0] 84) = W0 := ⟨_, rfl⟩
  have hs0 : W0.heap.size = w.heap.size + 1 := by rw [← hW0]; simp
  have hv0 : W0.heap[w.heap.size]? = some (.cells #[.slice none 0 0] 84 (0, 0)) := by rw [← hW0]; exact World.alloc_heap_new w _
  have hb0 : Below w.heap.size w W0 := by rw [← hW0]; exact (Below.refl _ w).alloc (Nat.le_refl _) _
  rw [hW0]
  obtain ⟨W1, hW1⟩ : ∃ W1, (W0.alloc (.deferred (some []))).alloc (.loop (seqRec fn (.func (.func f) #[] lb) w.heap.size W0.heap.size .ready)) = W1 := ⟨_, rfl⟩
  have hold : ∀ k, k < W0.heap.size → W1.heap[k]? = W0.heap[k]? := fun k hk => by
    rw [← hW1]; exact (Below.heap_alloc _ _ k (by simp; omega)).trans (Below.heap_alloc _ _ k hk)
  have hb1 : Below w.heap.size w W1 := by rw [← hW1]; exact (hb0.alloc hb0.size _).alloc (by have := hb0.size; simp; omega) _
  have hs1 : W1.heap.size = W0.heap.size + 2 := by rw [← hW1]; simp
  have hM : SeqAt w fn (.func (.func f) #[] lb) w.heap.size (W0.heap.size + 1) W0.heap.size [] W1 :=
    ⟨⟨_, (hold w.heap.size (by omega)).trans hv0, ⟨rfl, .inl ⟨rfl, rfl⟩⟩⟩,
     by rw [← hW1]; have := World.alloc_heap_new (W0.alloc (.deferred (some []))) (.loop (seqRec fn (.func (.func f) #[] lb) w.heap.size W0.heap.size .ready)); rwa [World.size_alloc] at this,
     by rw [← hW1]; exact (Below.heap_alloc _ _ _ (by simp)).trans (World.alloc_heap_new W0 _), hb1⟩
  refine ⟨W0.heap.size + 1, [{ target := .collected W0.heap.size, args := #[] }], W1, { target := .fn (.func f) lb, args := #[.func (.yield (W0.heap.size + 1)) #[] #[]] }, W1, f,
    #[.func (.yield (W0.heap.size + 1)) #[] #[]] ++ lb, W1, ?_, ?_, ?_, ?_, fun _ => h1, ?_⟩
  · rw [← hW1]; exact run_enterLoop_outer _ _ _ _ _
  · simp [resolve, go_sem]
  · intro f' hf'; exact trivial
  · simp [invoke, go_sem, eg]
  · refine (hseq (W0.heap.size + 1) (SeqAt w fn (.func (.func f) #[] lb) w.heap.size (W0.heap.size + 1) W0.heap.size) W1 hb1 (seq_abides _ _ _ _ _ _ _ hb1.size)
      (fun pre x W hJ hl => seq_round (n - 1 - 1) w fn _ w.heap.size (W0.heap.size + 1) W0.heap.size (by omega) (by omega) (by omega) (Nat.le_refl _) (by omega) N hN pre x W hJ hl) hM).mono ?_
    rintro e W2 ⟨⟨v0, rfl⟩, ss, hS, h2⟩
    obtain ⟨v, hv, hrow⟩ := h2.box
    have hend := run_endLoop (P := Tryz.prog) h2.loop (by simp [seqRec])
    obtain ⟨W3, hW3⟩ : ∃ W3, W2.putObj (W0.heap.size + 1) (.loop { seqRec fn (.func (.func f) #[] lb) w.heap.size W0.heap.size .ready with state := .exhausted }) = W3 := ⟨_, rfl⟩
    rw [hW3] at hend
    have hg3 : W2.grownBy W3 (some (W0.heap.size + 1)) := by rw [← hW3]; exact grownBy_putObj_a _ _ _
    have hv3 : W3.heap[w.heap.size]? = some (.cells #[v] 84 (0, 0)) := by rw [← hW3]; exact (World.putObj_heap_other (by omega)).trans hv
    have hK3 : W3.heap[W0.heap.size]? = some (.deferred (some [])) := by rw [← hW3]; exact (World.putObj_heap_other (by omega)).trans h2.defs
    have hrow3 := hrow.kept hg3 (ownsRow_ne_a hrow h2.loop (fun cur e => by cases e))
    have hb3 : Below w.heap.size w W3 := h2.below.grown hg3 h2.below.size (fun k e => by cases e; omega)
    obtain ⟨hc3, hf3⟩ := cell_of_box_a hv3
    clear hW3
    refine ⟨none, W3, hend, ?_⟩
    gi_wp2
    rw [← hs0]
    refine ⟨by simp, .inl ⟨_, _, rfl, run_takeDeferred hK3, ?_⟩⟩
    exact ⟨_, results_tmp rfl _ _ _, v, ss, rfl, hS, hrow3.kept (grownBy_putObj_a _ _ _) (ownsRow_ne_a hrow3 hK3 (fun cur e => by cases e)), hb3.grown (grownBy_putObj_a _ _ _) hb3.size (fun k e => by cases e; omega)⟩

/-- slices.Collect(seq) -/
theorem collect_in (n : Nat) (hn : 3 ≤ n) (f : Nat) (lb : Array Value) (eg : ∀ args w, (callFunc f args).run Tryz.prog w = .ok (.enter f args) w) (S : List Nat → Prop) (N : Nat) (hN : N ≤ 1048576) (w : World) (hseq : SeqGives Fence.wide (n - 1 - 1) Tryz.prog f lb pv S N w) :
    CallsIn Fence.wide n Tryz.prog 79 #[.func (.func f) #[] lb] w fun e w' => ∃ (v : Value) (ss : List Nat), e = .returned v ∧ S ss ∧ w'.ownsRow w.heap.size 86 1 v ss.length (ss.map pv) ∧ Below w.heap.size w w' := by
  have h1 : 1 ≤ n := by omega
  have h102 : Fence.wide.fn 102 := trivial
  have e102 : ∀ args w, (callFunc 102 args).run Tryz.prog w = .ok (.enter 102 args) w := enters_of Tryz.func102 (by kernel_rfl) rfl
  refine callsIn_of_wp Tryz.func79 rfl trivial ?_ rfl
  simp only [Tryz.ntmps79, List.size_toArray, List.length_cons, List.length_nil, Nat.reduceAdd, Nat.reduceSub, Array.replicate_succ, Array.replicate_zero, List.push_toArray, List.append_toArray, List.nil_append, List.cons_append]
  gi_wp2_with (gi_at_fn 102; refine (appendSeq_in (n - 1) (by omega) f lb eg S N hN _ hseq).mono ?_; rintro e w' ⟨v, ss, rfl, hS, hrow, hb⟩)
  go_ret
  exact ⟨v, ss, rfl, hS, hrow, hb⟩
end Go.Proofs.YtplieoalfbpniaaGreat
