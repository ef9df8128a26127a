/- The series of a store in a row, in some order: maps.Values (58, 81), slices.Collect (79, 102). What an iterator gives, in a row: slices.AppendSeq (102), slices.Collect (79). The series and the times of a store in their order: the told list is their row. The series of a store in their order: all$1 (59), slices.SortFunc (80), slices.SortedFunc (57), all (33). The times of a series in their order: maps.Keys (36), slices.Sorted (35). -/
import Derived.Test.YtbaflgddpciadaaGreatSG
import Derived.Test.YtbaflgddpciadaaGreatKtT
import Derived.Shelf.SlIter.AllValues
set_option linter.unusedVariables false
set_option linter.unusedSimpArgs false
namespace Go.Proofs.YtbaflgddpciadaaGreat
open Go.RowKit Go.Kt Go.Ix Go.Sx Go.Maps Go.Sort Go.Shelf Go.Proofs
set_option maxRecDepth 100000

/-- a pointer to a block -/
def pv (b : Nat) : Value := .pointer (some ⟨b, 0, none⟩)
theorem key_str {key : Value} {k : Lit} (h : keyOf Tryz.prog 9 key = some k) : ∃ s : ByteArray, key = .string s ∧ k = kl s := by
  obtain ⟨s, rfl⟩ := Maps.keyOf_string_inv Tryz.underlying9 h
  refine ⟨s, rfl, ?_⟩
  simp [keyOf, Tryz.underlying9, mapKey] at h
  rw [← h.2]
  rfl
theorem entry_any {f : Lit → Option Value} {Dm : DataW Value} (hcf : ∀ kl, (f kl = none → Maps.has Dm kl = false) ∧ ∀ v, f kl = some v → Maps.has Dm kl = true ∧ ∀ z, Dm.atKey kl z = .held v)
    {kl : Lit} {c0 : Value} {y : DataW Value × List MemPlace} (hd : Maps.has Dm kl = true) (hR : anyElem c0 = some y) (hat : ∀ zd, Dm.atKey kl zd = y.1) : f kl = some c0 := by
  cases hf : f kl with
  | none => rw [(hcf kl).1 hf] at hd; cases hd
  | some v =>
    have h1 := ((hcf kl).2 v hf).2 (.held v)
    rw [hat] at h1
    unfold anyElem at hR
    injection hR with hR
    rw [← hR] at h1
    simp only at h1
    injection h1 with h1
    rw [h1]
/-- the blocks of a map's values, of each key once -/
def ValsOf (f : Lit → Option Value) (xf : Lit → Nat) (ss : List Nat) : Prop := ∃ ks : List Lit, ks.Nodup ∧ (∀ k, k ∈ ks ↔ (f k).isSome = true) ∧ ss = ks.map xf

theorem values_call (mb : Option Nat) (W : World) : Calls Tryz.prog 192 #[.map mb] W fun e w' => e = .returned (.func (.func 213) #[] #[.pointer (some ⟨W.heap.size, 0, none⟩)]) ∧ w' = W.alloc (.cells #[.map mb] 231) := by
  go_enter Tryz.func192, Tryz.ntmps192
  go_wp2
  go_ret
  exact ⟨rfl, rfl⟩

set_option maxHeartbeats 2000000 in
theorem vals_in (n : Nat) (hn : 1 ≤ n) (l Bm b nn : Nat) (f : Lit → Option Value) (xf : Lit → Nat) (Dm : DataW Value) (hcf : ∀ kl, (f kl = none → Maps.has Dm kl = false) ∧ ∀ v, f kl = some v → Maps.has Dm kl = true ∧ ∀ z, Dm.atKey kl z = .held v)
    (hx : ∀ k u, f k = some u → u = pv (xf k)) (J : List Nat → World → Prop)
    (hY : ∀ pre x W, J pre W → pre.length < Maps.size Dm → YieldAt Fence.wide (n - 1) Tryz.prog l #[pv x] W fun e W' => e = .returned (.bool true) ∧ J (pre ++ [x]) W' ∧ KeepsWalks W W')
    (W : World) (hJ : AbidesFrom W.heap.size J) (hm : W.cell? ⟨Bm, 0, none⟩ = some (.map (some b))) (hown : W.ownsMap Tryz.prog 9 anyElem b nn Dm) (h0 : J [] W) :
    CallsIn Fence.wide n Tryz.prog 213 #[.func (.yield l) #[] #[], .pointer (some ⟨Bm, 0, none⟩)] W fun e W' => (∃ v, e = .returned v) ∧ ∃ ss, (ValsOf f xf ss ∧ ss.length ≤ Maps.size Dm) ∧ J ss W' := by
  refine callsIn_of_wp Tryz.func213 rfl trivial ?_ rfl
  simp only [Tryz.ntmps213, List.size_toArray, List.length_cons, List.length_nil, Nat.reduceAdd, Nat.reduceSub, Array.replicate_succ, Array.replicate_zero, List.push_toArray, List.append_toArray, List.nil_append, List.cons_append]
  gi_wp2_with (first
    | (gi_at_range; refine wpListIn_range_own _ rfl _ 231 rfl 9 259 key9 Tryz.underlying231 _ b nn _ rfl hown ?_; intro w0 hrg0 hg0 hs0)
    | gi_in)
  go_frame
  gi_loopw [4] (fun _ wr => ∃ (left : Lit → Bool) (cnt : Nat) (ks : List Lit), wr.ranges Tryz.prog 9 anyElem b W.heap.size nn Dm left cnt ∧ ks.length + cnt ≤ Maps.size Dm ∧ Hid (ks.Nodup ∧ ∀ k, k ∈ ks ↔ Maps.has Dm k = true ∧ left k = false) ∧ Hid (∀ k, left k = true → Maps.has Dm k = true) ∧ J (ks.map xf) wr)
    (fun _ wr => wr.rangeLeft b W.heap.size)
  case atStart =>
    exact ⟨_, _, [], hrg0, by simp, Lib.hid ⟨List.nodup_nil, fun k => by simp⟩, Lib.hid (fun _ h => h), hJ [] W w0 none h0 hg0 (fun r e => by cases e)⟩
  case round =>
    obtain ⟨left, cnt, ks, hrg, hcs, HK, HH, hJs⟩ := hrel
    gi_wp2_with (first
      | (gi_at_next; refine wpListIn_next_ranges _ rfl _ rfl 9 key9 anyElem Value.string (fun v : Value => v) (fun key kl h => by obtain ⟨x, e, _⟩ := key_str h; exact ⟨x, e⟩) (fun v y h => ⟨v, rfl⟩) b W.heap.size nn _ _ _ rfl hrg ?_ ?_)
      | gi_in)
    · intro hc0 hl0
      gi_wp2
      go_end0
      refine ⟨⟨_, rfl⟩, _, ⟨⟨ks, HK.out.1, fun k => ?_, rfl⟩, by rw [List.length_map]; omega⟩, hJs⟩
      rw [HK.out.2 k]
      constructor
      · rintro ⟨h1, _⟩
        cases hf : f k with
        | none => rw [(hcf k).1 hf] at h1; cases h1
        | some u => rfl
      · intro h1
        obtain ⟨u, hu⟩ := Option.isSome_iff_exists.1 h1
        exact ⟨((hcf k).2 u hu).1, hl0 k⟩
    · intro x c k yd yp w2 cnt2 hkey hlk hv hat hrg2 hlt hg2 hs2 hen
      obtain ⟨x', ex, rfl⟩ := key_str hkey
      cases ex
      have hd := HH.out _ hlk
      have hfk := entry_any hcf hd hv hat
      have hcx := hx _ _ hfk
      subst hcx
      have hJ2 : J (ks.map xf) w2 := hJ _ wr w2 (some W.heap.size) hJs hg2 (fun r e => by cases e; exact ⟨Nat.le_refl _, hrg.iter_walk⟩)
      obtain ⟨fn, tmps, assign, body, hy, hR⟩ := hY (ks.map xf) (xf (kl x)) w2 hJ2 (by simp; omega)
      have HK2 : Hid ((ks ++ [kl x]).Nodup ∧ ∀ k, k ∈ ks ++ [kl x] ↔ Maps.has Dm k = true ∧ (left k && !k.sameKey (kl x)) = false) := Lib.hid ⟨List.nodup_append.2 ⟨HK.out.1, by simp, fun a ha b hb e => by
          rw [List.mem_singleton.1 hb] at e
          subst e
          have := ((HK.out.2 _).1 ha).2
          rw [hlk] at this
          cases this⟩, fun k => by
        rw [List.mem_append, List.mem_singleton, HK.out.2 k]
        cases hs : k.sameKey (kl x) with
        | true =>
          have e : k = kl x := WideAt.sameKey_eq hs
          subst e
          simp [hd]
        | false =>
          have : ¬ k = kl x := fun e => by subst e; rw [WideAt.sameKey_self (show WideAt.IsKeyLit (kl x) from trivial)] at hs; cases hs
          simp [this]⟩
      have HH2 : Hid (∀ k, (left k && !k.sameKey (kl x)) = true → Maps.has Dm k = true) := Lib.hid (fun k hk => HH.out k (by simp at hk; exact hk.1))
      clear hs2 hkey hv hat hfk HK HH hd
      gi_wp2
      refine hR.mono ?_
      rintro e W3 ⟨rfl, hJ3, hk3⟩
      gi_wp2
      have hrg3 := hrg2.of_walks hk3
      go_roundw
      case rel => exact ⟨_, cnt2, ks ++ [kl x], hrg3, by simp; omega, HK2, HH2, by simpa using hJ3⟩
      case measure => rw [hrg3.left_eq, hrg.left_eq]; exact hlt
/-- maps.Values hands back an iterator over the map's values -/
theorem vals_gives (n : Nat) (hn : 1 ≤ n) (Bm b nn : Nat) (f : Lit → Option Value) (xf : Lit → Nat) (Dm : DataW Value) (hcf : ∀ kl, (f kl = none → Maps.has Dm kl = false) ∧ ∀ v, f kl = some v → Maps.has Dm kl = true ∧ ∀ z, Dm.atKey kl z = .held v)
    (hx : ∀ k u, f k = some u → u = pv (xf k)) (w : World) (hBm : Bm < w.heap.size) (hm : w.cell? ⟨Bm, 0, none⟩ = some (.map (some b))) (hown : w.ownsMap Tryz.prog 9 anyElem b nn Dm) :
    SeqGives Fence.wide n Tryz.prog 213 #[.pointer (some ⟨Bm, 0, none⟩)] pv (fun ss => ValsOf f xf ss ∧ ss.length ≤ Maps.size Dm) (Maps.size Dm) w := fun l J W hW hJ hY h0 => by
  have hown' : W.ownsMap Tryz.prog 9 anyElem b nn Dm := by
    have hbl := hown.lt
    obtain ⟨es, clock, hb, Ft, hs, hD⟩ := hown
    exact ⟨es, clock, (hW.block b hbl).trans hb, Ft, hs, hD⟩
  exact vals_in n hn l Bm b nn f xf Dm hcf hx J hY W hJ ((hW.cell (p := ⟨Bm, 0, none⟩) hBm).trans hm) hown' h0
end Go.Proofs.YtbaflgddpciadaaGreat
namespace Go.Proofs.YtbaflgddpciadaaGreat
open Go.RowKit Go.Kt Go.Ix Go.Sx Go.Maps Go.Sort Go.Shelf Go.Proofs
set_option maxRecDepth 100000

/-- the loop of AppendSeq over its iterator: how a round begins, and its body -/
noncomputable def seqCode : Option (Code × Code) := match Tryz.f243.body with
  | some (.seq _ (.seq (.seq _ (.block _ (.rangeFunc _ _ a b))) _)) => some (a, b)
  | _ => none
noncomputable def seqA : Code := match seqCode with | some x => x.1 | none => Code.ret
noncomputable def seqB : Code := match seqCode with | some x => x.2 | none => Code.ret
/-- the loop's record, AppendSeq's own row boxed in block g -/
noncomputable def seqRec (fn : FuncId) (sv : Value) (g D : Nat) (st : LoopState) : Loop :=
  { state := st, pending := none, fn, tmps := #[.slice none 0 0, sv, .pointer (some ⟨g, 0, none⟩), undef, .slice none 0 0, undef, sv, undef, undef, undef, undef, undef, undef], params := #[7], assign := seqA, body := seqB, defers := D }
theorem i86 : ∃ i, Tryz.prog.info? 259 = some i ∧ i.zero = some (.pointer none) ∧ i.size = 1 ∧ i.bytes = 8 := info_parts (by kernel_rfl)
/-- between two rounds: the box holds a row of the call's own of what has come -/
structure SeqAt (w0 : World) (fn : FuncId) (sv : Value) (g l D : Nat) (ss : List Nat) (W : World) : Prop where
  box : ∃ v, W.heap[g]? = some (.cells #[v] 257 (0, 0)) ∧ W.ownsRow w0.heap.size 259 1 v ss.length (ss.map pv)
  loop : W.heap[l]? = some (.loop (seqRec fn sv g D .ready))
  defs : W.heap[D]? = some (.deferred (some []))
  below : Below w0.heap.size w0 W
theorem seq_abides (w0 : World) (fn : FuncId) (sv : Value) (g l D B : Nat) (hB : w0.heap.size ≤ B) : AbidesFrom B (SeqAt w0 fn sv g l D) := fun s W W' row h hg hrow => by
  have hr : ∀ r, row = some r → ∃ o : Obj, W.heap[r]? = some o ∧ o.isWalk = true := fun r e => (hrow r e).2
  obtain ⟨v, hv, ho⟩ := h.box
  exact ⟨⟨v, (grownBy_keeps hg hr hv rfl).trans hv, ownsRow_abides_a ho hg hr⟩, (grownBy_keeps hg hr h.loop rfl).trans h.loop, (grownBy_keeps hg hr h.defs rfl).trans h.defs, h.below.grown hg h.below.size (fun k e => Nat.le_trans hB (hrow k e).1)⟩
set_option maxHeartbeats 2000000 in
theorem seq_round (m : Nat) (w0 : World) (fn : FuncId) (sv : Value) (g l D : Nat) (hgl : g ≠ l) (hDl : D ≠ l) (hDg : D ≠ g) (h0g : w0.heap.size ≤ g) (h0l : w0.heap.size ≤ l)
    (N : Nat) (hN : N ≤ 1048576) (ss : List Nat) (x : Nat) (W : World) (h : SeqAt w0 fn sv g l D ss W) (hlen : ss.length < N) :
    YieldAt Fence.wide m Tryz.prog l #[pv x] W fun e W' => e = .returned (.bool true) ∧ SeqAt w0 fn sv g l D (ss ++ [x]) W' ∧ KeepsWalks W W' := by
  obtain ⟨i0, hi, hz0, hz1, hz2⟩ := i86
  obtain ⟨v, hv, hrow⟩ := h.box
  refine ⟨fn, #[.slice none 0 0, sv, .pointer (some ⟨g, 0, none⟩), undef, .slice none 0 0, undef, sv, pv x, undef, undef, undef, undef, undef], seqA, seqB, by simpa [seqRec] using run_yield (P := Tryz.prog) (args := #[pv x]) h.loop rfl, roundIn_of_wpIn trivial ?_⟩
  have hl : l < W.heap.size := (Array.getElem?_eq_some_iff.1 h.loop).1
  have hbr := run_beginRound (P := Tryz.prog) h.loop rfl
  obtain ⟨W2, hW2⟩ : ∃ W2, W.putObj l (.loop { seqRec fn sv g D .ready with state := .busy }) = W2 := ⟨_, rfl⟩
  rw [hW2] at hbr
  have hg2 : W.grownBy W2 (some l) := by rw [← hW2]; exact grownBy_putObj_a _ _ _
  have hk2 : KeepsWalks W W2 := by rw [← hW2]; exact KeepsWalks.putObj _ h.loop rfl
  have hv2 : W2.heap[g]? = some (.cells #[v] 257 (0, 0)) := by rw [← hW2]; exact (World.putObj_heap_other hgl).trans hv
  have hK2 : W2.heap[D]? = some (.deferred (some [])) := by rw [← hW2]; exact (World.putObj_heap_other hDl).trans h.defs
  have hL2 : W2.heap[l]? = some (.loop { seqRec fn sv g D .ready with state := .busy }) := by rw [← hW2]; exact World.putObj_heap_same hl
  have hrow2 : W2.ownsRow w0.heap.size 259 1 v ss.length (ss.map pv) := hrow.kept hg2 (ownsRow_ne_a hrow h.loop (fun cur e => by cases e))
  have hb2 : Below w0.heap.size w0 W2 := h.below.grown hg2 h.below.size (fun k e => by cases e; exact h0l)
  obtain ⟨hc2, hf2⟩ := cell_of_box_a hv2
  have hBlt : g < W2.heap.size := (Array.getElem?_eq_some_iff.1 hv2).1
  have hl2 : l < W2.heap.size := (Array.getElem?_eq_some_iff.1 hL2).1
  have hDlt : D < W2.heap.size := (Array.getElem?_eq_some_iff.1 hK2).1
  have ne_of : ∀ {j : Nat} {o : Obj}, W2.heap[j]? = some o → (∀ cur, o ≠ .cells cur 259 (0, 0)) → some j ≠ v.ownBlock := fun hj hno => by
    rcases ownsRow_ne_a hrow2 hj hno with e | e
    · rw [e]; simp
    · exact fun e' => e e'.symm
  clear hW2
  have hsl : ss.length ≤ 1048576 := by omega
  unfold seqA seqCode
  simp only [Tryz.f243]
  unfold pv
  gi_wp2_with gi_round_op_a
  unfold seqB seqCode
  simp only [Tryz.f243]
  gi_wp2_with (first
    | (gi_at_builtin; refine wpListIn_append_own _ rfl _ _ 257 rfl w0.heap.size 259 i0 (.pointer none) 1 8 Tryz.underlying257 hi hz0 hz1 hz2 rfl (by decide) _ _ _ rfl (hrow2.alloc _) ⟨W2.heap.size, 0, none⟩ 1 1 [pv x] rfl rfl (cell_one_new _ _ _) (by simp [Value.oneCell', pv]) (by simp only [maxLen]; omega) (by omega) (by have := hb2.size; simp; omega) ?_; intro v' w3 hown' hg3 hnil3
       have hv3 : w3.heap[g]? = some (.cells #[v] 257 (0, 0)) := (hg3.block g (by simp; omega) (ne_of hv2 (fun cur e => by cases e))).trans ((Below.heap_alloc _ _ g hBlt).trans hv2)
       obtain ⟨hc3, hf3⟩ := cell_of_box_a hv3
       obtain ⟨g', cap', cur', rfl, hbase', hgb', hr1, hr2, hr3, hr4⟩ : ∃ g' cap' cur', v' = .slice (some ⟨g', 0, none⟩) (ss.length + 1) cap' ∧ w0.heap.size ≤ g' ∧ w3.heap[g']? = some (.cells cur' 259 (0, 0)) ∧ ss.length + 1 ≤ cap' ∧ cap' ≤ maxLen ∧ cur'.size = cap' * 1 ∧ cur'.toList.take ((ss.length + 1) * 1) = ss.map pv ++ [pv x] := by
         rcases hown'.2 with ⟨_, h0⟩ | h'
         · exact absurd h0 (by omega)
         · exact h'
       go_frame)
    | gi_round_op_a)
  have hg3' : (W2.alloc (.cells #[pv x] 259)).grownBy w3 v.ownBlock := hg3
  have hL3 : w3.heap[l]? = some (.loop { seqRec fn sv g D .ready with state := .busy }) := (hg3'.block l (by simp; omega) (ne_of hL2 (fun cur e => by cases e))).trans ((Below.heap_alloc _ _ l hl2).trans hL2)
  have hK3 : w3.heap[D]? = some (.deferred (some [])) := (hg3'.block D (by simp; omega) (ne_of hK2 (fun cur e => by cases e))).trans ((Below.heap_alloc _ _ D hDlt).trans hK2)
  obtain ⟨w4, hw4⟩ : ∃ w4, w3.setCell ⟨g, 0, none⟩ (.slice (some ⟨g', 0, none⟩) (ss.length + 1) cap') = w4 := ⟨_, rfl⟩
  rw [hw4]
  have hg4 : w3.grownBy w4 (some g) := by rw [← hw4]; exact grownBy_setCell0_a _ _ _
  have hv4 : w4.heap[g]? = some (.cells #[.slice (some ⟨g', 0, none⟩) (ss.length + 1) cap'] 257 (0, 0)) := by rw [← hw4]; exact heap_setCell_box_a _ hv3
  have hL4 : w4.heap[l]? = some (.loop { seqRec fn sv g D .ready with state := .busy }) := (hg4.block l (Array.getElem?_eq_some_iff.1 hL3).1 (fun e => hgl (by cases e; rfl))).trans hL3
  have hK4 : w4.heap[D]? = some (.deferred (some [])) := (hg4.block D (Array.getElem?_eq_some_iff.1 hK3).1 (fun e => hDg (by cases e; rfl))).trans hK3
  have hrow4 := hown'.kept hg4 (ownsRow_ne_a hown' hv3 (fun cur e => by cases e))
  have hl4 : l < w4.heap.size := (Array.getElem?_eq_some_iff.1 hL4).1
  have hb3 : Below w0.heap.size w0 w3 := (hb2.alloc hb2.size _).grown hg3' (by have := hb2.size; simp; omega) (fun k e => (hrow2.lt k e).1)
  have hb4 : Below w0.heap.size w0 w4 := hb3.grown hg4 hb3.size (fun k e => by cases e; exact h0g)
  have hk4 : KeepsWalks W w4 := ((hk2.trans (KeepsWalks.alloc _ _)).trans (KeepsWalks.of_grownBy hg3' (ownsRow_not_walk_a (hrow2.alloc _)))).trans (by rw [← hw4]; exact KeepsWalks.setCell _ _ _)
  clear hw4
  refine ⟨_, _, run_endRound none hL4, rfl, ⟨⟨_, (World.putObj_heap_other hgl).trans hv4, ?_⟩, World.putObj_heap_same hl4, (World.putObj_heap_other hDl).trans hK4, hb4.grown (grownBy_putObj_a _ _ _) hb4.size (fun k e => by cases e; exact h0l)⟩, hk4.trans (KeepsWalks.putObj _ hL4 rfl)⟩
  have hlast := hrow4.kept (grownBy_putObj_a w4 l (.loop { { seqRec fn sv g D .ready with state := .busy } with state := if (none : Option Code).isNone then .ready else .done, pending := none })) (ownsRow_ne_a hrow4 hL4 (fun cur e => by cases e))
  simpa using hlast

set_option maxHeartbeats 2000000 in
/-- slices.AppendSeq(nil, seq): a row of what the iterator gives -/
theorem appendSeq_in (n : Nat) (hn : 2 ≤ n) (f : Nat) (lb : Array Value) (eg : ∀ args w, (callFunc f args).run Tryz.prog w = .ok (.enter f args) w) (S : List Nat → Prop) (N : Nat) (hN : N ≤ 1048576) (w : World) (hseq : SeqGives Fence.wide (n - 1) Tryz.prog f lb pv S N w) :
    CallsIn Fence.wide n Tryz.prog 243 #[.slice none 0 0, .func (.func f) #[] lb] w fun e w' => ∃ (v : Value) (ss : List Nat), e = .returned v ∧ S ss ∧ w'.ownsRow w.heap.size 259 1 v ss.length (ss.map pv) ∧ Below w.heap.size w w' := by
  have h1 : 1 ≤ n := by omega
  refine callsIn_of_wp_marks Tryz.func243 rfl trivial ?_ rfl
  simp only [Tryz.ntmps243, List.size_toArray, List.length_cons, List.length_nil, Nat.reduceAdd, Nat.reduceSub, Array.replicate_succ, Array.replicate_zero, List.push_toArray, List.append_toArray, List.nil_append, List.cons_append]
  gi_wp2
  refine wpIn_rangeFunc ?_
  intro fn hfn
  obtain ⟨W0, hW0⟩ : ∃ W0, w.alloc (.cells #[.slice none 0 0] 257) = W0 := ⟨_, rfl⟩
  have hs0 : W0.heap.size = w.heap.size + 1 := by rw [← hW0]; simp
  have hv0 : W0.heap[w.heap.size]? = some (.cells #[.slice none 0 0] 257 (0, 0)) := by rw [← hW0]; exact World.alloc_heap_new w _
  have hb0 : Below w.heap.size w W0 := by rw [← hW0]; exact (Below.refl _ w).alloc (Nat.le_refl _) _
  rw [hW0]
  obtain ⟨W1, hW1⟩ : ∃ W1, (W0.alloc (.deferred (some []))).alloc (.loop (seqRec fn (.func (.func f) #[] lb) w.heap.size W0.heap.size .ready)) = W1 := ⟨_, rfl⟩
  have hold : ∀ k, k < W0.heap.size → W1.heap[k]? = W0.heap[k]? := fun k hk => by
    rw [← hW1]; exact (Below.heap_alloc _ _ k (by simp; omega)).trans (Below.heap_alloc _ _ k hk)
  have hb1 : Below w.heap.size w W1 := by rw [← hW1]; exact (hb0.alloc hb0.size _).alloc (by have := hb0.size; simp; omega) _
  have hs1 : W1.heap.size = W0.heap.size + 2 := by rw [← hW1]; simp
  have hM : SeqAt w fn (.func (.func f) #[] lb) w.heap.size (W0.heap.size + 1) W0.heap.size [] W1 :=
    ⟨⟨_, (hold w.heap.size (by omega)).trans hv0, ⟨rfl, .inl ⟨rfl, rfl⟩⟩⟩,
     by rw [← hW1]; have := World.alloc_heap_new (W0.alloc (.deferred (some []))) (.loop (seqRec fn (.func (.func f) #[] lb) w.heap.size W0.heap.size .ready)); rwa [World.size_alloc] at this,
     by rw [← hW1]; exact (Below.heap_alloc _ _ _ (by simp)).trans (World.alloc_heap_new W0 _), hb1⟩
  refine ⟨W0.heap.size + 1, [{ target := .collected W0.heap.size, args := #[] }], W1, { target := .fn (.func f) lb, args := #[.func (.yield (W0.heap.size + 1)) #[] #[]] }, W1, f,
    #[.func (.yield (W0.heap.size + 1)) #[] #[]] ++ lb, W1, ?_, ?_, ?_, ?_, fun _ => h1, ?_⟩
  · rw [← hW1]; exact run_enterLoop_outer _ _ _ _ _
  · simp [resolve, go_sem]
  · intro f' hf'; exact trivial
  · simp [invoke, go_sem, eg]
  · refine (hseq (W0.heap.size + 1) (SeqAt w fn (.func (.func f) #[] lb) w.heap.size (W0.heap.size + 1) W0.heap.size) W1 hb1 (seq_abides _ _ _ _ _ _ _ hb1.size)
      (fun pre x W hJ hl => seq_round (n - 1 - 1) w fn _ w.heap.size (W0.heap.size + 1) W0.heap.size (by omega) (by omega) (by omega) (Nat.le_refl _) (by omega) N hN pre x W hJ hl) hM).mono ?_
    rintro e W2 ⟨⟨v0, rfl⟩, ss, hS, h2⟩
    obtain ⟨v, hv, hrow⟩ := h2.box
    have hend := run_endLoop (P := Tryz.prog) h2.loop (by simp [seqRec])
    obtain ⟨W3, hW3⟩ : ∃ W3, W2.putObj (W0.heap.size + 1) (.loop { seqRec fn (.func (.func f) #[] lb) w.heap.size W0.heap.size .ready with state := .exhausted }) = W3 := ⟨_, rfl⟩
    rw [hW3] at hend
    have hg3 : W2.grownBy W3 (some (W0.heap.size + 1)) := by rw [← hW3]; exact grownBy_putObj_a _ _ _
    have hv3 : W3.heap[w.heap.size]? = some (.cells #[v] 257 (0, 0)) := by rw [← hW3]; exact (World.putObj_heap_other (by omega)).trans hv
    have hK3 : W3.heap[W0.heap.size]? = some (.deferred (some [])) := by rw [← hW3]; exact (World.putObj_heap_other (by omega)).trans h2.defs
    have hrow3 := hrow.kept hg3 (ownsRow_ne_a hrow h2.loop (fun cur e => by cases e))
    have hb3 : Below w.heap.size w W3 := h2.below.grown hg3 h2.below.size (fun k e => by cases e; omega)
    obtain ⟨hc3, hf3⟩ := cell_of_box_a hv3
    clear hW3
    refine ⟨none, W3, hend, ?_⟩
    gi_wp2
    rw [← hs0]
    refine ⟨by simp, .inl ⟨_, _, rfl, run_takeDeferred hK3, ?_⟩⟩
    exact ⟨_, results_tmp rfl _ _ _, v, ss, rfl, hS, hrow3.kept (grownBy_putObj_a _ _ _) (ownsRow_ne_a hrow3 hK3 (fun cur e => by cases e)), hb3.grown (grownBy_putObj_a _ _ _) hb3.size (fun k e => by cases e; omega)⟩

/-- slices.Collect(seq) -/
theorem collect_in (n : Nat) (hn : 3 ≤ n) (f : Nat) (lb : Array Value) (eg : ∀ args w, (callFunc f args).run Tryz.prog w = .ok (.enter f args) w) (S : List Nat → Prop) (N : Nat) (hN : N ≤ 1048576) (w : World) (hseq : SeqGives Fence.wide (n - 1 - 1) Tryz.prog f lb pv S N w) :
    CallsIn Fence.wide n Tryz.prog 211 #[.func (.func f) #[] lb] w fun e w' => ∃ (v : Value) (ss : List Nat), e = .returned v ∧ S ss ∧ w'.ownsRow w.heap.size 259 1 v ss.length (ss.map pv) ∧ Below w.heap.size w w' := by
  have h1 : 1 ≤ n := by omega
  have h102 : Fence.wide.fn 243 := trivial
  have e102 : ∀ args w, (callFunc 243 args).run Tryz.prog w = .ok (.enter 243 args) w := enters_of Tryz.func243 (by kernel_rfl) rfl
  refine callsIn_of_wp Tryz.func211 rfl trivial ?_ rfl
  simp only [Tryz.ntmps211, List.size_toArray, List.length_cons, List.length_nil, Nat.reduceAdd, Nat.reduceSub, Array.replicate_succ, Array.replicate_zero, List.push_toArray, List.append_toArray, List.nil_append, List.cons_append]
  gi_wp2_with (gi_at_fn 243; refine (appendSeq_in (n - 1) (by omega) f lb eg S N hN _ hseq).mono ?_; rintro e w' ⟨v, ss, rfl, hS, hrow, hb⟩)
  go_ret
  exact ⟨v, ss, rfl, hS, hrow, hb⟩
end Go.Proofs.YtbaflgddpciadaaGreat
namespace Go.Proofs.YtbaflgddpciadaaGreat
open Go.RowKit Go.Kt Go.Ix Go.Sx
set_option maxRecDepth 100000
variable {F F' : Nat → Prop} {w w' : World} {s om : Nat} {S : Sp} {L : List It} {N : Nat}

/-- the series' keys in the order of their sets -/
structure KeysOf (S : Sp) (ks : List Lit) : Prop where
  rise : ks.Pairwise (fun a b => ltS (S.d a) (S.d b))
  mem : ∀ k, k ∈ ks ↔ (S.f k).isSome = true
/-- a series' times in their order -/
structure TimesOf (S : Sp) (k : Lit) (ts : List Int) : Prop where
  rise : ts.Pairwise (fun a b => a < b)
  mem : ∀ z, z ∈ ts ↔ (S.g k (litT z)).isSome = true
theorem times_one {k : Lit} {A B : List Int} (hA : TimesOf S k A) (hB : TimesOf S k B) : A = B :=
  rise_ext (lt := fun a b : Int => a < b) (fun a => Int.lt_irrefl a) (fun h1 h2 => Int.lt_trans h1 h2) hA.rise hB.rise (fun x => by rw [hA.mem, hB.mem])
open Classical in
noncomputable def tsOf (S : Sp) (k : Lit) : List Int := if h : ∃ ts, TimesOf S k ts then h.choose else []
theorem tsOf_eq {k : Lit} {ts : List Int} (h : TimesOf S k ts) : tsOf S k = ts := by
  unfold tsOf
  rw [dif_pos ⟨ts, h⟩]
  exact times_one (Exists.choose_spec (⟨ts, h⟩ : ∃ ts, TimesOf S k ts)) h
def itemOf (S : Sp) (k : Lit) (z : Int) : It := ⟨S.d k, z, S.l k (litT z)⟩
noncomputable def rowOf (S : Sp) (ks : List Lit) : List It := ks.flatMap fun k => (tsOf S k).map (itemOf S k)
theorem told_row (h : StAt F w s om S L N) {ks : List Lit} (hk : KeysOf S ks) (ht : ∀ k ∈ ks, TimesOf S k (tsOf S k)) : L = rowOf S ks := by
  refine rise_store line_sets h.ok.rise ?_ (fun it => ?_)
  · unfold rowOf Rise
    rw [List.pairwise_flatMap]
    refine ⟨fun k hk' => ?_, ?_⟩
    · rw [List.pairwise_map]
      refine List.Pairwise.imp ?_ (ht k hk').rise
      intro a b hab
      exact .inr ⟨rfl, hab⟩
    · refine List.Pairwise.imp ?_ hk.rise
      intro a b hab x hx y hy
      obtain ⟨z, _, rfl⟩ := List.mem_map.1 hx
      obtain ⟨z', _, rfl⟩ := List.mem_map.1 hy
      exact .inl hab
  · rw [h.told]
    unfold rowOf
    rw [List.mem_flatMap]
    constructor
    · rintro ⟨k, u, z, v, hu, hv, rfl⟩
      have hm : k ∈ ks := (hk.mem k).2 (by rw [hu]; rfl)
      exact ⟨k, hm, List.mem_map.2 ⟨z, ((ht k hm).mem z).2 (by rw [hv]; rfl), rfl⟩⟩
    · rintro ⟨k, hm, hx⟩
      obtain ⟨z, hz, rfl⟩ := List.mem_map.1 hx
      obtain ⟨u, hu⟩ := Option.isSome_iff_exists.1 ((hk.mem k).1 hm)
      obtain ⟨v, hv⟩ := Option.isSome_iff_exists.1 (((ht k hm).mem z).1 hz)
      exact ⟨k, u, z, v, hu, hv, rfl⟩
theorem rowOf_take (S : Sp) (ks : List Lit) (i : Nat) (hi : i < ks.length) : rowOf S (ks.take (i + 1)) = rowOf S (ks.take i) ++ (tsOf S ks[i]).map (itemOf S ks[i]) := by
  unfold rowOf
  rw [List.take_succ_eq_append_getElem hi, List.flatMap_append]
  simp
/-- what stands ahead of a place of the row is no more than the row -/
theorem scanL_append (A B : List It) (p : List Pr → Bool) (a b : Int) (t : Tm) : scanL (A ++ B) p a b t = scanL A p a b t ++ scanL B p a b t := by
  unfold scanL
  rw [List.filterMap_append]
theorem scanL_len (L : List It) (hL : ∀ x ∈ L, x.l ≠ []) (p : List Pr → Bool) (a b : Int) (t : Tm) : (scanL L p a b t).length ≤ lenL L := by
  induction L with
  | nil => exact Nat.zero_le _
  | cons x L ih =>
    have h1 := ih (fun y hy => hL y (by simp [hy]))
    have h2 : 1 ≤ x.l.length := by
      have := hL x (by simp)
      cases hx : x.l with
      | nil => exact absurd hx this
      | cons a l => simp
    rw [lenL_cons]
    unfold scanL at h1 ⊢
    rw [List.filterMap_cons]
    split
    · omega
    · rw [List.length_cons]; omega
theorem lenL_sub {A B : List It} (h : A.Sublist B) : lenL A ≤ lenL B := by
  induction h with
  | slnil => exact Nat.le_refl _
  | cons a _ ih => rw [lenL_cons]; omega
  | cons_cons a _ ih => rw [lenL_cons, lenL_cons]; omega
end Go.Proofs.YtbaflgddpciadaaGreat
namespace Go.Proofs.YtbaflgddpciadaaGreat
open Go.RowKit Go.Kt Go.Ix Go.Sx Go.Maps Go.Shelf Go.Proofs
set_option maxRecDepth 100000
variable {F F' : Nat → Prop} {w w' : World} {s om : Nat} {S : Sp} {L : List It} {N : Nat}

theorem all1_raw (W : World) (x y : Nat) (a b : Value) (l m : List Pr) (c1 : W.cell? ⟨x, 0, none⟩ = some a) (c2 : W.cell? ⟨y, 0, none⟩ = some b) (ha : RdP W a l) (hb : RdP W b m) (hl : l.length ≤ 1048576) (hm : m.length ≤ 1048576) :
    Calls Tryz.prog 193 #[pv x, pv y] W fun e w' => e = .returned (.int .i64 (cmpS l m)) ∧ Gr W w' := by
  have HC := Lib.hid (fun (W' : World) (hW : Below W.heap.size W W') => lcompare_any a b l m W' (ha.below hW) (hb.below hW) hl hm)
  clear ha hb hl hm
  generalize cmpS l m = c at HC ⊢
  have l1 := World.block_lt_of_cell? W _ c1
  have l2 := World.block_lt_of_cell? W _ c2
  unfold pv
  go_enter Tryz.func193, Tryz.ntmps193
  go_wp2_with fail
  go_region_held3 (fun W' : World => W'.cell? ⟨x, 0, none⟩ = some a ∧ W'.cell? ⟨y, 0, none⟩ = some b)
    (go_keep)
    (first | (go_simp; go_at_call 86; refine (HC.out _ (by repeat (first | exact bel_refl _ | assumption | apply bel_alloc | apply bel_drew))).mono ?_; rintro e w5 ⟨rfl, hg5⟩; have q1 : w5.cell? ⟨x, 0, none⟩ = some a := (hg5.b.cell (p := ⟨x, 0, none⟩) l1).trans c1; have q2 : w5.cell? ⟨y, 0, none⟩ = some b := (hg5.b.cell (p := ⟨y, 0, none⟩) l2).trans c2))
  go_wp2_with fail
  go_ret
  exact ⟨rfl, Gr.trans (by repeat (first | exact Gr.refl _ | apply Gr.alloc | apply Gr.drew)) hg5⟩
/-- a series' key -/
abbrev SKey (S : Sp) : Type := {k : Lit // (S.f k).isSome = true}
def encS (S : Sp) (k : SKey S) : Value := pv (S.x k.1)
def cfS (S : Sp) (a b : SKey S) : Int := cmpS (S.d a.1) (S.d b.1)
theorem cmpS_neg {a b : List Pr} : cmpS a b < 0 ↔ ltS a b := by
  unfold ltS
  rcases cmpS_rng a b with h | h | h <;> rw [h] <;> omega
theorem swoS (S : Sp) : Go.Sort.SWO (ltOf (cfS S)) := by
  refine ⟨fun x => ?_, fun x y z h1 h2 => ?_, fun x y z h1 h2 => ?_⟩
  · unfold ltOf cfS
    rw [cmpS_self]
    rfl
  · unfold ltOf cfS at *
    rw [decide_eq_true_eq, cmpS_neg] at *
    exact ltS_trans h1 h2
  · unfold ltOf cfS at *
    rw [decide_eq_false_iff_not, cmpS_neg] at *
    intro h
    rcases line_sets.tri (S.d x.1) (S.d y.1) with e | e | e
    · exact h1 e
    · rw [e] at h; exact h2 h
    · exact h2 (ltS_trans e h)
theorem turn_sortWorld {α : Type} [Inhabited α] (enc : α → Value) (w : World) (g n : Nat) (d : Array α) (os : Array Obj) : Turn (fun x => x = g) w (Go.Proofs.sortWorld enc w g 0 n d os) := by
  refine ⟨rfl, rfl, rfl, by unfold Go.Proofs.sortWorld Go.Sort.grow Go.Sort.putRow Go.Sort.mapBlock Go.Sort.ahead; simp, fun k hk hne => ?_⟩
  unfold Go.Proofs.sortWorld
  rw [Go.Sort.heap_grow_old _ _ (by unfold Go.Sort.putRow Go.Sort.mapBlock Go.Sort.ahead; simpa using hk)]
  show (w.heap.modify g (Go.Sort.onCells (Go.Sort.putCells enc 0 _)))[k]? = _
  rw [Array.getElem?_modify, if_neg]
  intro e
  exact hne e.symm
set_option maxHeartbeats 1000000 in
theorem sortf_any (w : World) (h : StAt F w s om S L N) (v : Value) (ks : List (SKey S)) (hv : Go.Kt.Own 259 1 w v ks.length (ks.map (encS S))) (hF : ∀ b, v.ownBlock = some b → ¬ F b) (hl : ks.length ≤ 1048576) (hnd : ks.Nodup) :
    Calls Tryz.prog 212 #[v, .func (.func 193) #[] #[]] w fun e w' => e = .returned (.tuple #[]) ∧ ∃ ks' : List (SKey S), ks'.Perm ks ∧ ks'.Pairwise (fun a b => ltS (S.d a.1) (S.d b.1)) ∧ Go.Kt.Own 259 1 w' v ks'.length (ks'.map (encS S)) ∧ Turn (fun x => v.ownBlock = some x) w w' := by
  obtain ⟨_, ⟨rfl, h0⟩ | ⟨g, cap, cur, rfl, hb, hg, hn, hm, hcs, ht⟩⟩ := hv
  · have : ks = [] := List.eq_nil_of_length_eq_zero h0
    subst this
    refine (AnyF.slices_SortFunc_none { sortF with } none 0 (.func (.func 193) #[] #[]) w).mono ?_
    rintro e w' ⟨rfl, rfl⟩
    exact ⟨rfl, [], List.Perm.refl _, List.Pairwise.nil, own_nil _ 259 1, Turn.refl _ _⟩
  · have hgs : g < w.heap.size := (Array.getElem?_eq_some_iff.1 hg).1
    by_cases hk0 : ks = []
    · subst hk0
      refine (AnyF.slices_SortFunc_none { sortF with } (some ⟨g, 0, none⟩) cap (.func (.func 193) #[] #[]) w).mono ?_
      rintro e w' ⟨rfl, rfl⟩
      exact ⟨rfl, [], List.Perm.refl _, List.Pairwise.nil, ⟨rfl, .inr ⟨g, cap, cur, rfl, hb, hg, hn, hm, hcs, ht⟩⟩, Turn.refl _ _⟩
    obtain ⟨k0, hk0'⟩ : ∃ k0 : SKey S, k0 ∈ ks := List.exists_mem_of_ne_nil _ hk0
    haveI : Inhabited (SKey S) := ⟨k0⟩
    have hcur : ∀ (j : Nat) (k : SKey S), ks[j]? = some k → cur[j]? = some (encS S k) := by
      intro j k hj
      have hjl := (List.getElem?_eq_some_iff.1 hj).1
      have h2 := congrArg (fun z => z[j]?) ht
      simp only [List.getElem?_take, List.getElem?_map, hj, Option.map_some] at h2
      rw [if_pos (by omega)] at h2
      simpa using h2
    have hH : Go.Sort.Holds (encS S) w g 0 ks.toArray := by
      intro j hj
      simp only [List.size_toArray] at hj
      have hx : ks[j]? = some ks[j] := List.getElem?_eq_getElem hj
      have e : ks.toArray[j]! = ks[j] := by
        rw [getElem!_pos _ j (by simpa using hj)]
        simp
      rw [e, Nat.zero_add]
      exact ⟨(cell_of_row w g j cur 259 (0, 0) hg).trans (hcur j _ hx), frozen_of_row w g j cur 259 hg⟩
    have hgF : ∀ x, F x → ¬ x = g := fun x hx e => hF g rfl (e ▸ hx)
    have hcmp : CmpLays1 Tryz.prog 193 #[] (encS S) (cfS S) g 0 ks.toArray.size w := by
      intro m os dk _ x y
      have ht2 := turn_sortWorld (encS S) w g m dk os
      obtain ⟨u, hu⟩ := Option.isSome_iff_exists.1 x.2
      obtain ⟨u', hu'⟩ := Option.isSome_iff_exists.1 y.2
      have h1 := (h.ser _ u hu).keep ht2 hgF
      have h2 := (h.ser _ u' hu').keep ht2 hgF
      have hc := all1_raw _ (S.x x.1) (S.x y.1) _ _ _ _ (h1.blk.cell 0) (h2.blk.cell 0) h1.set.rd h2.set.rd (by have := h1.right.1; omega) (by have := h2.right.1; omega)
      refine hc.mono ?_
      rintro e w2 ⟨rfl, hg2⟩
      exact ⟨rfl, hg2.grow⟩
    have hc := Any.slices_SortFunc (ρ := sortF_ren) sortF (encS S) (fun x => rfl) (cfS S) (swoS S) 193 #[] g 0 cap ks.toArray w (enters_of Tryz.func193 (by kernel_rfl) rfl) hcmp hH hgs (by simp only [List.size_toArray]; omega)
    change Calls Tryz.prog 212 _ _ _ at hc
    rw [List.size_toArray] at hc
    refine hc.mono ?_
    rintro e w' ⟨rfl, d', n, os, hp, hso, rfl⟩
    obtain ⟨T, rfl⟩ : ∃ T : List (SKey S), T.toArray = d' := ⟨d'.toList, by simp⟩
    obtain ⟨hp1, _, hp3⟩ := hp
    simp only [List.size_toArray] at hp1
    have hp4 : T.Perm ks := by
      have := hp3
      simp only [List.extract_toArray, List.extract_eq_take_drop] at this
      simp only [Nat.sub_zero, List.drop_zero] at this
      rw [List.take_of_length_le (by omega), List.take_length] at this
      exact this
    refine ⟨rfl, T, hp4, ?_, ?_, ?_⟩
    · rw [List.pairwise_iff_getElem]
      intro i j hi hj hij
      have h3 := hso i j (Nat.zero_le _) hij (by omega)
      rw [getElem!_pos _ j (by simpa using hj), getElem!_pos _ i (by simpa using hi)] at h3
      simp only [List.getElem_toArray] at h3
      unfold ltOf cfS at h3
      rw [decide_eq_false_iff_not, cmpS_neg] at h3
      rcases line_sets.tri (S.d T[i].1) (S.d T[j].1) with e | e | e
      · exact e
      · exfalso
        have hnT : T.Nodup := hp4.nodup_iff.2 hnd
        obtain ⟨u, hu⟩ := Option.isSome_iff_exists.1 T[i].2
        obtain ⟨u', hu'⟩ := Option.isSome_iff_exists.1 T[j].2
        have e1 := (h.ser _ u hu).key
        have e2 := (h.ser _ u' hu').key
        rw [e, ← e2] at e1
        have e3 : T[i] = T[j] := Subtype.ext e1
        have := (List.nodup_iff_pairwise_ne.1 hnT)
        exact (List.pairwise_iff_getElem.1 this i j hi hj hij) e3
      · exact absurd e h3
    · have hh : (Go.Proofs.sortWorld (encS S) w g 0 n T.toArray os).heap[g]? = some (.cells (Go.Sort.putCells (encS S) 0 T.toArray cur) 259 (0, 0)) := by
        unfold Go.Proofs.sortWorld
        rw [Go.Sort.heap_grow_old _ _ (by unfold Go.Sort.putRow Go.Sort.mapBlock Go.Sort.ahead; simpa using hgs)]
        show (w.heap.modify g (Go.Sort.onCells (Go.Sort.putCells (encS S) 0 T.toArray)))[g]? = _
        rw [Array.getElem?_modify, if_pos rfl, hg]
        rfl
      rw [hp1]
      refine ⟨by rw [List.length_map, hp1, Nat.mul_one], .inr ⟨g, cap, Go.Sort.putCells (encS S) 0 T.toArray cur, rfl, hb, hh, hn, hm, ?_, ?_⟩⟩
      · rw [← hcs]; simp [Go.Sort.putCells]
      · apply List.ext_getElem?
        intro j
        rw [List.getElem?_take]
        by_cases hj : j < ks.length
        · rw [if_pos (by omega)]
          have hjc : j < cur.size := by rw [hcs]; omega
          simp only [Go.Sort.putCells, List.getElem?_map, Array.getElem?_toList, Array.getElem?_mapIdx]
          rw [Array.getElem?_eq_getElem hjc]
          have hjs : j < T.length := by omega
          rw [List.getElem?_eq_getElem hjs]
          simp only [Option.map_some, Nat.zero_le, Nat.zero_add, true_and, List.size_toArray, hjs, if_true, Nat.sub_zero]
          rw [getElem!_pos _ j (by simpa using hjs)]
          simp
        · rw [if_neg (by omega)]
          symm
          apply List.getElem?_eq_none
          rw [List.length_map]
          omega
    · refine (turn_sortWorld (encS S) w g n T.toArray os).mono ?_
      rintro x rfl
      rfl
/-- slices.SortedFunc over maps.Values -/
theorem sortedf_any (w : World) (h : StAt F w s om S L N) (hN : N ≤ 1000000) :
    Calls Tryz.prog 191 #[.func (.func 213) #[] #[.pointer (some ⟨w.heap.size, 0, none⟩)], .func (.func 193) #[] #[]] (w.alloc (.cells #[.map (some om)] 231)) fun e w' => ∃ v ks, e = .returned v ∧ KeysOf S ks ∧ Mine 259 1 w w' v ks.length (ks.map fun k => pv (S.x k)) := by
  obtain ⟨D, ho, hsz, hcf⟩ := h.outer
  have hx : ∀ k u, S.f k = some u → u = pv (S.x k) := fun k u hu => (h.ser k u hu).ptr
  have hb1 : Below w.heap.size w (w.alloc (.cells #[.map (some om)] 231)) := bel_alloc (bel_refl w)
  have ho1 : (w.alloc (.cells #[.map (some om)] 231)).ownsMap Tryz.prog 9 anyElem om S.n D := by
    have hbl := ho.lt
    obtain ⟨es, clock, hb, Ft, hs, hD⟩ := ho
    exact ⟨es, clock, (Below.heap_alloc _ _ om hbl).trans hb, Ft, hs, hD⟩
  have hcol := (callsIn_wide (n := 5)).1 (collect_in 5 (by omega) 213 #[.pointer (some ⟨w.heap.size, 0, none⟩)] (enters_of Tryz.func213 (by kernel_rfl) rfl) (fun ss => ValsOf S.f S.x ss ∧ ss.length ≤ Maps.size D) (Maps.size D) (by have := h.nb.1; omega) (w.alloc (.cells #[.map (some om)] 231))
    (vals_gives 3 (by omega) w.heap.size om S.n S.f S.x D hcf hx _ (by simp) (by simp) ho1))
  have hD : Maps.size D ≤ 1000000 := by have := h.nb.1; omega
  have HD := Lib.hid hD
  have H := Lib.hid h
  have HB1 := Lib.hid hb1
  have HC := Lib.hid hcol
  clear h ho hsz hcf hx ho1 hb1 hcol hD
  go_enter Tryz.func191, Tryz.ntmps191
  go_wp2_with fail
  refine HC.out.mono ?_
  rintro e w2 ⟨v2, ss, rfl, ⟨⟨ks, hnd, hmem, rfl⟩, hlen⟩, hrow, hb2⟩
  obtain ⟨kk, rfl⟩ : ∃ kk : List (SKey S), kk.map Subtype.val = ks := ⟨ks.attach.map (fun a => ⟨a.1, (hmem _).1 a.2⟩), by simp [List.map_map, Function.comp_def]⟩
  have HB2 : Hid (Below w.heap.size w w2) := Lib.hid (bel_trans HB1.out hb2)
  have hs1 : w.heap.size ≤ (w.alloc (.cells #[.map (some om)] 231)).heap.size := by simp
  have hown : Go.Kt.Own 259 1 w2 v2 kk.length (kk.map (encS S)) := by
    have : Go.Kt.Own 259 1 w2 v2 _ _ := ownsRow_base_a hrow (Nat.zero_le _)
    simpa [List.map_map, Function.comp_def, encS] using this
  have hown2 : ∀ b, v2.ownBlock = some b → w.heap.size ≤ b := fun b hb => Nat.le_trans hs1 (hrow.lt b hb).1
  have H2 := Lib.hid (H.out.next HB2.out)
  have hnk : kk.Nodup := by
    have := List.nodup_iff_pairwise_ne.1 hnd
    rw [List.pairwise_map] at this
    exact List.nodup_iff_pairwise_ne.2 (this.imp (fun h e => h (by rw [e])))
  have HSf := Lib.hid (sortf_any w2 H2.out v2 kk hown (fun b hb hF => by have h1 := H.out.lt _ hF; have h2 := hown2 b hb; omega) (by simp at hlen; have := HD.out; omega) hnk)
  have HM : Hid (∀ k : Lit, k ∈ kk.map Subtype.val ↔ (S.f k).isSome = true) := Lib.hid hmem
  have HO2 := Lib.hid hown2
  clear hnd hmem hlen hrow hb2 hs1 hown hown2 hnk HC
  go_wp2_with (go_at_call 212; refine HSf.out.mono ?_; rintro e w3 ⟨rfl, T, hp, hs, ho, ht⟩)
  go_ret
  refine ⟨v2, T.map Subtype.val, rfl, ⟨?_, fun k => ?_⟩, ?_, HO2.out, ?_⟩
  · rw [List.pairwise_map]
    exact hs
  · rw [← HM.out k]
    exact (hp.map _).mem_iff
  · rw [List.length_map, List.map_map]
    exact ho
  · exact ((Turn.of (F := fun x => v2.ownBlock = some x) HB2.out).trans ht (fun x hx => .inl hx)).bel (Nat.le_refl _) (fun x hx => HO2.out x hx)
/-- all -/
theorem all_any (w : World) (h : StAt F w s om S L N) (hN : N ≤ 1000000) :
    Calls Tryz.prog 148 #[.pointer (some ⟨s, 0, none⟩)] w fun e w' => ∃ v ks, e = .returned v ∧ KeysOf S ks ∧ Mine 259 1 w w' v ks.length (ks.map fun k => pv (S.x k)) := by
  have c1 : w.cell? ⟨s, 0, none⟩ = some (.map (some om)) := h.blk.cell 0
  have HC := Lib.hid (sortedf_any w h hN)
  clear h
  go_enter Tryz.func148, Tryz.ntmps148
  go_wp2_with (first
    | (go_at_call 192; refine (values_call _ _).mono ?_; rintro e w2 ⟨rfl, rfl⟩)
    | (go_at_call 191; refine HC.out.mono ?_; rintro e w2 ⟨v, ks, rfl, hk, hm⟩))
  go_ret
  exact ⟨v, ks, rfl, hk, hm⟩
end Go.Proofs.YtbaflgddpciadaaGreat
namespace Go.Proofs.YtbaflgddpciadaaGreat
open Go.RowKit Go.Maps Go.Sort Go.Shelf Go.Proofs Go.Kt
set_option maxRecDepth 100000

theorem sortsA (m : Nat) : AnyZI.SortsIn Tryz.prog sortedA_ren Fence.wide m :=
  ⟨fun blk off cap ss W hH hblk hsz => callsIn_wide.2 (AnyM.slices_Sort_int sortA blk off cap ss W hH hblk hsz),
   fun p cap W => callsIn_wide.2 (AnyM.slices_Sort_int_none sortA p cap W)⟩

theorem tkeys_any (mb : Option Nat) (W : World) : Calls Tryz.prog 151 #[.map mb] W fun e w' => e = .returned (.func (.func 197) #[] #[.pointer (some ⟨W.heap.size, 0, none⟩)]) ∧ w' = W.alloc (.cells #[.map mb] 261) := by
  refine (callsIn_wide (n := 5)).1 ?_
  have := AnyZI.keys_in keysA Fence.wide 5 trivial rfl mb W
  exact this

/-- slices.Sorted of the iterator that maps.Keys has handed back for the map b: a new row of the map's keys, sorted. -/
theorem tsorted_any {H : Type} (b nn : Nat) (D0 : DataW H) (R : Value → Option (DataW H × List MemPlace)) (w : World) (hown : w.ownsMap Tryz.prog 2 R b nn D0) (hmax : Maps.size D0 ≤ maxLen) (hbytes : Maps.size D0 * 8 ≤ 140737488355328) :
    Calls Tryz.prog 150 #[.func (.func 197) #[] #[.pointer (some ⟨w.heap.size, 0, none⟩)]] (w.alloc (.cells #[.map (some b)] 261)) fun e w' => ∃ (v : Value) (ss : List Int), e = .returned v ∧ ss.Perm (intKeys D0) ∧
      w'.ownsRow (w.heap.size + 1) 2 1 v ss.length ((ss.mergeSort (fun x y => decide (x ≤ y))).map encZ) ∧ (v = .slice none 0 0 ↔ ss = []) ∧ Below (w.heap.size + 1) (w.alloc (.cells #[.map (some b)] 261)) w' := by
  refine (callsIn_wide (n := 5)).1 ?_
  have hbl := hown.lt
  have hseq : SeqGives Fence.wide 2 Tryz.prog 197 #[.pointer (some ⟨w.heap.size, 0, none⟩)] encZ (fun ss => ss.Perm (intKeys D0)) (Maps.size D0) (w.alloc (.cells #[.map (some b)] 261)) :=
    AnyZI.keys_gives (ρ := keysA_ren) { keysA with } Fence.wide _ trivial rfl (by omega) w.heap.size b nn D0 _ (by simp) (by simp) (by
      obtain ⟨es, clock, hb, Ft, hs, hD⟩ := hown
      exact ⟨es, clock, (Below.heap_alloc _ _ b hbl).trans hb, Ft, hs, hD⟩)
  have cS := AnyZI.sorted_in sortedA Fence.wide 5 trivial trivial trivial trivial rfl (by omega) (sortsA _) (enters_of Tryz.func196 (by kernel_rfl) rfl) 197 #[.pointer (some ⟨w.heap.size, 0, none⟩)] trivial (enters_of Tryz.func197 (by kernel_rfl) rfl) _ _ hmax hbytes _ hseq
  change CallsIn _ _ Tryz.prog 150 _ _ _ at cS
  refine cS.mono ?_
  rintro e w' ⟨v, ss, rfl, hS, hrow, hnil, hb⟩
  refine ⟨v, ss, rfl, hS, ?_, hnil, ?_⟩
  · have h26 : sortedA_ren.t 26 = 2 := rfl
    rw [h26] at hrow
    simpa using hrow
  · simpa using hb

theorem intKeys_mem {H : Type} {R : Value → Option (DataW H × List MemPlace)} {w : World} {b n : Nat} {D0 : DataW H} (hown : w.ownsMap Tryz.prog 2 R b n D0) : (intKeys D0).Nodup ∧ ∀ x, x ∈ intKeys D0 ↔ Maps.has D0 (.int .i64 x) = true := by
  obtain ⟨es, hD, hpw, _⟩ := hown.entries key2
  obtain ⟨es', hD', hko⟩ := hown.keysOf
  obtain rfl : es = es' := by rw [hD] at hD'; simpa using hD'
  subst hD
  have hk : ∀ p ∈ es, ∃ x, p.1 = .int .i64 x := fun p hp => by obtain ⟨v, hv⟩ := hko p hp; obtain ⟨x, _, hx, _⟩ := Maps.keyOf_i64 Tryz.underlying2 hv; exact ⟨x, hx⟩
  constructor
  · show (es.map fun p => Go.intOf p.1).Nodup
    refine List.pairwise_map.2 (hpw.imp_of_mem fun {p q} hp' hq' hne e => hne ?_)
    obtain ⟨a, ha⟩ := hk p hp'
    obtain ⟨b, hb⟩ := hk q hq'
    rw [ha, hb] at e ⊢
    exact congrArg _ e
  · intro x
    rw [has_eq, List.any_eq_true]
    show x ∈ es.map (fun p => Go.intOf p.1) ↔ _
    rw [List.mem_map]
    constructor
    · rintro ⟨p, hp', rfl⟩
      obtain ⟨a, ha⟩ := hk p hp'
      exact ⟨p, hp', by rw [ha]; simp [Lit.sameKey, Go.intOf]⟩
    · rintro ⟨p, hp', hs⟩
      obtain ⟨a, ha⟩ := hk p hp'
      rw [ha] at hs
      exact ⟨p, hp', by rw [ha]; simpa [Lit.sameKey, Go.intOf] using hs⟩
variable {F F' : Nat → Prop} {w w' : World} {s om : Nat} {S : Sp} {L : List It} {N : Nat}
/-- the times of a series, in a row of the call's own -/
theorem times_any (w : World) {k : Lit} {u : Value} (h : SerAt F w om k u S) (hN : S.c k ≤ 1000000) :
    Calls Tryz.prog 150 #[.func (.func 197) #[] #[.pointer (some ⟨w.heap.size, 0, none⟩)]] (w.alloc (.cells #[.map (some (S.b k))] 261)) fun e w' => ∃ v, e = .returned v ∧ TimesOf S k (tsOf S k) ∧ Mine 2 1 w w' v (tsOf S k).length ((tsOf S k).map encZ) := by
  obtain ⟨D, ho, hsz, hcf⟩ := h.map
  have hkm := intKeys_mem ho
  have hts : TimesOf S k ((intKeys D).mergeSort (fun x y => decide (x ≤ y))) := by
    have hp := List.mergeSort_perm (intKeys D) (fun x y => decide (x ≤ y))
    have hnd := hp.nodup_iff.2 hkm.1
    refine ⟨?_, fun z => ?_⟩
    · have h1 : ((intKeys D).mergeSort leI).Pairwise (fun a b => leI a b = true) := List.pairwise_mergeSort (fun a b c h1 h2 => by simp only [leI, decide_eq_true_eq] at *; exact Int.le_trans h1 h2) (fun a b => by simp only [leI, Bool.or_eq_true, decide_eq_true_eq]; exact Int.le_total a b) _
      refine List.Pairwise.imp ?_ (List.Pairwise.and h1 (List.nodup_iff_pairwise_ne.1 hnd))
      rintro a b ⟨h1, h2⟩
      simp only [leI, decide_eq_true_eq] at h1
      omega
    · rw [hp.mem_iff, hkm.2]
      constructor
      · intro hh
        cases hg : S.g k (litT z) with
        | none => rw [show (Lit.int .i64 z) = litT z from rfl, (hcf _).1 hg] at hh; cases hh
        | some v => rfl
      · intro hh
        obtain ⟨v, hv⟩ := Option.isSome_iff_exists.1 hh
        exact ((hcf _).2 v hv).1
  rw [tsOf_eq hts]
  refine (tsorted_any (S.b k) (S.c k) D anyElem w ho (by rw [hsz]; simp only [maxLen]; omega) (by rw [hsz]; omega)).mono ?_
  rintro e w' ⟨v, ss, rfl, hp, hrow, -, hb⟩
  have e1 : ss.mergeSort (fun x y => decide (x ≤ y)) = (intKeys D).mergeSort (fun x y => decide (x ≤ y)) := mergeSort_of_perm_i hp
  have e2 : ss.length = ((intKeys D).mergeSort (fun x y => decide (x ≤ y))).length := by rw [← e1, List.length_mergeSort]
  rw [e1, e2] at hrow
  refine ⟨v, rfl, hts, ownsRow_base_a hrow (Nat.zero_le _), fun b hb' => by have := (hrow.lt b hb').1; omega, ?_⟩
  exact (bel_trans (bel_alloc (bel_refl w)) (by simpa using hb))
end Go.Proofs.YtbaflgddpciadaaGreat
