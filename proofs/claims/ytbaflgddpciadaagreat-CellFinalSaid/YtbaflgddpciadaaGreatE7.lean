/- Next, Last; how a deed, an entry is told. A cell in memory. A cell in memory: New, Closed, Safe, Ticks. -/
import Derived.Test.YtbaflgddpciadaaGreatE4
import Derived.Test.YtbaflgddpciadaaGreatPW
import Derived.Test.YtbaflgddpciadaaGreatSQ
set_option linter.unusedVariables false
set_option linter.unusedSimpArgs false
namespace Go.Proofs.YtbaflgddpciadaaGreat
open Go.RowKit Go.Kt Go.Ix Go.Sx Go.Cx
set_option maxRecDepth 100000
set_option maxHeartbeats 1000000 in
theorem last_any (s : Tm) (w : World) : Calls Tryz.prog 132 #[s.val] w fun e w' => e = .returned (lastT s).val ∧ Below w.heap.size w w' := by
  obtain ⟨a, t, m⟩ := s
  unfold Tm.val lastT
  simp only
  go_enter Tryz.func132, Tryz.ntmps132
  go_wp2_with fail
  refine bodyPost_ret (v := .agg #[.int .i64 a, .int .u32 t, .int .u32 4294967295]) (by simp [results, Tryz.results132, go_sem]) rfl ⟨rfl, ?_⟩
  repeat (first | exact bel_refl _ | apply bel_alloc | (refine bel_set ?_ (by simp only [World.size_alloc]; omega)))
def replyA (r : Rep) : Array Value := #[.int .i64 r.err, .int .u32 r.deed, .int .i64 r.state, .int .i64 r.at_.wall, .int .u32 r.at_.tick, .int .u32 r.at_.mark]
def replyV (r : Rep) : Value := .agg (replyA r)
theorem stR_tm (s : Tm) : stR s = decide (tmR s) := by
  rw [Bool.eq_iff_iff, decide_eq_true_iff]
  simp [stR, tmR]
set_option maxHeartbeats 2000000 in
theorem next_any (s : Tm) (hs : tmR s) (hu : 0 ≤ s.tick ∧ s.tick ≤ 4294967295) (w : World) : Calls Tryz.prog 130 #[s.val] w fun e w' => e = .returned (match nextT s with | some n => .tuple #[n.val, .int .i64 0] | none => .tuple #[t0.val, .int .i64 20]) ∧ Below w.heap.size w w' := by
  have HR := Lib.hid (fun W => str_any s W)
  rw [stR_tm, decide_eq_true hs] at HR
  obtain ⟨a, t, m⟩ := s
  obtain ⟨s1, s2⟩ := hs
  obtain ⟨u1, u2⟩ := hu
  simp only at s1 s2 u1 u2
  have HX := Lib.hid ((Blk.new w #[.int .i64 a, .int .u32 t, .int .u32 m] 44).next (below_alloc _ (.cells #[.int .i64 0, .int .u32 0, .int .u32 0] 44)))
  have HY := Lib.hid (Blk.new (w.alloc (.cells #[.int .i64 a, .int .u32 t, .int .u32 m] 44)) #[.int .i64 0, .int .u32 0, .int .u32 0] 44)
  have HB0 := Lib.hid (bel_alloc (o := .cells #[.int .i64 0, .int .u32 0, .int .u32 0] 44) (below_alloc w (.cells #[.int .i64 a, .int .u32 t, .int .u32 m] 44)))
  rw [World.size_alloc] at HY
  unfold Tm.val t0 at *
  simp only at *
  by_cases h1 : t < 4294967295
  · have e : nextT ⟨a, t, m⟩ = some ⟨a, t + 1, 0⟩ := if_pos h1
    rw [e]
    simp only
    clear e
    have hw : IntKind.u32.wrap (t + 1) = t + 1 := by simp [IntKind.wrap, IntKind.bits, IntKind.signed]; omega
    go_enter Tryz.func130, Tryz.ntmps130
    go_upto_region 1 with fail
    generalize (w.alloc (.cells #[.int .i64 a, .int .u32 t, .int .u32 m] 44)).alloc (.cells #[.int .i64 0, .int .u32 0, .int .u32 0] 44) = w1 at HX HY HB0 ⊢
    have x0 : w1.cell? ⟨w.heap.size, 0, none⟩ = some (.int .i64 a) := HX.out.cell 0
    have x1 : w1.cell? ⟨w.heap.size, 1, none⟩ = some (.int .u32 t) := HX.out.cell 1
    have x2 : w1.cell? ⟨w.heap.size, 2, none⟩ = some (.int .u32 m) := HX.out.cell 2
    go_wp2_with (first
      | (go_at_call 73; refine (HR.out _).mono ?_; rintro e w2 ⟨rfl, hb2⟩; have hx2 := HX.out.next hb2; have hy2 := HY.out.next hb2; have X0 : w2.cell? ⟨w.heap.size, 0, none⟩ = some (.int .i64 a) := hx2.cell 0; have X1 : w2.cell? ⟨w.heap.size, 1, none⟩ = some (.int .u32 t) := hx2.cell 1; have X2 : w2.cell? ⟨w.heap.size, 2, none⟩ = some (.int .u32 m) := hx2.cell 2; have y0 : w2.cell? ⟨w.heap.size + 1, 0, none⟩ = some (.int .i64 0) := hy2.cell 0; have y1 : w2.cell? ⟨w.heap.size + 1, 1, none⟩ = some (.int .u32 0) := hy2.cell 1; have y2 : w2.cell? ⟨w.heap.size + 1, 2, none⟩ = some (.int .u32 0) := hy2.cell 2; have f0 : w2.frozen? ⟨w.heap.size + 1, 0, none⟩ = false := hy2.free 0; have f1 : w2.frozen? ⟨w.heap.size + 1, 1, none⟩ = false := hy2.free 1; have f2 : w2.frozen? ⟨w.heap.size + 1, 2, none⟩ = false := hy2.free 2; have HY2 := Lib.hid hy2; have HB2 := Lib.hid hb2; clear hx2 hy2 hb2 x0 x1 x2)
      | fail)
    have hY := ((HY2.out.set 0 (.int .i64 a)).set 1 (.int .u32 (t + 1))).set 2 (.int .u32 0)
    have z0 : (((w2.setCell ⟨w.heap.size + 1, 0, none⟩ (.int .i64 a)).setCell ⟨w.heap.size + 1, 1, none⟩ (.int .u32 (t + 1))).setCell ⟨w.heap.size + 1, 2, none⟩ (.int .u32 0)).cell? ⟨w.heap.size + 1, 0, none⟩ = some (.int .i64 a) := by simpa using hY.cell 0
    have z1 : (((w2.setCell ⟨w.heap.size + 1, 0, none⟩ (.int .i64 a)).setCell ⟨w.heap.size + 1, 1, none⟩ (.int .u32 (t + 1))).setCell ⟨w.heap.size + 1, 2, none⟩ (.int .u32 0)).cell? ⟨w.heap.size + 1, 1, none⟩ = some (.int .u32 (t + 1)) := by simpa using hY.cell 1
    have z2 : (((w2.setCell ⟨w.heap.size + 1, 0, none⟩ (.int .i64 a)).setCell ⟨w.heap.size + 1, 1, none⟩ (.int .u32 (t + 1))).setCell ⟨w.heap.size + 1, 2, none⟩ (.int .u32 0)).cell? ⟨w.heap.size + 1, 2, none⟩ = some (.int .u32 0) := by simpa using hY.cell 2
    refine bodyPost_ret (v := .tuple #[.agg #[.int .i64 a, .int .u32 (t + 1), .int .u32 0], .int .i64 0]) (by simp [results, Tryz.results130, go_sem, z0, z1, z2]) rfl ⟨rfl, ?_⟩
    exact bel_set (bel_set (bel_set (bel_trans HB0.out HB2.out) (Nat.le_succ _)) (Nat.le_succ _)) (Nat.le_succ _)
  · by_cases h2 : a < 4611686018427387904
    · have e : nextT ⟨a, t, m⟩ = some ⟨a + 1, 0, 0⟩ := by unfold nextT; rw [if_neg h1, if_pos h2]
      rw [e]
      simp only
      clear e
      have hw : wrap64 (a + 1) = a + 1 := IntWalk.wrap64_in _ ⟨by omega, by omega⟩
      go_enter Tryz.func130, Tryz.ntmps130
      go_upto_region 1 with fail
      generalize (w.alloc (.cells #[.int .i64 a, .int .u32 t, .int .u32 m] 44)).alloc (.cells #[.int .i64 0, .int .u32 0, .int .u32 0] 44) = w1 at HX HY HB0 ⊢
      have x0 : w1.cell? ⟨w.heap.size, 0, none⟩ = some (.int .i64 a) := HX.out.cell 0
      have x1 : w1.cell? ⟨w.heap.size, 1, none⟩ = some (.int .u32 t) := HX.out.cell 1
      have x2 : w1.cell? ⟨w.heap.size, 2, none⟩ = some (.int .u32 m) := HX.out.cell 2
      go_wp2_with (first
        | (go_at_call 73; refine (HR.out _).mono ?_; rintro e w2 ⟨rfl, hb2⟩; have hx2 := HX.out.next hb2; have hy2 := HY.out.next hb2; have X0 : w2.cell? ⟨w.heap.size, 0, none⟩ = some (.int .i64 a) := hx2.cell 0; have X1 : w2.cell? ⟨w.heap.size, 1, none⟩ = some (.int .u32 t) := hx2.cell 1; have X2 : w2.cell? ⟨w.heap.size, 2, none⟩ = some (.int .u32 m) := hx2.cell 2; have y0 : w2.cell? ⟨w.heap.size + 1, 0, none⟩ = some (.int .i64 0) := hy2.cell 0; have y1 : w2.cell? ⟨w.heap.size + 1, 1, none⟩ = some (.int .u32 0) := hy2.cell 1; have y2 : w2.cell? ⟨w.heap.size + 1, 2, none⟩ = some (.int .u32 0) := hy2.cell 2; have f0 : w2.frozen? ⟨w.heap.size + 1, 0, none⟩ = false := hy2.free 0; have f1 : w2.frozen? ⟨w.heap.size + 1, 1, none⟩ = false := hy2.free 1; have f2 : w2.frozen? ⟨w.heap.size + 1, 2, none⟩ = false := hy2.free 2; have HY2 := Lib.hid hy2; have HB2 := Lib.hid hb2; clear hx2 hy2 hb2 x0 x1 x2)
        | fail)
      have hY := ((HY2.out.set 0 (.int .i64 (a + 1))).set 1 (.int .u32 0)).set 2 (.int .u32 0)
      have z0 : (((w2.setCell ⟨w.heap.size + 1, 0, none⟩ (.int .i64 (a + 1))).setCell ⟨w.heap.size + 1, 1, none⟩ (.int .u32 0)).setCell ⟨w.heap.size + 1, 2, none⟩ (.int .u32 0)).cell? ⟨w.heap.size + 1, 0, none⟩ = some (.int .i64 (a + 1)) := by simpa using hY.cell 0
      have z1 : (((w2.setCell ⟨w.heap.size + 1, 0, none⟩ (.int .i64 (a + 1))).setCell ⟨w.heap.size + 1, 1, none⟩ (.int .u32 0)).setCell ⟨w.heap.size + 1, 2, none⟩ (.int .u32 0)).cell? ⟨w.heap.size + 1, 1, none⟩ = some (.int .u32 0) := by simpa using hY.cell 1
      have z2 : (((w2.setCell ⟨w.heap.size + 1, 0, none⟩ (.int .i64 (a + 1))).setCell ⟨w.heap.size + 1, 1, none⟩ (.int .u32 0)).setCell ⟨w.heap.size + 1, 2, none⟩ (.int .u32 0)).cell? ⟨w.heap.size + 1, 2, none⟩ = some (.int .u32 0) := by simpa using hY.cell 2
      refine bodyPost_ret (v := .tuple #[.agg #[.int .i64 (a + 1), .int .u32 0, .int .u32 0], .int .i64 0]) (by simp [results, Tryz.results130, go_sem, z0, z1, z2]) rfl ⟨rfl, ?_⟩
      exact bel_set (bel_set (bel_set (bel_trans HB0.out HB2.out) (Nat.le_succ _)) (Nat.le_succ _)) (Nat.le_succ _)
    · have e : nextT ⟨a, t, m⟩ = none := by unfold nextT; rw [if_neg h1, if_neg h2]
      rw [e]
      simp only
      clear e
      go_enter Tryz.func130, Tryz.ntmps130
      go_upto_region 1 with fail
      generalize (w.alloc (.cells #[.int .i64 a, .int .u32 t, .int .u32 m] 44)).alloc (.cells #[.int .i64 0, .int .u32 0, .int .u32 0] 44) = w1 at HX HY HB0 ⊢
      have x0 : w1.cell? ⟨w.heap.size, 0, none⟩ = some (.int .i64 a) := HX.out.cell 0
      have x1 : w1.cell? ⟨w.heap.size, 1, none⟩ = some (.int .u32 t) := HX.out.cell 1
      have x2 : w1.cell? ⟨w.heap.size, 2, none⟩ = some (.int .u32 m) := HX.out.cell 2
      go_wp2_with (first
        | (go_at_call 73; refine (HR.out _).mono ?_; rintro e w2 ⟨rfl, hb2⟩; have hx2 := HX.out.next hb2; have hy2 := HY.out.next hb2; have X0 : w2.cell? ⟨w.heap.size, 0, none⟩ = some (.int .i64 a) := hx2.cell 0; have X1 : w2.cell? ⟨w.heap.size, 1, none⟩ = some (.int .u32 t) := hx2.cell 1; have X2 : w2.cell? ⟨w.heap.size, 2, none⟩ = some (.int .u32 m) := hx2.cell 2; have y0 : w2.cell? ⟨w.heap.size + 1, 0, none⟩ = some (.int .i64 0) := hy2.cell 0; have y1 : w2.cell? ⟨w.heap.size + 1, 1, none⟩ = some (.int .u32 0) := hy2.cell 1; have y2 : w2.cell? ⟨w.heap.size + 1, 2, none⟩ = some (.int .u32 0) := hy2.cell 2; have f0 : w2.frozen? ⟨w.heap.size + 1, 0, none⟩ = false := hy2.free 0; have f1 : w2.frozen? ⟨w.heap.size + 1, 1, none⟩ = false := hy2.free 1; have f2 : w2.frozen? ⟨w.heap.size + 1, 2, none⟩ = false := hy2.free 2; have HY2 := Lib.hid hy2; have HB2 := Lib.hid hb2; clear hx2 hy2 hb2 x0 x1 x2)
        | fail)
      have hY := ((HY2.out.set 0 (.int .i64 0)).set 1 (.int .u32 0)).set 2 (.int .u32 0)
      have z0 : (((w2.setCell ⟨w.heap.size + 1, 0, none⟩ (.int .i64 0)).setCell ⟨w.heap.size + 1, 1, none⟩ (.int .u32 0)).setCell ⟨w.heap.size + 1, 2, none⟩ (.int .u32 0)).cell? ⟨w.heap.size + 1, 0, none⟩ = some (.int .i64 0) := by simpa using hY.cell 0
      have z1 : (((w2.setCell ⟨w.heap.size + 1, 0, none⟩ (.int .i64 0)).setCell ⟨w.heap.size + 1, 1, none⟩ (.int .u32 0)).setCell ⟨w.heap.size + 1, 2, none⟩ (.int .u32 0)).cell? ⟨w.heap.size + 1, 1, none⟩ = some (.int .u32 0) := by simpa using hY.cell 1
      have z2 : (((w2.setCell ⟨w.heap.size + 1, 0, none⟩ (.int .i64 0)).setCell ⟨w.heap.size + 1, 1, none⟩ (.int .u32 0)).setCell ⟨w.heap.size + 1, 2, none⟩ (.int .u32 0)).cell? ⟨w.heap.size + 1, 2, none⟩ = some (.int .u32 0) := by simpa using hY.cell 2
      refine bodyPost_ret (v := .tuple #[.agg #[.int .i64 0, .int .u32 0, .int .u32 0], .int .i64 20]) (by simp [results, Tryz.results130, go_sem, z0, z1, z2]) rfl ⟨rfl, ?_⟩
      exact bel_set (bel_set (bel_set (bel_trans HB0.out HB2.out) (Nat.le_succ _)) (Nat.le_succ _)) (Nat.le_succ _)
end Go.Proofs.YtbaflgddpciadaaGreat
set_option linter.unusedVariables false
set_option linter.unusedSimpArgs false
namespace Go.Proofs.YtbaflgddpciadaaGreat
open Go.RowKit Go.Kt Go.Ix Go.Sx Go.Cx
set_option maxRecDepth 100000
/-- nobody in F holds what a slice shows -/
def Far (F : Nat → Prop) (w : World) (v : Value) (n : Nat) : Prop := 0 < n → ∀ b, v.ownBlock = some b → b < w.heap.size ∧ ¬ F b
theorem Far.next {F G : Nat → Prop} {w w' : World} {v : Value} {n : Nat} (h : Far F w v n) (hs : w.heap.size ≤ w'.heap.size) (hG : ∀ x, G x → F x ∨ w.heap.size ≤ x) : Far G w' v n := fun hn b hb => by
  obtain ⟨h1, h2⟩ := h hn b hb
  refine ⟨Nat.lt_of_lt_of_le h1 hs, fun hg => ?_⟩
  rcases hG b hg with h3 | h3
  · exact h2 h3
  · omega
theorem Far.fresh {F : Nat → Prop} {w0 w : World} {v : Value} {n e size : Nat} {xs : List Value} (ho : Kt.Own e size w v n xs) (hF : ∀ x, F x → x < w0.heap.size) (hb : ∀ b, v.ownBlock = some b → w0.heap.size ≤ b) : Far F w v n := fun _ b e =>
  ⟨ho.lt b e, fun h => by have := hF b h; have := hb b e; omega⟩
theorem rdrow_keep {F : Nat → Prop} {w w' : World} {size n : Nat} {v : Value} {xs : List Value} (h : RdRow size w v n xs) (hf : Far F w v n) (ht : Turn F w w') : RdRow size w' v n xs := by
  obtain ⟨h0, a, cap, rfl, h1, h2, h3, h5⟩ := h
  refine ⟨h0, a, cap, rfl, h1, h2, h3, fun j u hj => ?_⟩
  obtain ⟨b, o, rfl, hc⟩ := h5 j u hj
  have hn : 0 < n := by
    have := (List.getElem?_eq_some_iff.1 hj).1
    rw [h0] at this
    exact Nat.pos_of_ne_zero (fun e => by rw [e, Nat.zero_mul] at this; omega)
  obtain ⟨h6, h7⟩ := hf hn b rfl
  refine ⟨b, o, rfl, ?_⟩
  rw [World.cell?_of_block (a := ⟨b, o + j, none⟩) (ht.block b h6 h7)]
  exact hc
/-- what a write says -/
def Wr.pl (m : Wr) : Wp := ⟨m.st, m.t, m.k, m.n, m.x⟩
theorem pl_bare {m n : Wr} : m.bare = n.bare ↔ m.pl = n.pl := by
  obtain ⟨a1, a2, a3, a4, a5, a6⟩ := m
  obtain ⟨b1, b2, b3, b4, b5, b6⟩ := n
  unfold Wr.bare Wr.pl
  simp
theorem pl_bares : ∀ {L M : List Wr}, L.map Wr.bare = M.map Wr.bare ↔ L.map Wr.pl = M.map Wr.pl
  | [], [] => by simp
  | [], _ :: _ => by simp
  | _ :: _, [] => by simp
  | x :: L, y :: M => by simp [pl_bare, pl_bares (L := L) (M := M)]
theorem right_pl (m : Wr) : RightWp m.pl ↔ RightW m := Iff.rfl
theorem batch_pl {L : List Wr} {ws : List Wp} (h : L.map Wr.pl = ws) : BatchW L ↔ Batch ws := by
  subst h
  unfold BatchW Batch GoodTo
  simp only [List.length_map]
  refine and_congr_right fun _ => and_congr_right fun _ => ⟨fun h => ⟨fun p hp => ?_, ?_⟩, fun ⟨h1, h2⟩ i x hi hx => ⟨(right_pl x).1 (h1 _ (List.mem_map_of_mem (List.mem_of_getElem? hx))), fun j y hj hy => ?_⟩⟩
  · obtain ⟨m, hm, rfl⟩ := List.mem_map.1 hp
    obtain ⟨i, hi⟩ := List.getElem?_of_mem hm
    exact (h i m (List.getElem?_eq_some_iff.1 hi).1 hi).1
  · rw [List.pairwise_map, List.pairwise_iff_getElem]
    intro j i hj hi hji
    exact (h i L[i] hi (List.getElem?_eq_getElem hi)).2 j L[j] hji (List.getElem?_eq_getElem hj)
  · rw [List.pairwise_map, List.pairwise_iff_getElem] at h2
    obtain ⟨hj', rfl⟩ := List.getElem?_eq_some_iff.1 hy
    obtain ⟨hi', rfl⟩ := List.getElem?_eq_some_iff.1 hx
    exact h2 j i hj' hi' hj
/-- rows of writes that are only read, apart from all that F names -/
structure RdBT (F : Nat → Prop) (w : World) (v : Value) (T : List Wr) : Prop where
  row : RdRow 5 w v T.length (flatW T)
  far : Far F w v T.length
  sets : ∀ m ∈ T, RdP w m.sv m.st ∧ Far F w m.sv m.st.length
def RdB (F : Nat → Prop) (w : World) (v : Value) (ws : List Wp) : Prop := ∃ T, RdBT F w v T ∧ T.map Wr.pl = ws
theorem RdBT.rd {F : Nat → Prop} {w : World} {v : Value} {T : List Wr} (h : RdBT F w v T) : RdW w v T := ⟨h.row, fun m hm => (h.sets m hm).1⟩
theorem RdBT.keep {F G : Nat → Prop} {w w' : World} {v : Value} {T : List Wr} (h : RdBT F w v T) (ht : Turn F w w') (hG : ∀ b, G b → F b ∨ w.heap.size ≤ b) : RdBT G w' v T :=
  ⟨rdrow_keep h.row h.far ht, h.far.next ht.size hG, fun m hm => ⟨rdrow_keep (h.sets m hm).1 (h.sets m hm).2 ht, (h.sets m hm).2.next ht.size hG⟩⟩
theorem RdB.keep {F G : Nat → Prop} {w w' : World} {v : Value} {ws : List Wp} (h : RdB F w v ws) (ht : Turn F w w') (hG : ∀ b, G b → F b ∨ w.heap.size ≤ b) : RdB G w' v ws := by
  obtain ⟨T, h1, h2⟩ := h
  exact ⟨T, h1.keep ht hG, h2⟩
theorem RdB.nil (F : Nat → Prop) (w : World) : RdB F w (.slice none 0 0) [] := ⟨[], ⟨(own_nil w 87 5).rd, (fun h => by simp at h), fun m hm => by cases hm⟩, rfl⟩
theorem RdB.open {F : Nat → Prop} {w : World} {v : Value} {ws : List Wp} (h : RdB F w v ws) : ∃ a c, v = .slice a ws.length c := by
  obtain ⟨T, h1, h2⟩ := h
  obtain ⟨a, c, e, -⟩ := h1.rd.open
  rw [← h2, List.length_map]
  exact ⟨a, c, e⟩
/-- what twins made is apart from what was there -/
theorem wrs_rdb {F : Nat → Prop} {w0 w : World} {v : Value} {T : List Wr} (h : Wrs 87 104 w0 w v T) (hF : ∀ x, F x → x < w0.heap.size) : RdB F w v (T.map Wr.pl) :=
  ⟨T, ⟨h.row.rd, Far.fresh h.row.1 hF h.row.2.1, fun m hm => ⟨(h.sets m hm).1.rd, Far.fresh (h.sets m hm).1 hF (h.sets m hm).2⟩⟩, rfl⟩
/-! ### deeds -/
def dval (d : Dd) (sl : Value) : Value := .agg #[.int .i64 d.state, .int .i64 d.at_.wall, .int .u32 d.at_.tick, .int .u32 d.at_.mark, sl]
def litD (n : Int) : Lit := .int .u32 n
structure DeedsAt (F : Nat → Prop) (w : World) (dm : Nat) (D : List Dd) (f : Lit → Option Value) : Prop where
  map : MapIs Tryz.prog 24 w dm f D.length
  all : ∀ k v, f k = some v → ∃ d ∈ D, k = litD d.id ∧ ∃ sl, v = dval d sl ∧ RdB F w sl d.ws
  has : ∀ d ∈ D, (f (litD d.id)).isSome
theorem litD_inj {a b : Int} (h : litD a = litD b) : a = b := by unfold litD at h; injection h
theorem DeedsAt.there {F : Nat → Prop} {w : World} {dm : Nat} {D : List Dd} {f : Lit → Option Value} (h : DeedsAt F w dm D f) (hr : RiseD D) {d : Dd} (hd : d ∈ D) : ∃ sl, f (litD d.id) = some (dval d sl) ∧ RdB F w sl d.ws := by
  obtain ⟨v, hv⟩ := Option.isSome_iff_exists.1 (h.has d hd)
  obtain ⟨d', hd', e, sl, rfl, hb⟩ := h.all _ _ hv
  have := rise_same hr hd hd' (litD_inj e)
  subst this
  exact ⟨sl, hv, hb⟩
theorem DeedsAt.lacks {F : Nat → Prop} {w : World} {dm : Nat} {D : List Dd} {f : Lit → Option Value} (h : DeedsAt F w dm D f) {n : Int} (hn : findD D n = none) : f (litD n) = none := by
  cases hv : f (litD n) with
  | none => rfl
  | some v =>
    obtain ⟨d, hd, e, -⟩ := h.all _ _ hv
    exact absurd (litD_inj e).symm (findD_none hn d hd)
theorem DeedsAt.keep {F G H : Nat → Prop} {w w' : World} {dm : Nat} {D : List Dd} {f : Lit → Option Value} (h : DeedsAt F w dm D f) (ht : Turn H w w') (hn : ¬ H dm) (hH : ∀ x, H x → F x) (hG : ∀ b, G b → F b ∨ w.heap.size ≤ b) : DeedsAt G w' dm D f :=
  ⟨map_keep ht h.map hn, fun k v hv => by
    obtain ⟨d, hd, e, sl, e2, hb⟩ := h.all k v hv
    exact ⟨d, hd, e, sl, e2, hb.keep (ht.mono hH) hG⟩, h.has⟩
/-! ### pins -/
def pval (p : Pi) : Value := .agg #[.int .i64 p.at_.wall, .int .u32 p.at_.tick, .int .u32 p.at_.mark, .int .i64 p.until_]
def litP (n : Int) : Lit := .int .i64 n
structure PinsAt (w : World) (pm : Nat) (P : List Pi) (f : Lit → Option Value) : Prop where
  map : MapIs Tryz.prog 3 w pm f P.length
  all : ∀ k v, f k = some v → ∃ p ∈ P, k = litP p.id ∧ v = pval p
  has : ∀ p ∈ P, f (litP p.id) = some (pval p)
theorem PinsAt.keep {H : Nat → Prop} {w w' : World} {pm : Nat} {P : List Pi} {f : Lit → Option Value} (h : PinsAt w pm P f) (ht : Turn H w w') (hn : ¬ H pm) : PinsAt w' pm P f := ⟨map_keep ht h.map hn, h.all, h.has⟩
/-! ### the book -/
def ecells (x : En) (sl : Value) : List Value := [.string x.token, .int .u32 x.deed, .int .i64 x.state, .int .i64 x.at_.wall, .int .u32 x.at_.tick, .int .u32 x.at_.mark, sl]
def flatE : List (En × Value) → List Value
  | [] => []
  | q :: t => ecells q.1 q.2 ++ flatE t
theorem flatE_append (T S : List (En × Value)) : flatE (T ++ S) = flatE T ++ flatE S := by
  induction T with
  | nil => rfl
  | cons x t ih => simp only [List.cons_append, flatE, ih, List.append_assoc]
theorem flatE_get (T : List (En × Value)) : ∀ (i : Nat) (x : En × Value), T[i]? = some x → ∀ j, j < 7 → (flatE T)[i * 7 + j]? = (ecells x.1 x.2)[j]? := by
  induction T with
  | nil => intro i x h; simp at h
  | cons y t ih =>
    intro i x h j hj
    have hl : (ecells y.1 y.2).length = 7 := rfl
    match i with
    | 0 =>
      simp at h; subst h
      rw [flatE, Nat.zero_mul, Nat.zero_add, List.getElem?_append_left (by omega)]
    | i + 1 =>
      simp only [List.getElem?_cons_succ] at h
      have := ih i x h j hj
      rw [flatE, List.getElem?_append_right (by omega), hl, show (i + 1) * 7 + j - 7 = i * 7 + j by omega]
      exact this
structure BookAt (F : Nat → Prop) (w : World) (v : Value) (B : List (En × Value)) : Prop where
  row : Kt.Own 178 7 w v B.length (flatE B)
  ws : ∀ q ∈ B, RdB F w q.2 q.1.ws
theorem BookAt.keep {F G H : Nat → Prop} {w w' : World} {v : Value} {B : List (En × Value)} (h : BookAt F w v B) (ht : Turn H w w') (hn : ∀ b, v.ownBlock = some b → ¬ H b) (hH : ∀ x, H x → F x) (hG : ∀ b, G b → F b ∨ w.heap.size ≤ b) : BookAt G w' v B :=
  ⟨own_keep ht h.row hn, fun q hq => (h.ws q hq).keep (ht.mono hH) hG⟩
theorem BookAt.cells {F : Nat → Prop} {w : World} {v : Value} {B : List (En × Value)} (h : BookAt F w v B) : ∃ a c, v = .slice a B.length c ∧ B.length ≤ c ∧ c ≤ 9223372036854775807 ∧ ∀ (i : Nat) q, B[i]? = some q → ∃ g, a = some ⟨g, 0, none⟩ ∧ g < w.heap.size ∧
    w.cell? ⟨g, i * 7, none⟩ = some (.string q.1.token) ∧ w.cell? ⟨g, i * 7 + 1, none⟩ = some (.int .u32 q.1.deed) ∧ w.cell? ⟨g, i * 7 + 2, none⟩ = some (.int .i64 q.1.state) ∧ w.cell? ⟨g, i * 7 + 3, none⟩ = some (.int .i64 q.1.at_.wall) ∧
    w.cell? ⟨g, i * 7 + 4, none⟩ = some (.int .u32 q.1.at_.tick) ∧ w.cell? ⟨g, i * 7 + 5, none⟩ = some (.int .u32 q.1.at_.mark) ∧ w.cell? ⟨g, i * 7 + 6, none⟩ = some q.2 := by
  obtain ⟨-, a, c, e, h1, h2, -, -⟩ := h.row.rd
  refine ⟨a, c, e, h1, h2, fun i q hq => ?_⟩
  have hil := (List.getElem?_eq_some_iff.1 hq).1
  have key : ∀ j, j < 7 → ∃ g, a = some ⟨g, 0, none⟩ ∧ w.cell? ⟨g, i * 7 + j, none⟩ = (ecells q.1 q.2)[j]? := fun j hj => by
    obtain ⟨g, c', e', hc, -⟩ := own_place h.row (j := i * 7 + j) (by omega)
    rw [e] at e'
    injection e' with e' _ _
    exact ⟨g, e', by rw [hc, flatE_get B i q hq j hj]⟩
  obtain ⟨g, e0, k0⟩ := key 0 (by omega)
  have kk : ∀ j, j < 7 → w.cell? ⟨g, i * 7 + j, none⟩ = (ecells q.1 q.2)[j]? := fun j hj => by
    obtain ⟨g', e', k⟩ := key j hj
    rw [e0] at e'
    injection e' with e'
    injection e' with e'
    subst e'
    exact k
  exact ⟨g, e0, World.block_lt_of_cell? w ⟨g, i * 7, none⟩ (u := .string q.1.token) k0, k0, kk 1 (by omega), kk 2 (by omega), kk 3 (by omega), kk 4 (by omega), kk 5 (by omega), kk 6 (by omega)⟩
end Go.Proofs.YtbaflgddpciadaaGreat
set_option linter.unusedVariables false
set_option linter.unusedSimpArgs false
namespace Go.Proofs.YtbaflgddpciadaaGreat
open Go.RowKit Go.Kt Go.Ix Go.Sx Go.Cx
set_option maxRecDepth 100000
/-- where a cell's parts lie -/
structure Cp where
  s : Nat
  dm : Nat
  pm : Nat
  bv : Value
  Fs : Nat → Prop
  fd : Lit → Option Value
  fp : Lit → Option Value
  B : List (En × Value)
/-- what a cell turns -/
def core (c : Nat) (p : Cp) (x : Nat) : Prop := x = c ∨ x = p.dm ∨ x = p.pm ∨ p.bv.ownBlock = some x ∨ p.Fs x
def ccells (C : Cl) (p : Cp) : Array Value := #[.int .i64 C.id, .pointer (some ⟨p.s, 0, none⟩), .map (some p.dm), .int .i64 (heldD C.deeds : Int), p.bv, .int .i64 C.closed.wall, .int .u32 C.closed.tick, .int .u32 C.closed.mark,
  .int .i64 C.safe.wall, .int .u32 C.safe.tick, .int .u32 C.safe.mark, .int .i64 C.hor, .map (some p.pm), .int .i64 C.ticks]
structure CeAt (F : Nat → Prop) (w : World) (c : Nat) (C : Cl) (N : Nat) (p : Cp) : Prop where
  blk : Blk w c (ccells C p) 140
  st : St p.Fs w p.s C.M N
  sub : ∀ x, p.Fs x → F x
  Fc : F c
  Fd : F p.dm
  Fp : F p.pm
  Fb : ∀ b, p.bv.ownBlock = some b → F b
  nc : ¬ p.Fs c
  nd : ¬ p.Fs p.dm
  np : ¬ p.Fs p.pm
  nb : ∀ b, p.bv.ownBlock = some b → ¬ p.Fs b
  dp : p.dm ≠ p.pm
  deeds : DeedsAt F w p.dm C.deeds p.fd
  pins : PinsAt w p.pm C.pins p.fp
  book : BookAt F w p.bv p.B
  told : p.B.map Prod.fst = C.book
  inv : CInv C
  lt : ∀ x, F x → x < w.heap.size
/-- a cell -/
def Ce (F : Nat → Prop) (w : World) (c : Nat) (C : Cl) (N : Nat) : Prop := ∃ p, CeAt F w c C N p
variable {F F' : Nat → Prop} {w w' : World} {c N N' : Nat} {C : Cl} {p : Cp}
theorem CeAt.next (h : CeAt F w c C N p) (hb : Below w.heap.size w w') : CeAt F w' c C N p := by
  have ht : Turn (fun _ => False) w w' := Turn.of hb
  exact ⟨h.blk.next hb, h.st.next hb, h.sub, h.Fc, h.Fd, h.Fp, h.Fb, h.nc, h.nd, h.np, h.nb, h.dp, h.deeds.keep ht (fun h => h) (fun _ h => h.elim) (fun _ h => .inl h), h.pins.keep ht (fun h => h), h.book.keep ht (fun _ _ h => h) (fun _ h => h.elim) (fun _ h => .inl h), h.told, h.inv,
    fun x hx => Nat.lt_of_lt_of_le (h.lt x hx) hb.size⟩
theorem CeAt.more (h : CeAt F w c C N p) (hn : N ≤ N') : CeAt F w c C N' p := ⟨h.blk, h.st.more hn, h.sub, h.Fc, h.Fd, h.Fp, h.Fb, h.nc, h.nd, h.np, h.nb, h.dp, h.deeds, h.pins, h.book, h.told, h.inv, h.lt⟩
theorem CeAt.cd (h : CeAt F w c C N p) : c ≠ p.dm := blk_no_map h.blk h.deeds.map
theorem CeAt.cp (h : CeAt F w c C N p) : c ≠ p.pm := blk_no_map h.blk h.pins.map
theorem CeAt.cb (h : CeAt F w c C N p) : ∀ b, p.bv.ownBlock = some b → b ≠ c := fun b hb e => own_no_blk h.book.row h.blk (by decide) (by rw [hb, e])
theorem CeAt.bd (h : CeAt F w c C N p) : ∀ b, p.bv.ownBlock = some b → b ≠ p.dm := fun b hb e => own_no_map h.book.row h.deeds.map (by rw [hb, e])
theorem CeAt.bp (h : CeAt F w c C N p) : ∀ b, p.bv.ownBlock = some b → b ≠ p.pm := fun b hb e => own_no_map h.book.row h.pins.map (by rw [hb, e])
/-- the cell's own block is turned: cells of it that stand for another cell -/
theorem CeAt.own {C' : Cl} {bw : World} (h : CeAt F w c C N p) (ht : Turn (fun x => x = c) w bw) (hb : Blk bw c (ccells C' p) 140) (hM : C'.M = C.M) (hD : C'.deeds = C.deeds) (hP : C'.pins = C.pins) (hB : C'.book = C.book) (hi : CInv C') : CeAt F bw c C' N p := by
  refine ⟨hb, by rw [hM]; exact h.st.keep ht (fun x hx e => h.nc (e ▸ hx)), h.sub, h.Fc, h.Fd, h.Fp, h.Fb, h.nc, h.nd, h.np, h.nb, h.dp, ?_, ?_, ?_, by rw [hB]; exact h.told, hi, fun x hx => Nat.lt_of_lt_of_le (h.lt x hx) ht.size⟩
  · rw [hD]; exact h.deeds.keep ht (fun e => h.cd e.symm) (fun x hx => hx ▸ h.Fc) (fun _ h => .inl h)
  · rw [hP]; exact h.pins.keep ht (fun e => h.cp e.symm)
  · exact h.book.keep ht (fun b hb => h.cb b hb) (fun x hx => hx ▸ h.Fc) (fun _ h => .inl h)
set_option maxHeartbeats 1000000 in
theorem newc_any (id : Int) (h : 0 ≤ id ∧ id < 4) (w : World) : Calls Tryz.prog 14 #[.int .i64 id] w fun e w' => ∃ c F, e = .returned (.tuple #[.pointer (some ⟨c, 0, none⟩), .int .i64 0]) ∧ Ce F w' c (newC id) 0 ∧ (∀ x, F x → w.heap.size ≤ x) ∧ Below w.heap.size w w' := by
  have hmm := @run_makeMap Tryz.prog
  have d1 : decide (id < 0) = false := by simp; omega
  have d2 : decide (4 ≤ id) = false := by simp; omega
  have HI := Lib.hid h
  clear h
  go_enter Tryz.func14, Tryz.ntmps14
  go_wp2_with (first
    | (go_at_call 50; refine (new_any w).mono ?_; rintro e w1 ⟨s, rfl, h1, hb1⟩; have H1 := Lib.hid h1; have HB1 := Lib.hid hb1; clear h1 hb1)
    | fail)
  have hsz : ((w1.alloc (.map #[] 0)).alloc (.map #[] 0)).heap.size = w1.heap.size + 2 := by simp only [World.size_alloc]
  refine bodyPost_ret (v := .tuple #[.pointer (some ⟨w1.heap.size + 2, 0, none⟩), .int .i64 0]) (by simp [results, Tryz.results14, go_sem]) rfl ⟨w1.heap.size + 2, fun x => w.heap.size ≤ x ∧ x ≤ w1.heap.size + 2, rfl, ⟨⟨s, w1.heap.size, w1.heap.size + 1, .slice none 0 0, fun x => w.heap.size ≤ x ∧ x < w1.heap.size, fun _ => none, fun _ => none, []⟩, ?_⟩, fun x hx => hx.1, ?_⟩
  · have hB : Below w1.heap.size w1 (((w1.alloc (.map #[] 0)).alloc (.map #[] 0)).alloc (.cells #[.int .i64 id, .pointer (some ⟨s, 0, none⟩), .map (some w1.heap.size), .int .i64 0, .slice none 0 0, .int .i64 0, .int .u32 0, .int .u32 0, .int .i64 0, .int .u32 0, .int .u32 0, .int .i64 0, .map (some (w1.heap.size + 1)), .int .i64 0] 140)) := bel_alloc (bel_alloc (below_alloc _ _))
    have hw := HB1.out.size
    have hb := Blk.new ((w1.alloc (.map #[] 0)).alloc (.map #[] 0)) #[.int .i64 id, .pointer (some ⟨s, 0, none⟩), .map (some w1.heap.size), .int .i64 0, .slice none 0 0, .int .i64 0, .int .u32 0, .int .u32 0, .int .i64 0, .int .u32 0, .int .u32 0, .int .i64 0, .map (some (w1.heap.size + 1)), .int .i64 0] 140
    rw [hsz] at hb
    have hd := (((MapIs.made w1 Tryz.prog 24).alloc (.map #[] 0)).alloc (.cells #[.int .i64 id, .pointer (some ⟨s, 0, none⟩), .map (some w1.heap.size), .int .i64 0, .slice none 0 0, .int .i64 0, .int .u32 0, .int .u32 0, .int .i64 0, .int .u32 0, .int .u32 0, .int .i64 0, .map (some (w1.heap.size + 1)), .int .i64 0] 140))
    have hp := ((MapIs.made (w1.alloc (.map #[] 0)) Tryz.prog 3).alloc (.cells #[.int .i64 id, .pointer (some ⟨s, 0, none⟩), .map (some w1.heap.size), .int .i64 0, .slice none 0 0, .int .i64 0, .int .u32 0, .int .u32 0, .int .i64 0, .int .u32 0, .int .u32 0, .int .i64 0, .map (some (w1.heap.size + 1)), .int .i64 0] 140))
    rw [World.size_alloc] at hp
    refine ⟨hb, H1.out.next hB, fun x hx => ⟨hx.1, Nat.le_trans (Nat.le_of_lt hx.2) (Nat.le_add_right _ _)⟩, ⟨Nat.le_trans hw (Nat.le_add_right _ _), Nat.le_refl _⟩, ⟨hw, Nat.le_add_right _ _⟩, ⟨Nat.le_trans hw (Nat.le_add_right _ _), Nat.le_succ _⟩, (fun b hb => by cases hb), (fun e => by have := e.2; omega), (fun e => by have := e.2; simp only at this; omega), (fun e => by have := e.2; simp only at this; omega), (fun b hb => by cases hb), (by simp only; omega),
      ⟨hd, (fun k v hv => by cases hv), (fun d hd => by cases hd)⟩, ⟨hp, (fun k v hv => by cases hv), (fun d hd => by cases hd)⟩, ⟨own_nil _ 178 7, (fun q hq => by cases hq)⟩, rfl, new_inv id HI.out, fun x hx => ?_⟩
    simp only [World.size_alloc]
    have := hx.2
    omega
  · exact bel_trans HB1.out (bel_alloc (bel_alloc (below_alloc _ _)))
end Go.Proofs.YtbaflgddpciadaaGreat
