/- Seats: rows of them; fit (5), to (7). -/
import Derived.Test.YtgfegadklkecdaaW1
import Derived.Test.YtgfegadklkecdaaKtL
namespace Go.Proofs.Ytgfegadklkecdaa
open Go.RowKit Go.Kt

structure Seat where
  shard : Int
  node : Int
  up : Bool
  prim : Bool
  closed : St
  safe : St
  held : Bool
  load : Int
def Seat.cells (s : Seat) : List Value :=
  [.int .i64 s.shard, .int .i64 s.node, .bool s.up, .bool s.prim, .int .i64 s.closed.wall, .int .u32 s.closed.tick, .int .u32 s.closed.mark, .int .i64 s.safe.wall, .int .u32 s.safe.tick, .int .u32 s.safe.mark, .bool s.held, .int .i64 s.load]
def Seat.val (s : Seat) : Value :=
  .agg #[.int .i64 s.shard, .int .i64 s.node, .bool s.up, .bool s.prim, .int .i64 s.closed.wall, .int .u32 s.closed.tick, .int .u32 s.closed.mark, .int .i64 s.safe.wall, .int .u32 s.safe.tick, .int .u32 s.safe.mark, .bool s.held, .int .i64 s.load]
def z12 : Value := .agg #[.int .i64 0, .int .i64 0, .bool false, .bool false, .int .i64 0, .int .u32 0, .int .u32 0, .int .i64 0, .int .u32 0, .int .u32 0, .bool false, .int .i64 0]
theorem ok22 : ElemOk Try.prog 22 40 z12 12 72 := ⟨Try.underlying22, info_parts (by kernel_rfl), rfl, by decide⟩
theorem ok31 : ElemOk Try.prog 31 45 z12 12 72 := ⟨Try.underlying31, info_parts (by kernel_rfl), rfl, by decide⟩
theorem ok27 : ElemOk Try.prog 27 3 (.int .i64 0) 1 8 := ⟨Try.underlying27, info_parts (by kernel_rfl), rfl, by decide⟩
def flatS (l : List Seat) : List Value := (l.map Seat.cells).flatten
theorem flatS_len (l : List Seat) : (flatS l).length = l.length * 12 := by
  induction l with
  | nil => rfl
  | cons x t ih =>
    have : flatS (x :: t) = x.cells ++ flatS t := rfl
    rw [this, List.length_append, ih, List.length_cons]
    simp only [Seat.cells, List.length_cons, List.length_nil]
    omega
theorem flatS_append (l r : List Seat) : flatS (l ++ r) = flatS l ++ flatS r := by simp [flatS]
theorem flatS_get (l : List Seat) (i c : Nat) (x : Seat) (h : l[i]? = some x) (hc : c < 12) : (flatS l)[i * 12 + c]? = x.cells[c]? := by
  unfold flatS
  rw [flatten_get 12 (by omega) _ (by intro y hy; obtain ⟨z, _, rfl⟩ := List.mem_map.1 hy; rfl)]
  rw [show (i * 12 + c) / 12 = i by omega, show (i * 12 + c) % 12 = c by omega, List.getElem?_map, h]
  rfl
theorem flatS_one (l : List Seat) : ∀ u ∈ flatS l, u.oneCell' = true := by
  intro u hu
  unfold flatS at hu
  obtain ⟨c, hc, hu⟩ := List.mem_flatten.1 hu
  obtain ⟨x, _, rfl⟩ := List.mem_map.1 hc
  simp only [Seat.cells, List.mem_cons, List.not_mem_nil, or_false] at hu
  rcases hu with rfl | rfl | rfl | rfl | rfl | rfl | rfl | rfl | rfl | rfl | rfl | rfl <;> rfl
theorem flatS_take (l : List Seat) (k : Nat) (x : Seat) (h : l[k]? = some x) : flatS (l.take (k + 1)) = flatS (l.take k) ++ x.cells := by
  obtain ⟨hk, rfl⟩ := List.getElem?_eq_some_iff.1 h
  rw [List.take_succ_eq_append_getElem hk, flatS_append]
  simp [flatS]
/-- a seat's cells from a place on -/
structure SeatAt (w : World) (b p : Nat) (x : Seat) : Prop where
  c0 : w.cell? ⟨b, p, none⟩ = some (.int .i64 x.shard)
  c1 : w.cell? ⟨b, p + 1, none⟩ = some (.int .i64 x.node)
  c2 : w.cell? ⟨b, p + 2, none⟩ = some (.bool x.up)
  c3 : w.cell? ⟨b, p + 3, none⟩ = some (.bool x.prim)
  c4 : w.cell? ⟨b, p + 4, none⟩ = some (.int .i64 x.closed.wall)
  c5 : w.cell? ⟨b, p + 5, none⟩ = some (.int .u32 x.closed.tick)
  c6 : w.cell? ⟨b, p + 6, none⟩ = some (.int .u32 x.closed.mark)
  c7 : w.cell? ⟨b, p + 7, none⟩ = some (.int .i64 x.safe.wall)
  c8 : w.cell? ⟨b, p + 8, none⟩ = some (.int .u32 x.safe.tick)
  c9 : w.cell? ⟨b, p + 9, none⟩ = some (.int .u32 x.safe.mark)
  c10 : w.cell? ⟨b, p + 10, none⟩ = some (.bool x.held)
  c11 : w.cell? ⟨b, p + 11, none⟩ = some (.int .i64 x.load)
theorem SeatAt.lt {w : World} {b p : Nat} {x : Seat} (h : SeatAt w b p x) : b < w.heap.size := World.block_lt_of_cell? w _ h.c0
theorem SeatAt.below {w w' : World} {b p B : Nat} {x : Seat} (h : SeatAt w b p x) (hb : Below B w w') (hB : b < B) : SeatAt w' b p x :=
  ⟨(hb.cell (p := ⟨b, p, none⟩) hB).trans h.c0, (hb.cell (p := ⟨b, p + 1, none⟩) hB).trans h.c1, (hb.cell (p := ⟨b, p + 2, none⟩) hB).trans h.c2, (hb.cell (p := ⟨b, p + 3, none⟩) hB).trans h.c3,
   (hb.cell (p := ⟨b, p + 4, none⟩) hB).trans h.c4, (hb.cell (p := ⟨b, p + 5, none⟩) hB).trans h.c5, (hb.cell (p := ⟨b, p + 6, none⟩) hB).trans h.c6, (hb.cell (p := ⟨b, p + 7, none⟩) hB).trans h.c7,
   (hb.cell (p := ⟨b, p + 8, none⟩) hB).trans h.c8, (hb.cell (p := ⟨b, p + 9, none⟩) hB).trans h.c9, (hb.cell (p := ⟨b, p + 10, none⟩) hB).trans h.c10, (hb.cell (p := ⟨b, p + 11, none⟩) hB).trans h.c11⟩
theorem SeatAt.next {w w' : World} {b p : Nat} {x : Seat} (h : SeatAt w b p x) (hb : Below w.heap.size w w') : SeatAt w' b p x := h.below hb h.lt
def RdS (w : World) (v : Value) (l : List Seat) : Prop := RdRow 12 w v l.length (flatS l)
theorem RdS.below {w w' : World} {v : Value} {l : List Seat} (h : RdS w v l) (hb : Below w.heap.size w w') : RdS w' v l := RdRow.below h hb
theorem RdS.open {w : World} {v : Value} {l : List Seat} (h : RdS w v l) : ∃ a cap, v = .slice a l.length cap ∧ l.length ≤ cap ∧ cap ≤ 9223372036854775807 ∧
    ∀ (i : Nat) (x : Seat), l[i]? = some x → ∃ b o, a = some ⟨b, o, none⟩ ∧ SeatAt w b (o + i * 12) x := by
  obtain ⟨_, a, cap, rfl, h1, h2, _, h5⟩ := h
  refine ⟨a, cap, rfl, h1, h2, fun i x hi => ?_⟩
  obtain ⟨b, o, rfl, _⟩ := h5 _ _ (flatS_get l i 0 x hi (by omega))
  have key : ∀ (c : Nat) (u : Value), c < 12 → x.cells[c]? = some u → w.cell? ⟨b, o + i * 12 + c, none⟩ = some u := by
    intro c u hc hu
    obtain ⟨b', o', e, hc'⟩ := h5 _ _ ((flatS_get l i c x hi hc).trans hu)
    cases e
    rw [Nat.add_assoc]
    exact hc'
  exact ⟨b, o, rfl, key 0 _ (by omega) rfl, key 1 _ (by omega) rfl, key 2 _ (by omega) rfl, key 3 _ (by omega) rfl, key 4 _ (by omega) rfl, key 5 _ (by omega) rfl, key 6 _ (by omega) rfl, key 7 _ (by omega) rfl, key 8 _ (by omega) rfl, key 9 _ (by omega) rfl, key 10 _ (by omega) rfl, key 11 _ (by omega) rfl⟩
theorem bel_refl (x : World) : Below x.heap.size x x := Below.refl _ _
theorem bel_alloc {x y : World} {o : Obj} (h : Below x.heap.size x y) : Below x.heap.size x (y.alloc o) := h.alloc h.size o
theorem bel_drew {x y : World} (h : Below x.heap.size x y) : Below x.heap.size x y.drew := h.drew
theorem bel_drewN {x y : World} (h : Below x.heap.size x y) (n : Nat) : Below x.heap.size x (y.drewN n) := ⟨h.os, h.tape, h.output, h.size, h.block⟩
theorem bel_set {x y : World} {p : Addr} {u : Value} (h : Below x.heap.size x y) (hg : x.heap.size ≤ p.block) : Below x.heap.size x (y.setCell p u) := h.setCell hg u
theorem bel_trans {w w1 w2 : World} (h : Below w.heap.size w w1) (h2 : Below w1.heap.size w1 w2) : Below w.heap.size w w2 := h.trans (h2.mono h.size)

theorem flatS_takeN (l : List Seat) (m : Nat) : flatS (l.take m) = (flatS l).take (m * 12) := by
  induction l generalizing m with
  | nil => simp [flatS]
  | cons x t ih =>
    cases m with
    | zero => simp [flatS]
    | succ m =>
      have e1 : flatS (x :: t) = x.cells ++ flatS t := rfl
      have e2 : flatS ((x :: t).take (m + 1)) = x.cells ++ flatS (t.take m) := rfl
      have hl : x.cells.length = 12 := rfl
      rw [e1, e2, ih, List.take_append]
      rw [List.take_of_length_le (l := x.cells) (by rw [hl]; omega), hl, show (m + 1) * 12 - 12 = m * 12 by omega]
theorem RdS.hi {w : World} {v v' : Value} {l : List Seat} {m : Nat} (hm : m ≤ l.length) (h : RdS w v l) (h' : ∀ (w0 : World) (xs : List Value), RdRow 12 w0 v l.length xs → RdRow 12 w0 v' m (xs.take (m * 12))) : RdS w v' (l.take m) := by
  unfold RdS
  rw [List.length_take, Nat.min_eq_left hm, flatS_takeN]
  exact h' w _ h
theorem own_lit_at {w : World} {g : Nat} (e : TypeId) (size : Nat) (cs : Array Value) (n : Nat) (hm : n ≤ maxLen) (hs : cs.size = n * size) (hg : g = w.heap.size) : Own e size (w.alloc (.cells cs e)) (.slice (some ⟨g, 0, none⟩) n n) n cs.toList := by
  subst hg; exact own_lit w e size cs n hm hs
def fitS (s : Seat) : Seat := { s with node := max s.node 0 }
def Fits5 (l : List Seat) (w : World) (e : Ending) (w' : World) : Prop := ∃ v, e = .returned v ∧ RdS w' v ((l.take 40).map fitS) ∧ Below w.heap.size w w'
set_option maxHeartbeats 1000000 in
theorem fit_any (v : Value) (l : List Seat) (w : World) (hv : RdS w v l) : Calls Try.prog 5 #[v] w (Fits5 l w) := by
  have Hv := Lib.hid hv
  obtain ⟨a, cap, rfl, hcap, hbig, hcell⟩ := hv.open
  clear hcell hv
  by_cases h40 : l.length ≤ 40
  · go_enter Try.func5, Try.ntmps5
    go_wp2_with (with_reducible refine hold_slice ?_)
    unfold Hold
    refine wpList_cut_hi ok22 (by rfl) l.length (by rfl) (by rfl) rfl Hv.out (Nat.le_refl _) ?_
    intro v3 h3
    have H3 : Hid (RdS w v3 (l.take 40)) := Lib.hid (by have := RdS.hi (Nat.le_refl _) Hv.out h3; rw [List.take_length] at this; rw [List.take_of_length_le h40]; exact this)
    have HL : Hid ((l.take 40).length ≤ 40) := Lib.hid (by rw [List.length_take]; omega)
    clear h3 Hv
    have hl3 := HL.out
    generalize hL : l.take 40 = L at *
    have HLe := Lib.hid hL
    clear hL
    obtain ⟨a3, c3, rfl, hc1, hc2, hcell⟩ := H3.out.open
    have Hcell := Lib.hid hcell
    clear hcell
    go_wp2_with fail
    go_loopw [3, 5, 12] (fun out _ iv wr => ∃ k : Nat, k ≤ L.length ∧ iv = .int .i64 k ∧ Hid (Own 40 12 wr out k (flatS ((L.take k).map fitS))) ∧ Hid (∀ b, out.ownBlock = some b → w.heap.size ≤ b) ∧ Hid (Below w.heap.size w wr)) (fun _ _ iv _ => L.length - (intOf iv).toNat)
    case atStart => exact ⟨0, by omega, rfl, Lib.hid (by simpa [flatS] using own_nil w 40 12), Lib.hid (fun b hb => (by cases hb)), Lib.hid (bel_refl _)⟩
    case round =>
      obtain ⟨k, hk, rfl, Ho, Hob, Hb⟩ := hrel
      by_cases hlt : k < L.length
      · obtain ⟨x, hx⟩ : ∃ x, L[k]? = some x := ⟨L[k], List.getElem?_eq_getElem hlt⟩
        obtain ⟨b, o, rfl, hat⟩ := Hcell.out k x hx
        obtain ⟨c0, c1, c2, c3, c4, c5, c6, c7, c8, c9, c10, c11⟩ := hat.below Hb.out hat.lt
        have Htk : Hid (flatS ((L.take (k + 1)).map fitS) = flatS ((L.take k).map fitS) ++ (fitS x).cells) := Lib.hid (by
          obtain ⟨hk', rfl⟩ := List.getElem?_eq_some_iff.1 hx
          rw [List.take_succ_eq_append_getElem hk', List.map_append, flatS_append]
          simp [flatS])
        clear hat hx
        have Hfx : Hid ((fitS x).cells = [.int .i64 x.shard, .int .i64 (max x.node 0), .bool x.up, .bool x.prim, .int .i64 x.closed.wall, .int .u32 x.closed.tick, .int .u32 x.closed.mark, .int .i64 x.safe.wall, .int .u32 x.safe.tick, .int .u32 x.safe.mark, .bool x.held, .int .i64 x.load]) := Lib.hid rfl
        by_cases hn : 0 ≤ x.node
        · have Hpad : True := trivial
          have Hl1 : Hid ((fitS x).cells = [.int .i64 x.shard, .int .i64 x.node, .bool x.up, .bool x.prim, .int .i64 x.closed.wall, .int .u32 x.closed.tick, .int .u32 x.closed.mark, .int .i64 x.safe.wall, .int .u32 x.safe.tick, .int .u32 x.safe.mark, .bool x.held, .int .i64 x.load]) := Lib.hid (by rw [Hfx.out, show max x.node 0 = x.node by omega])
          go_wp2_with (at_builtin; apply Hold.mk)
          unfold Hold
          refine wpList_app rfl _ _ 22 rfl ok22 (by rfl) (by rfl) (Ho.out.below' (bel_alloc (bel_alloc (bel_refl wr)))) (own_lit_at (g := wr.heap.size + 1) 40 12 #[.int .i64 x.shard, .int .i64 x.node, .bool x.up, .bool x.prim, .int .i64 x.closed.wall, .int .u32 x.closed.tick, .int .u32 x.closed.mark, .int .i64 x.safe.wall, .int .u32 x.safe.tick, .int .u32 x.safe.mark, .bool x.held, .int .i64 x.load] 1 (by simp [maxLen]) rfl (by simp)).rd (by intro u hu; rw [← Hl1.out] at hu; exact flatS_one [fitS x] u (by simpa [flatS] using hu)) (by simp only [maxLen]; omega) (by omega) ?_
          intro v7 w7 ho7 hg7 hn7
          have Ho7 : Hid (Own 40 12 w7 v7 (k + 1) (flatS ((L.take (k + 1)).map fitS))) := Lib.hid (by rw [Htk.out, Hl1.out]; exact ho7)
          have Hob7 : Hid (∀ b, v7.ownBlock = some b → w.heap.size ≤ b) := Lib.hid (fun b hb => (hn7 b hb).elim (Hob.out b) (fun h => by have := Hb.out.size; simp at h; omega))
          have Hb7 : Hid (Below w.heap.size w w7) := Lib.hid ((bel_alloc (bel_alloc Hb.out)).grown hg7 (bel_alloc (bel_alloc Hb.out)).size Hob.out)
          clear ho7 hg7 hn7 Ho Hob Hb
          go_wp2_with fail
          go_roundw
          case rel => exact ⟨k + 1, by omega, by go_num, Ho7, Hob7, Hb7⟩
          case measure => simp [intOf]; omega
        · have Hpad : True := trivial
          have Hl1 : Hid ((fitS x).cells = [.int .i64 x.shard, .int .i64 0, .bool x.up, .bool x.prim, .int .i64 x.closed.wall, .int .u32 x.closed.tick, .int .u32 x.closed.mark, .int .i64 x.safe.wall, .int .u32 x.safe.tick, .int .u32 x.safe.mark, .bool x.held, .int .i64 x.load]) := Lib.hid (by rw [Hfx.out, show max x.node 0 = 0 by omega])
          go_wp2_with (at_builtin; apply Hold.mk)
          unfold Hold
          refine wpList_app rfl _ _ 22 rfl ok22 (by rfl) (by rfl) (Ho.out.below' (bel_alloc (bel_alloc (bel_refl wr)))) (own_lit_at (g := wr.heap.size + 1) 40 12 #[.int .i64 x.shard, .int .i64 0, .bool x.up, .bool x.prim, .int .i64 x.closed.wall, .int .u32 x.closed.tick, .int .u32 x.closed.mark, .int .i64 x.safe.wall, .int .u32 x.safe.tick, .int .u32 x.safe.mark, .bool x.held, .int .i64 x.load] 1 (by simp [maxLen]) rfl (by simp)).rd (by intro u hu; rw [← Hl1.out] at hu; exact flatS_one [fitS x] u (by simpa [flatS] using hu)) (by simp only [maxLen]; omega) (by omega) ?_
          intro v7 w7 ho7 hg7 hn7
          have Ho7 : Hid (Own 40 12 w7 v7 (k + 1) (flatS ((L.take (k + 1)).map fitS))) := Lib.hid (by rw [Htk.out, Hl1.out]; exact ho7)
          have Hob7 : Hid (∀ b, v7.ownBlock = some b → w.heap.size ≤ b) := Lib.hid (fun b hb => (hn7 b hb).elim (Hob.out b) (fun h => by have := Hb.out.size; simp at h; omega))
          have Hb7 : Hid (Below w.heap.size w w7) := Lib.hid ((bel_alloc (bel_alloc Hb.out)).grown hg7 (bel_alloc (bel_alloc Hb.out)).size Hob.out)
          clear ho7 hg7 hn7 Ho Hob Hb
          go_wp2_with fail
          go_roundw
          case rel => exact ⟨k + 1, by omega, by go_num, Ho7, Hob7, Hb7⟩
          case measure => simp [intOf]; omega
      · obtain rfl : k = L.length := by omega
        go_wp2_with fail
        go_ret
        have := Ho.out.rd
        rw [List.take_length] at this
        exact ⟨u3, rfl, (by unfold RdS; rw [HLe.out, List.length_map]; exact this), Hb.out⟩
  · go_enter Try.func5, Try.ntmps5
    go_wp2_with (with_reducible refine hold_slice ?_)
    unfold Hold
    refine wpList_cut_hi ok22 (by rfl) 40 (by rfl) (by rfl) rfl Hv.out (by omega) ?_
    intro v3 h3
    have H3 : Hid (RdS w v3 (l.take 40)) := Lib.hid (RdS.hi (by omega) Hv.out h3)
    have HL : Hid ((l.take 40).length ≤ 40) := Lib.hid (by rw [List.length_take]; omega)
    clear h3 Hv
    have hl3 := HL.out
    generalize hL : l.take 40 = L at *
    have HLe := Lib.hid hL
    clear hL
    obtain ⟨a3, c3, rfl, hc1, hc2, hcell⟩ := H3.out.open
    have Hcell := Lib.hid hcell
    clear hcell
    go_wp2_with fail
    go_loopw [3, 5, 12] (fun out _ iv wr => ∃ k : Nat, k ≤ L.length ∧ iv = .int .i64 k ∧ Hid (Own 40 12 wr out k (flatS ((L.take k).map fitS))) ∧ Hid (∀ b, out.ownBlock = some b → w.heap.size ≤ b) ∧ Hid (Below w.heap.size w wr)) (fun _ _ iv _ => L.length - (intOf iv).toNat)
    case atStart => exact ⟨0, by omega, rfl, Lib.hid (by simpa [flatS] using own_nil w 40 12), Lib.hid (fun b hb => (by cases hb)), Lib.hid (bel_refl _)⟩
    case round =>
      obtain ⟨k, hk, rfl, Ho, Hob, Hb⟩ := hrel
      by_cases hlt : k < L.length
      · obtain ⟨x, hx⟩ : ∃ x, L[k]? = some x := ⟨L[k], List.getElem?_eq_getElem hlt⟩
        obtain ⟨b, o, rfl, hat⟩ := Hcell.out k x hx
        obtain ⟨c0, c1, c2, c3, c4, c5, c6, c7, c8, c9, c10, c11⟩ := hat.below Hb.out hat.lt
        have Htk : Hid (flatS ((L.take (k + 1)).map fitS) = flatS ((L.take k).map fitS) ++ (fitS x).cells) := Lib.hid (by
          obtain ⟨hk', rfl⟩ := List.getElem?_eq_some_iff.1 hx
          rw [List.take_succ_eq_append_getElem hk', List.map_append, flatS_append]
          simp [flatS])
        clear hat hx
        have Hfx : Hid ((fitS x).cells = [.int .i64 x.shard, .int .i64 (max x.node 0), .bool x.up, .bool x.prim, .int .i64 x.closed.wall, .int .u32 x.closed.tick, .int .u32 x.closed.mark, .int .i64 x.safe.wall, .int .u32 x.safe.tick, .int .u32 x.safe.mark, .bool x.held, .int .i64 x.load]) := Lib.hid rfl
        by_cases hn : 0 ≤ x.node
        · have Hpad : True := trivial
          have Hl1 : Hid ((fitS x).cells = [.int .i64 x.shard, .int .i64 x.node, .bool x.up, .bool x.prim, .int .i64 x.closed.wall, .int .u32 x.closed.tick, .int .u32 x.closed.mark, .int .i64 x.safe.wall, .int .u32 x.safe.tick, .int .u32 x.safe.mark, .bool x.held, .int .i64 x.load]) := Lib.hid (by rw [Hfx.out, show max x.node 0 = x.node by omega])
          go_wp2_with (at_builtin; apply Hold.mk)
          unfold Hold
          refine wpList_app rfl _ _ 22 rfl ok22 (by rfl) (by rfl) (Ho.out.below' (bel_alloc (bel_alloc (bel_refl wr)))) (own_lit_at (g := wr.heap.size + 1) 40 12 #[.int .i64 x.shard, .int .i64 x.node, .bool x.up, .bool x.prim, .int .i64 x.closed.wall, .int .u32 x.closed.tick, .int .u32 x.closed.mark, .int .i64 x.safe.wall, .int .u32 x.safe.tick, .int .u32 x.safe.mark, .bool x.held, .int .i64 x.load] 1 (by simp [maxLen]) rfl (by simp)).rd (by intro u hu; rw [← Hl1.out] at hu; exact flatS_one [fitS x] u (by simpa [flatS] using hu)) (by simp only [maxLen]; omega) (by omega) ?_
          intro v7 w7 ho7 hg7 hn7
          have Ho7 : Hid (Own 40 12 w7 v7 (k + 1) (flatS ((L.take (k + 1)).map fitS))) := Lib.hid (by rw [Htk.out, Hl1.out]; exact ho7)
          have Hob7 : Hid (∀ b, v7.ownBlock = some b → w.heap.size ≤ b) := Lib.hid (fun b hb => (hn7 b hb).elim (Hob.out b) (fun h => by have := Hb.out.size; simp at h; omega))
          have Hb7 : Hid (Below w.heap.size w w7) := Lib.hid ((bel_alloc (bel_alloc Hb.out)).grown hg7 (bel_alloc (bel_alloc Hb.out)).size Hob.out)
          clear ho7 hg7 hn7 Ho Hob Hb
          go_wp2_with fail
          go_roundw
          case rel => exact ⟨k + 1, by omega, by go_num, Ho7, Hob7, Hb7⟩
          case measure => simp [intOf]; omega
        · have Hpad : True := trivial
          have Hl1 : Hid ((fitS x).cells = [.int .i64 x.shard, .int .i64 0, .bool x.up, .bool x.prim, .int .i64 x.closed.wall, .int .u32 x.closed.tick, .int .u32 x.closed.mark, .int .i64 x.safe.wall, .int .u32 x.safe.tick, .int .u32 x.safe.mark, .bool x.held, .int .i64 x.load]) := Lib.hid (by rw [Hfx.out, show max x.node 0 = 0 by omega])
          go_wp2_with (at_builtin; apply Hold.mk)
          unfold Hold
          refine wpList_app rfl _ _ 22 rfl ok22 (by rfl) (by rfl) (Ho.out.below' (bel_alloc (bel_alloc (bel_refl wr)))) (own_lit_at (g := wr.heap.size + 1) 40 12 #[.int .i64 x.shard, .int .i64 0, .bool x.up, .bool x.prim, .int .i64 x.closed.wall, .int .u32 x.closed.tick, .int .u32 x.closed.mark, .int .i64 x.safe.wall, .int .u32 x.safe.tick, .int .u32 x.safe.mark, .bool x.held, .int .i64 x.load] 1 (by simp [maxLen]) rfl (by simp)).rd (by intro u hu; rw [← Hl1.out] at hu; exact flatS_one [fitS x] u (by simpa [flatS] using hu)) (by simp only [maxLen]; omega) (by omega) ?_
          intro v7 w7 ho7 hg7 hn7
          have Ho7 : Hid (Own 40 12 w7 v7 (k + 1) (flatS ((L.take (k + 1)).map fitS))) := Lib.hid (by rw [Htk.out, Hl1.out]; exact ho7)
          have Hob7 : Hid (∀ b, v7.ownBlock = some b → w.heap.size ≤ b) := Lib.hid (fun b hb => (hn7 b hb).elim (Hob.out b) (fun h => by have := Hb.out.size; simp at h; omega))
          have Hb7 : Hid (Below w.heap.size w w7) := Lib.hid ((bel_alloc (bel_alloc Hb.out)).grown hg7 (bel_alloc (bel_alloc Hb.out)).size Hob.out)
          clear ho7 hg7 hn7 Ho Hob Hb
          go_wp2_with fail
          go_roundw
          case rel => exact ⟨k + 1, by omega, by go_num, Ho7, Hob7, Hb7⟩
          case measure => simp [intOf]; omega
      · obtain rfl : k = L.length := by omega
        go_wp2_with fail
        go_ret
        have := Ho.out.rd
        rw [List.take_length] at this
        exact ⟨u3, rfl, (by unfold RdS; rw [HLe.out, List.length_map]; exact this), Hb.out⟩
end Go.Proofs.Ytgfegadklkecdaa
