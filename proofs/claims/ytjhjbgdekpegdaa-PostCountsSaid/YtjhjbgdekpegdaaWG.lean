/- PostPlays (4). -/
import Derived.Test.YtjhjbgdekpegdaaWF
namespace Go.Proofs.Ytjhjbgdekpegdaa
open Go.RowKit Go.Kt Go.Conc

structure Op where
  kind : Int
  m : M
  i : Int
def Op.vals (o : Op) (v : Value) : List Value := [.int .i64 o.kind, .int .i64 o.m.frm, .int .i64 o.m.dst, v, .int .i64 o.i]
def ocells (os : List (Op × Value)) : List Value := (os.map fun x => x.1.vals x.2).flatten
theorem ocells_get (os : List (Op × Value)) (i c : Nat) (x : Op × Value) (h : os[i]? = some x) (hc : c < 5) : (ocells os)[i * 5 + c]? = (x.1.vals x.2)[c]? := by
  unfold ocells
  rw [flatten_get 5 (by omega) _ (by intro y hy; obtain ⟨z, _, rfl⟩ := List.mem_map.1 hy; rfl)]
  rw [show (i * 5 + c) / 5 = i by omega, show (i * 5 + c) % 5 = c by omega, List.getElem?_map, h]
  rfl
/-- steps that came in -/
def RdO (w : World) (v : Value) (l : List Op) : Prop := ∃ os : List (Op × Value), os.map (·.1) = l ∧ RdRow 5 w v os.length (ocells os) ∧ (∀ x ∈ os, Rd8 w x.2 x.1.m.body)
theorem RdO.open {w : World} {v : Value} {l : List Op} (h : RdO w v l) : ∃ a cap, v = .slice a l.length cap ∧ l.length ≤ cap ∧ cap ≤ 9223372036854775807 ∧
    ∀ (i : Nat) (op : Op), l[i]? = some op → ∃ b o bv, a = some ⟨b, o, none⟩ ∧ w.cell? ⟨b, o + i * 5, none⟩ = some (.int .i64 op.kind) ∧ w.cell? ⟨b, o + i * 5 + 1, none⟩ = some (.int .i64 op.m.frm) ∧ w.cell? ⟨b, o + i * 5 + 2, none⟩ = some (.int .i64 op.m.dst) ∧ w.cell? ⟨b, o + i * 5 + 3, none⟩ = some bv ∧ w.cell? ⟨b, o + i * 5 + 4, none⟩ = some (.int .i64 op.i) ∧ Rd8 w bv op.m.body := by
  obtain ⟨ms, rfl, ⟨_, a, cap, rfl, h1, h2, _, h5⟩, h3⟩ := h
  rw [List.length_map]
  refine ⟨a, cap, rfl, h1, h2, fun i m hi => ?_⟩
  rw [List.getElem?_map] at hi
  obtain ⟨x, hx, rfl⟩ := Option.map_eq_some_iff.1 hi
  have c0 := ocells_get ms i 0 x hx (by omega)
  have c1 := ocells_get ms i 1 x hx (by omega)
  have c2 := ocells_get ms i 2 x hx (by omega)
  have c3 := ocells_get ms i 3 x hx (by omega)
  have c4 := ocells_get ms i 4 x hx (by omega)
  obtain ⟨b, o, rfl, g0⟩ := h5 _ _ c0
  obtain ⟨b', o', e, g1⟩ := h5 _ _ c1
  cases e
  obtain ⟨b', o', e, g2⟩ := h5 _ _ c2
  cases e
  obtain ⟨b', o', e, g3⟩ := h5 _ _ c3
  cases e
  obtain ⟨b', o', e, g4⟩ := h5 _ _ c4
  cases e
  exact ⟨b, o, x.2, rfl, g0, by rw [Nat.add_assoc]; exact g1, by rw [Nat.add_assoc]; exact g2, by rw [Nat.add_assoc]; exact g3, by rw [Nat.add_assoc]; exact g4, h3 x (List.mem_of_getElem? hx)⟩
/-- the program's post and the document's, alike -/
structure PlSt (w wr : World) (pb b7 N : Nat) (rlv : Value) (L : List M) : Prop where
  post : PostAt w.heap.size wr pb N L
  ref : RefAt wr rlv L
  box : Blk wr b7 #[.int .i64 N, rlv] 41
  bel : Below w.heap.size w wr
  len : L.length ≤ 4096
theorem PlSt.below {w wr w' : World} {pb b7 N : Nat} {rlv : Value} {L : List M} (h : PlSt w wr pb b7 N rlv L) (hb : Below wr.heap.size wr w') : PlSt w w' pb b7 N rlv L :=
  ⟨h.post.below hb, h.ref.below hb, h.box.next hb, bel_trans h.bel hb, h.len⟩

theorem cell_set2 {w : World} {g o p a b : Nat} {u x y : Value} (h : w.cell? ⟨g, o, none⟩ = some u) (hne : g ≠ p) : ((w.setCell ⟨p, a, none⟩ x).setCell ⟨p, b, none⟩ y).cell? ⟨g, o, none⟩ = some u := by
  rw [← h]
  exact World.cell?_of_block ((heap_setCell_other _ ⟨p, b, none⟩ g y hne).trans (heap_setCell_other _ ⟨p, a, none⟩ g x hne))
theorem blk41 {w : World} {g : Nat} {cs : Array Value} (hx : Blk w g cs 41) {e : TypeId} {size n : Nat} {v : Value} {xs : List Value} (ho : Own e size w v n xs) (he : e ≠ 41) : ∀ b, v.ownBlock = some b → b ≠ g := by
  intro b hb e'
  obtain ⟨cs', k, hb'⟩ := own_block ho hb
  unfold Blk at hx
  rw [e', hx] at hb'
  injection hb' with hb'
  injection hb' with _ hb'
  exact he hb'.symm
theorem PostAt.set {B : Nat} {w : World} {pb room : Nat} {l : List M} (h : PostAt B w pb room l) {g : Nat} {cs : Array Value} (hx : Blk w g cs 41) (j : Nat) (u : Value) : PostAt B (w.setCell ⟨g, j, none⟩ u) pb room l := by
  obtain ⟨c, lv, ms, h1, h2, h3⟩ := h
  have hpg : pb ≠ g := by
    rintro rfl
    have := h1.blk
    unfold Blk at this hx
    rw [hx] at this
    injection this with this
    injection this with _ this
    exact absurd this (by decide)
  obtain ⟨buf0, s0, r0, hc, hn⟩ := h1.ch
  exact ⟨c, lv, ms, ⟨h1.pbB, h1.cB, h1.blk.other (by simpa using hpg) u, ⟨buf0, s0, r0, (heap_setCell_other w ⟨g, j, none⟩ c u (by simpa using no_chan hx hc)).trans hc, hn⟩, own_set h1.own (blk41 hx h1.own (by decide)) u, h1.lB,
    fun x hx' => ⟨own_set (h1.bod x hx').1 (blk41 hx (h1.bod x hx').1 (by decide)) u, (h1.bod x hx').2⟩, h1.le⟩, h2, h3⟩
theorem RefAt.set {w : World} {lv : Value} {l : List M} (h : RefAt w lv l) {g : Nat} {cs : Array Value} (hx : Blk w g cs 41) (j : Nat) (u : Value) : RefAt (w.setCell ⟨g, j, none⟩ u) lv l := by
  obtain ⟨ms, h1, h2⟩ := h
  exact ⟨ms, h1.set hx j u, h2⟩
theorem PlSt.put {w wr : World} {pb b7 N : Nat} {rlv old : Value} {L : List M} (hp : PostAt w.heap.size wr pb N L) (hr : RefAt wr rlv L) (hx : Blk wr b7 #[.int .i64 N, old] 41) (hb : Below w.heap.size w wr) (hz : w.heap.size ≤ b7) (hl : L.length ≤ 4096) :
    PlSt w ((wr.setCell ⟨b7, 0, none⟩ (.int .i64 N)).setCell ⟨b7, 1, none⟩ rlv) pb b7 N rlv L := by
  have q := hx.set 0 (.int .i64 N)
  exact ⟨(hp.set hx 0 _).set q 1 _, (hr.set hx 0 _).set q 1 _, by simpa using q.set 1 rlv, bel_set (bel_set hb hz) hz, hl⟩
theorem PlSt.set {w wr : World} {pb b7 N : Nat} {rlv : Value} {L : List M} (h : PlSt w wr pb b7 N rlv L) {g : Nat} {cs : Array Value} (hx : Blk wr g cs 41) (hg : b7 ≠ g) (hz : w.heap.size ≤ g) (j : Nat) (u : Value) : PlSt w (wr.setCell ⟨g, j, none⟩ u) pb b7 N rlv L :=
  ⟨h.post.set hx j u, h.ref.set hx j u, h.box.other (by simpa using hg) u, bel_set h.bel hz, h.len⟩
theorem PostAt.short {B : Nat} {w : World} {pb room : Nat} {l : List M} (h : PostAt B w pb room l) {i : Nat} {m : M} (hi : l[i]? = some m) : m.body.length ≤ 1048576 := by
  obtain ⟨c, lv, ms, h1, h2, rfl⟩ := h
  obtain ⟨g, cap, bv, _, _, _, _, _, _, hb⟩ := h1.msg hi
  exact hb
theorem PostL.set {g B : Nat} {w : World} {pb room : Nat} {l : List M} (h : PostL g B w pb room l) {cs : Array Value} (hx : Blk w g cs 32) (j : Nat) (u : Value) : PostL g B (w.setCell ⟨g, j, none⟩ u) pb room l := by
  obtain ⟨c, lv, ms, h1, h2, h3, h4⟩ := h
  exact ⟨c, lv, ms, (h1.set hx h4 j u).1, h2, h3, h4⟩
theorem PostL.below {g B : Nat} {w w' : World} {pb room : Nat} {l : List M} (h : PostL g B w pb room l) (hb : Below w.heap.size w w') : PostL g B w' pb room l := by
  obtain ⟨c, lv, ms, h1, h2, h3, h4⟩ := h
  exact ⟨c, lv, ms, h1.below hb, h2, h3, h4⟩
theorem refis_calm {w w' : World} {lv : Value} {ms : List (M × Value)} (h : RefIs w lv ms) (hc : Calm w w') : RefIs w' lv ms := ⟨Own.calm h.own hc (by decide) (by decide), fun x hx => Own8.calm (h.bod x hx) hc⟩
theorem refis32 {w : World} {lv : Value} {ms : List (M × Value)} (h1 : RefIs w lv ms) {g : Nat} {cs : Array Value} (hx : Blk w g cs 32) (j : Nat) (u : Value) : RefIs (w.setCell ⟨g, j, none⟩ u) lv ms := by
  have ne : ∀ {e : TypeId} {size n : Nat} {v : Value} {xs : List Value}, Own e size w v n xs → e ≠ 32 → ∀ b, v.ownBlock = some b → b ≠ g := by
    intro e size n v xs ho he b hb e'
    obtain ⟨cs', k, hb'⟩ := own_block ho hb
    unfold Blk at hx
    rw [e', hx] at hb'
    injection hb' with hb'
    injection hb' with _ hb'
    exact he hb'.symm
  exact ⟨own_set h1.own (ne h1.own (by decide)) u, fun x hx' => own_set (h1.bod x hx') (ne (h1.bod x hx') (by decide)) u⟩
theorem RefAt.set32 {w : World} {lv : Value} {l : List M} (h : RefAt w lv l) {g : Nat} {cs : Array Value} (hx : Blk w g cs 32) (j : Nat) (u : Value) : RefAt (w.setCell ⟨g, j, none⟩ u) lv l := by
  obtain ⟨ms, h1, h2⟩ := h
  have ne : ∀ {e : TypeId} {size n : Nat} {v : Value} {xs : List Value}, Own e size w v n xs → e ≠ 32 → ∀ b, v.ownBlock = some b → b ≠ g := by
    intro e size n v xs ho he b hb e'
    obtain ⟨cs', k, hb'⟩ := own_block ho hb
    unfold Blk at hx
    rw [e', hx] at hb'
    injection hb' with hb'
    injection hb' with _ hb'
    exact he hb'.symm
  exact ⟨ms, ⟨own_set h1.own (ne h1.own (by decide)) u, fun x hx' => own_set (h1.bod x hx') (ne (h1.bod x hx') (by decide)) u⟩, h2⟩
/-- the program's Send and Copy, and the document's Send, answer alike -/
theorem both (N : Nat) (L : List M) (m : M) (hN : N ≤ 4096) (hL : L.length ≤ 4096) (hm : m.body.length ≤ 1048576) : ∃ (c : Int) (L' : List M), L'.length ≤ 4096 ∧
    (∀ w lv v, RefAt w lv L → Rd8 w v m.body → Calls Try.prog 14 #[refv N lv, .agg #[.int .i64 m.frm, .int .i64 m.dst, v]] w (RSent c N L' w)) ∧
    (∀ bad B pb w v, PostOff bad B w pb N L → bad < w.heap.size → B ≤ w.heap.size → Rd8 w v m.body → Calls Try.prog 9 #[.pointer (some ⟨pb, 0, none⟩), .agg #[.int .i64 m.frm, .int .i64 m.dst, v]] w (SentOff bad c B pb N L' w)) ∧
    (∀ B pb w (i : Nat), PostAt B w pb N L → B ≤ w.heap.size → L[i]? = some m → Calls Try.prog 18 #[.pointer (some ⟨pb, 0, none⟩), .int .i64 i] w (Sent c B pb N L' w)) := by
  by_cases h : L.length < N
  · refine ⟨0, L ++ [m], by simp; omega, fun w lv v hr hv => refsend_ok N lv L m v w hr hv hm h hN, fun bad B pb w v hp hb hB hv => send_off bad B pb N L m v w hp hb hB hv hm h, fun B pb w i hp hB hi => ?_⟩
    have := copy_yes B pb N L i m w hp hB hi
    rw [if_pos h] at this
    exact this
  · refine ⟨4, L, hL, fun w lv v hr hv => refsend_full N lv L m v w hr hv hm (by omega), fun bad B pb w v hp hb hB hv => (send_full' B pb N L m.frm m.dst v m.body w hp.at hv hm (by omega)).mono fun e w' h => ⟨h.1, hp.below h.2, Calm.of h.2, h.2.mono hB⟩, fun B pb w i hp hB hi => ?_⟩
    have := copy_yes B pb N L i m w hp hB hi
    rw [if_neg h] at this
    exact this
theorem bad_block {v : Value} {n : Nat} {xs : List Value} {w6 : World} (z : Nat) (ho : Own 5 1 w6 v n xs) (hz : ∀ b, v.ownBlock = some b → z ≤ b) (hlt : z < w6.heap.size) : ∃ bad, z ≤ bad ∧ bad < w6.heap.size ∧ ∀ b, v.ownBlock = some b → b = bad := by
  cases h : v.ownBlock with
  | none => exact ⟨z, Nat.le_refl _, hlt, fun b hb => by cases hb⟩
  | some b => exact ⟨b, hz b h, ho.lt b h, fun b' hb => by injection hb with hb; exact hb.symm⟩
set_option maxRecDepth 100000 in
set_option maxHeartbeats 8000000 in
theorem plays_any (room : Int) (v : Value) (l : List Op) (w : World) (hv : RdO w v l) : Calls Try.prog 4 #[.int .i64 room, v] w fun e w' => e = .returned (.bool true) ∧ Below w.heap.size w w' := by
  obtain ⟨a, cap, rfl, hcap, hbig, hcell⟩ := hv.open
  have Hcell := Lib.hid hcell
  clear hcell hv
  by_cases hno : room < 0 ∨ 4096 < room
  · have HN := Lib.hid (new_no room w hno)
    by_cases h1 : room < 0
    · clear hno
      go_enter Try.func4, Try.ntmps4
      go_wp2_with fail
      refine HN.out.mono ?_
      rintro e w1 ⟨rfl, rfl⟩
      go_wp2_with fail
      refine (awake_any _).mono ?_
      rintro e w2 ⟨rfl, hb⟩
      have Hb := Lib.hid hb
      clear hb
      go_wp2_with fail
      go_ret
      exact ⟨rfl, Hb.out⟩
    · have h2 : 4096 < room := by omega
      have d1 : decide (room < 0) = false := by simp only [decide_eq_false_iff_not]; omega
      clear hno
      go_enter Try.func4, Try.ntmps4
      go_wp2_with fail
      refine HN.out.mono ?_
      rintro e w1 ⟨rfl, rfl⟩
      go_wp2_with fail
      refine (awake_any _).mono ?_
      rintro e w2 ⟨rfl, hb⟩
      have Hb := Lib.hid hb
      clear hb
      go_wp2_with fail
      go_ret
      exact ⟨rfl, Hb.out⟩
  obtain ⟨N, rfl⟩ : ∃ N : Nat, room = (N : Int) := ⟨room.toNat, by omega⟩
  have hN : N ≤ 4096 := by omega
  have d1 : decide ((N : Int) < 0) = false := by simp only [decide_eq_false_iff_not]; omega
  have d2 : decide (4096 < (N : Int)) = false := by simp only [decide_eq_false_iff_not]; omega
  clear hno
  go_enter Try.func4, Try.ntmps4
  go_wp2_with fail
  refine (new_yes N _ hN).mono ?_
  intro e w1 h1
  obtain ⟨pb, rfl, hp1, hb1⟩ := h1
  have HP1 := Lib.hid hp1
  have HB1 := Lib.hid hb1
  clear hp1 hb1
  go_wp2_with fail
  refine (awake_any _).mono ?_
  rintro e w2 ⟨rfl, hb⟩
  have HS0 : Hid (PlSt w (w2.alloc (.cells #[.int .i64 N, .slice none 0 0] 41)) pb w2.heap.size N (.slice none 0 0) []) := Lib.hid
    ⟨(HP1.out.below hb).below (below_alloc w2 _), ⟨[], ⟨own_nil _ _ _, fun x hx => (by cases hx)⟩, rfl⟩, Blk.new w2 _ 41, bel_alloc (bel_trans HB1.out hb), by simp⟩
  have Hb7 : Hid (w.heap.size ≤ w2.heap.size) := Lib.hid (bel_trans HB1.out hb).size
  clear hb
  go_wp2_with fail
  generalize (w2.alloc (.cells #[.int .i64 N, .slice none 0 0] 41)) = w3 at *
  generalize hb7e : w2.heap.size = b7 at *
  clear hb7e HP1 HB1
  go_loopw [8, 9, 10, 11, 12, 13, 14, 15, 16, 17, 18, 53] (fun _ _ _ _ _ _ _ _ _ _ _ iv wr => ∃ (k : Nat) (L : List M) (rlv : Value), k ≤ l.length ∧ iv = .int .i64 k ∧ Hid (PlSt w wr pb b7 N rlv L)) (fun _ _ _ _ _ _ _ _ _ _ _ iv _ => l.length - (intOf iv).toNat)
  case atStart => exact ⟨0, [], .slice none 0 0, by omega, rfl, HS0⟩
  case round =>
    clear HS0
    obtain ⟨k, L, rlv, hk, rfl, HS⟩ := hrel
    by_cases hlt : k < l.length
    · obtain ⟨op, hop⟩ : ∃ x, l[k]? = some x := ⟨l[k], List.getElem?_eq_getElem hlt⟩
      obtain ⟨b, o, bv, rfl, c0, c1, c2, c3, c4, hrd⟩ := Hcell.out k op hop
      have hbl := World.block_lt_of_cell? w _ c0
      have k0 : wr.cell? ⟨b, o + k * 5, none⟩ = some (.int .i64 op.kind) := (HS.out.bel.cell (p := ⟨b, o + k * 5, none⟩) hbl).trans c0
      have k1 : wr.cell? ⟨b, o + k * 5 + 1, none⟩ = some (.int .i64 op.m.frm) := (HS.out.bel.cell (p := ⟨b, o + k * 5 + 1, none⟩) hbl).trans c1
      have k2 : wr.cell? ⟨b, o + k * 5 + 2, none⟩ = some (.int .i64 op.m.dst) := (HS.out.bel.cell (p := ⟨b, o + k * 5 + 2, none⟩) hbl).trans c2
      have k3 : wr.cell? ⟨b, o + k * 5 + 3, none⟩ = some bv := (HS.out.bel.cell (p := ⟨b, o + k * 5 + 3, none⟩) hbl).trans c3
      have k4 : wr.cell? ⟨b, o + k * 5 + 4, none⟩ = some (.int .i64 op.i) := (HS.out.bel.cell (p := ⟨b, o + k * 5 + 4, none⟩) hbl).trans c4
      obtain ⟨ba, bcap, rfl, hb1, hb2, _⟩ := hrd.open
      have HR := Lib.hid hrd
      clear hop c0 c1 c2 c3 c4 hrd
      by_cases h80 : (80 : Int) ≤ (k : Int)
      · go_wp2_with fail
        go_ret
        exact ⟨rfl, bel_alloc HS.out.bel⟩
      have d80 : decide ((80 : Int) ≤ (k : Int)) = false := by simp only [decide_eq_false_iff_not]; omega
      have d80' : decide (80 ≤ k) = false := by simp only [decide_eq_false_iff_not]; omega
      by_cases hlong : 3000 < op.m.body.length
      · have d3 : decide (3000 < (op.m.body.length : Int)) = true := by simp only [decide_eq_true_eq]; omega
        have d3' : decide (3000 < op.m.body.length) = true := by simp only [decide_eq_true_eq]; omega
        go_wp2_with fail
        go_ret
        exact ⟨rfl, bel_alloc HS.out.bel⟩
      have d3 : decide (3000 < (op.m.body.length : Int)) = false := by simp only [decide_eq_false_iff_not]; omega
      have d3' : decide (3000 < op.m.body.length) = false := by simp only [decide_eq_false_iff_not]; omega
      have HS1 := Lib.hid (HS.out.below (below_alloc wr (.cells #[.int .i64 op.kind, .int .i64 op.m.frm, .int .i64 op.m.dst, .slice ba op.m.body.length bcap, .int .i64 op.i] 43)))
      have HX1 : Hid (Blk (wr.alloc (.cells #[.int .i64 op.kind, .int .i64 op.m.frm, .int .i64 op.m.dst, .slice ba op.m.body.length bcap, .int .i64 op.i] 43)) wr.heap.size #[.int .i64 op.kind, .int .i64 op.m.frm, .int .i64 op.m.dst, .slice ba op.m.body.length bcap, .int .i64 op.i] 43) := Lib.hid (Blk.new wr _ 43)
      have HR1 := Lib.hid (HR.out.below HS1.out.bel)
      have hx1 := HS1.out.box
      obtain ⟨ra, rcap, rfl⟩ := HS1.out.ref.form
      have r0 : wr.cell? ⟨b7, 0, none⟩ = some (.int .i64 N) := HS.out.box.cell 0
      have r1 : wr.cell? ⟨b7, 1, none⟩ = some (.slice ra L.length rcap) := HS.out.box.cell 1
      have hb7l := HS.out.box.lt
      have hbb : w.heap.size ≤ b7 := Hb7.out
      have k10 := HX1.out.cell 0
      clear hx1 HR
      by_cases hk0 : op.kind = 0
      · have e0 : (op.kind == 0) = true := by rw [beq_iff_eq]; exact hk0
        clear hk0 k10
        obtain ⟨cc, L2, hL2, h14, h9, h18⟩ := both N L op.m hN HS1.out.len (by omega)
        have H14 : Hid (∀ w lv v, RefAt w lv L → Rd8 w v op.m.body → Calls Try.prog 14 #[.agg #[.int .i64 N, lv], .agg #[.int .i64 op.m.frm, .int .i64 op.m.dst, v]] w (RSent cc N L2 w)) := Lib.hid h14
        have H9 := Lib.hid h9
        clear h14 h9 h18
        go_wp2_with fail
        refine (H14.out _ _ _ HS1.out.ref HR1.out).mono ?_
        intro e w4 h4
        obtain ⟨lv2, rfl, hr4, hb4⟩ := h4
        obtain ⟨ra2, rcap2, rfl⟩ := hr4.form
        unfold refv
        have HS4 := Lib.hid (HS1.out.below hb4)
        have HX4 := Lib.hid (HX1.out.next hb4)
        have HR4 := Lib.hid (HR1.out.below hb4)
        have Hr4 := Lib.hid hr4
        have q1 : w4.cell? ⟨wr.heap.size, 1, none⟩ = some (.int .i64 op.m.frm) := HX4.out.cell 1
        have q2 : w4.cell? ⟨wr.heap.size, 2, none⟩ = some (.int .i64 op.m.dst) := HX4.out.cell 2
        have q3 : w4.cell? ⟨wr.heap.size, 3, none⟩ = some (.slice ba op.m.body.length bcap) := HX4.out.cell 3
        have hq4 := HX4.out.lt
        clear hb4 hr4 r0 r1 k0 k1 k2 k3 k4
        go_wp2_with (at_builtin; apply Hold.mk)
        unfold Hold
        refine wpList_app8_mine rfl _ _ 28 rfl ok28 [] op.m.body (by rfl) (by rfl) (w4.alloc (.cells #[.int .i64 N, .slice ra2 L2.length rcap2] 41)) (below_alloc _ _) (mine8_at (g := w4.heap.size + 1) (n := 0) [] (by simp [maxLen]) rfl (by simp) (Nat.le_refl _) rfl) (HR4.out.below (bel_alloc (below_alloc w4 _))) (by simp; omega) ?_
        intro v6 w6 hm6 hb6 hg6 hz6
        simp only [List.nil_append] at hm6
        have HS5 := Lib.hid (HS4.out.below (below_alloc w4 (.cells #[.int .i64 N, .slice ra2 L2.length rcap2] 41)))
        have HX5 := Lib.hid (HX4.out.next (below_alloc w4 (.cells #[.int .i64 N, .slice ra2 L2.length rcap2] 41)))
        have HB5 : Hid (Blk (w4.alloc (.cells #[.int .i64 N, .slice ra2 L2.length rcap2] 41)) w4.heap.size #[.int .i64 N, .slice ra2 L2.length rcap2] 41) := Lib.hid (Blk.new w4 _ 41)
        have Hr5 := Lib.hid (Hr4.out.below (below_alloc w4 (.cells #[.int .i64 N, .slice ra2 L2.length rcap2] 41)))
        have hsz6 : (w4.alloc (.cells #[.int .i64 N, .slice ra2 L2.length rcap2] 41)).heap.size < w6.heap.size := by
          have := hg6.size
          simp at this ⊢
          omega
        clear hg6 hz6 q1 q2 q3
        generalize (w4.alloc (.cells #[.int .i64 N, .slice ra2 L2.length rcap2] 41)) = w5 at *
        generalize w4.heap.size = b11 at *
        obtain ⟨bad, hbad1, hbad2, hbad3⟩ := bad_block w5.heap.size hm6.1 hm6.2 hsz6
        obtain ⟨va, vcap, rfl, _⟩ := hm6.rd.open
        have HX6 := Lib.hid (HX5.out.next hb6)
        have HB6 := Lib.hid (HB5.out.next hb6)
        have q1 : w6.cell? ⟨wr.heap.size, 1, none⟩ = some (.int .i64 op.m.frm) := HX6.out.cell 1
        have q2 : w6.cell? ⟨wr.heap.size, 2, none⟩ = some (.int .i64 op.m.dst) := HX6.out.cell 2
        have HS6 := Lib.hid (HS5.out.below hb6)
        have Hoff := Lib.hid ((HS5.out.post.off hbad1).below hb6)
        have Hm6 := Lib.hid hm6
        have Hb6 := Lib.hid hb6
        have Hbad3 := Lib.hid hbad3
        have hb11 := HB5.out.lt
        have hb7l5 := HS5.out.box.lt
        clear hm6 hb6 hbad3
        go_wp2_with fail
        refine (H9.out bad w.heap.size pb w6 _ Hoff.out hbad2 HS6.out.bel.size Hm6.out.rd).mono ?_
        rintro e w7 ⟨rfl, hp7, hc7, hbl7⟩
        have Hp7 := Lib.hid hp7
        have Hc57 := Lib.hid ((Calm.of Hb6.out).trans hc7)
        have Hbl7 := Lib.hid (HS6.out.bel.trans hbl7)
        have Hm7 : Hid (Mine8 5 w5 w7 (.slice va op.m.body.length vcap) op.m.body) := Lib.hid ⟨Own8.calm Hm6.out.1 hc7, Hm6.out.2⟩
        have HB7 := Lib.hid (Blk.calm HB6.out hc7 (by decide) (by decide))
        have HS7 := Lib.hid (Blk.calm HS6.out.box hc7 (by decide) (by decide))
        clear hp7 hc7 hbl7 q1 q2
        go_wp2_with fail
        obtain ⟨wo, rfl⟩ : ∃ wo, wo = wr := ⟨_, rfl⟩
        go_loopw [14, 95] (fun _ iv wi => ∃ (j : Nat) (l' : List UInt8), j ≤ op.m.body.length ∧ iv = .int .i64 j ∧ Hid (l'.length = op.m.body.length) ∧ Hid (Mine8 5 w5 wi (.slice va op.m.body.length vcap) l') ∧ Hid (w7.grownBy wi (some bad)) ∧ Hid (op.m.body.length = 0 → wi = w7)) (fun _ iv _ => op.m.body.length - (intOf iv).toNat)
        case atStart => exact ⟨0, op.m.body, by omega, rfl, Lib.hid rfl, Hm7, Lib.hid ⟨rfl, rfl, rfl, Nat.le_refl _, fun _ _ _ => rfl⟩, Lib.hid (fun _ => rfl)⟩
        case round =>
          obtain ⟨j, l', hj, rfl, Hl', HMj, HGj, HZj⟩ := hrel
          obtain ⟨wi, rfl⟩ : ∃ wi, wi = wr := ⟨_, rfl⟩
          by_cases hjl : j < op.m.body.length
          · obtain ⟨g2, hg2, hz2, c5, f5, hset⟩ := HMj.out.place j (by rw [Hl'.out]; exact hjl)
            subst hg2
            obtain rfl : g2 = bad := Hbad3.out g2 rfl
            have Hset := Lib.hid hset
            have hj1 : (0 : Int) ≤ (j : Int) := by omega
            have hj2 : (j : Int) < (op.m.body.length : Int) := by omega
            generalize l'[j]'(by rw [Hl'.out]; exact hjl) = by1 at *
            obtain ⟨u, hu⟩ := xor_byte by1
            have Hu := Lib.hid hu
            clear hset hu
            go_wp2_with fail
            rw [Hu.out]
            go_roundw
            case rel => exact ⟨j + 1, l'.set j u, by omega, by go_num, Lib.hid (by rw [List.length_set, Hl'.out]), Lib.hid (Hset.out u), Lib.hid (grown_set HGj.out _), Lib.hid (fun h => by omega)⟩
            case measure => simp [intOf]; omega
          · obtain rfl : j = op.m.body.length := by omega
            have HBi := Lib.hid (HB7.out.grown HGj.out (fun e => by injection e with e; omega))
            have HSi := Lib.hid (HS7.out.grown HGj.out (fun e => by injection e with e; omega))
            have p0 : wi.cell? ⟨b11, 0, none⟩ = some (.int .i64 N) := HBi.out.cell 0
            have p1 : wi.cell? ⟨b11, 1, none⟩ = some (.slice ra2 L2.length rcap2) := HBi.out.cell 1
            have s0 : wi.cell? ⟨b7, 0, none⟩ = some (.int .i64 N) := HSi.out.cell 0
            have s1 : wi.cell? ⟨b7, 1, none⟩ = some (.slice ra L.length rcap) := HSi.out.cell 1
            have y0 := HSi.out.free 0
            have y1 := HSi.out.free 1
            have hs7i := HSi.out.lt
            have hpi : PostAt w.heap.size wi pb N L2 := by
              by_cases hn0 : op.m.body.length = 0
              · rw [HZj.out hn0]; exact Hp7.out.at
              · have ho := Hm7.out.1
                rcases ho.2 with ⟨_, h0⟩ | ⟨g, cp, cur, e, _, hg, _⟩
                · exact absurd h0 hn0
                · injection e with e
                  subst e
                  obtain rfl : g = bad := Hbad3.out g rfl
                  exact Hp7.out.grown HGj.out hg
            have hri : RefAt wi (.slice ra2 L2.length rcap2) L2 := Hr5.out.grown hbad1 Hc57.out HGj.out
            have hbi : Below w.heap.size w wi := Hbl7.out.grown HGj.out Hbl7.out.size (fun b e => by injection e with e; have := HS5.out.bel.size; omega)
            have HS8 := Lib.hid (PlSt.put hpi hri HSi.out hbi hbb hL2)
            clear hpi hri hbi
            go_wp2_with fail
            refine (same_any w.heap.size pb N N L2 _ _ HS8.out.post HS8.out.ref hL2).mono ?_
            rintro e w9 ⟨rfl, hb9⟩
            have HS9 := Lib.hid (HS8.out.below hb9)
            clear hb9
            go_wp2_with fail
            go_roundw
            case rel => exact ⟨k + 1, L2, _, by omega, by go_num, HS9⟩
            case measure => simp [intOf]; omega
      have e0 : (op.kind == 0) = false := by rw [beq_eq_false_iff_ne]; exact hk0
      clear hk0
      by_cases hk1 : op.kind = 1
      · have e1 : (op.kind == 1) = true := by rw [beq_iff_eq]; exact hk1
        clear hk1 k10
        obtain ⟨okind, om, oi⟩ := op
        simp only at *
        have hzr : w.heap.size ≤ wr.heap.size := HS.out.bel.size
        by_cases hi : 0 ≤ oi ∧ oi < (L.length : Int)
        · obtain ⟨i, rfl⟩ : ∃ i : Nat, oi = (i : Int) := ⟨oi.toNat, by omega⟩
          have hil : i < L.length := by omega
          obtain ⟨m, hm⟩ : ∃ m, L[i]? = some m := ⟨L[i], List.getElem?_eq_getElem hil⟩
          have Hm := Lib.hid hm
          have HH : Hid (∀ W lv, RefAt W lv L → Calls Try.prog 16 #[.agg #[.int .i64 N, lv], .int .i64 i] W fun e w' => e = .returned (.bool true) ∧ Below W.heap.size W w') := Lib.hid (fun W lv hW => has_yes N lv L i W hW (by omega) (by omega))
          have HWo : Hid (∀ W lv, RefAt W lv L → Calls Try.prog 17 #[.agg #[.int .i64 N, lv], .int .i64 i] W (RWithout N (L.eraseIdx i) W)) := Lib.hid (fun W lv hW => without_any N lv L i W hW HS1.out.len)
          have hi1 : (0 : Int) ≤ (i : Int) := by omega
          have hi2 : (i : Int) < (L.length : Int) := by omega
          obtain ⟨rms, hri0, hrm⟩ := HS1.out.ref
          obtain ⟨⟨rm, rv⟩, hrx, hre⟩ : ∃ x, rms[i]? = some x ∧ x.1 = m := by
            have h1 := hm
            rw [← hrm, List.getElem?_map] at h1
            exact Option.map_eq_some_iff.1 h1
          simp only at hre
          subst hre
          obtain ⟨rg, rcap', hrg, t0, t1, t2⟩ := hri0.msg hrx
          injection hrg with e1' e2' e3'
          subst e1'
          clear e2' e3'
          have hrb := (hri0.bod _ (List.mem_of_getElem? hrx)).rd
          simp only at t0 t1 t2 hrb
          obtain ⟨rba, rbcap, rfl, _⟩ := hrb.open
          have Hri0 := Lib.hid hri0
          have Hrx := Lib.hid hrx
          clear hm hi hri0 hrm hrx hrb t0 t1 t2
          go_wp2_with fail
          refine (look_yes w.heap.size pb N L i rm _ HS1.out.post Hm.out).mono ?_
          intro e w4 h4
          obtain ⟨tv, rfl, htv, hb4⟩ := h4
          obtain ⟨ta, tcap, rfl, _⟩ := htv.rd.open
          have HS4 := Lib.hid (HS1.out.below hb4)
          have HX4 := Lib.hid (HX1.out.next hb4)
          have Hri4 := Lib.hid (Hri0.out.below hb4)
          have HT4 := Lib.hid htv.rd
          have hsz4 : wr.heap.size < w4.heap.size := HX4.out.lt
          clear htv hb4 r0 r1 k0 k1 k2 k3 k4
          have HS5 := Lib.hid (HS4.out.below (below_alloc w4 (.cells #[.int .i64 rm.frm, .int .i64 rm.dst, .slice ta rm.body.length tcap] 32)))
          have HX5 := Lib.hid (HX4.out.next (below_alloc w4 (.cells #[.int .i64 rm.frm, .int .i64 rm.dst, .slice ta rm.body.length tcap] 32)))
          have Hri5 := Lib.hid (Hri4.out.below (below_alloc w4 (.cells #[.int .i64 rm.frm, .int .i64 rm.dst, .slice ta rm.body.length tcap] 32)))
          have HT5 := Lib.hid (HT4.out.below (below_alloc w4 (.cells #[.int .i64 rm.frm, .int .i64 rm.dst, .slice ta rm.body.length tcap] 32)))
          have HQ5 : Hid (Blk (w4.alloc (.cells #[.int .i64 rm.frm, .int .i64 rm.dst, .slice ta rm.body.length tcap] 32)) w4.heap.size #[.int .i64 rm.frm, .int .i64 rm.dst, .slice ta rm.body.length tcap] 32) := Lib.hid (Blk.new w4 _ 32)
          have HL5 := Lib.hid (HS4.out.post.l (g := w4.heap.size) (Nat.le_refl _) (below_alloc w4 (.cells #[.int .i64 rm.frm, .int .i64 rm.dst, .slice ta rm.body.length tcap] 32)))
          have y0 : w4.cell? ⟨wr.heap.size, 0, none⟩ = some (.int .i64 okind) := HX4.out.cell 0
          have y4 : w4.cell? ⟨wr.heap.size, 4, none⟩ = some (.int .i64 i) := HX4.out.cell 4
          have z0 : w4.cell? ⟨b7, 0, none⟩ = some (.int .i64 N) := HS4.out.box.cell 0
          have z1 : w4.cell? ⟨b7, 1, none⟩ = some (.slice (some ⟨rg, 0, none⟩) L.length rcap) := HS4.out.box.cell 1
          have hb74 := HS4.out.box.lt
          have hb9 : b7 ≠ w4.heap.size := by omega
          have hx9 : wr.heap.size ≠ w4.heap.size := by omega

          go_wp2_with fail
          refine (take_box w.heap.size pb N L i rm _ w4.heap.size _ HL5.out HQ5.out HS5.out.bel.size Hm.out).mono ?_
          intro e w6 h6
          obtain ⟨tv, rfl, htv, hp6, hc6, hbl6, hq6⟩ := h6
          obtain ⟨tb, tbcap, rfl, _⟩ := htv.rd.open
          have x60 : w6.cell? ⟨w4.heap.size, 0, none⟩ = some (.int .i64 rm.frm) := hq6.cell 0
          have x61 : w6.cell? ⟨w4.heap.size, 1, none⟩ = some (.int .i64 rm.dst) := hq6.cell 1
          have x62 : w6.cell? ⟨w4.heap.size, 2, none⟩ = some (.slice ta rm.body.length tcap) := hq6.cell 2
          have v60 := hq6.free 0
          have v61 := hq6.free 1
          have v62 := hq6.free 2
          have h6l := hq6.lt
          have q1 := hq6.set 0 (.int .i64 rm.frm)
          have q2 := q1.set 1 (.int .i64 rm.dst)
          have HQ7 : Hid (Blk (((w6.setCell ⟨w4.heap.size, 0, none⟩ (.int .i64 rm.frm)).setCell ⟨w4.heap.size, 1, none⟩ (.int .i64 rm.dst)).setCell ⟨w4.heap.size, 2, none⟩ (.slice tb rm.body.length tbcap)) w4.heap.size #[.int .i64 rm.frm, .int .i64 rm.dst, .slice tb rm.body.length tbcap] 32) := Lib.hid (by simpa using q2.set 2 (.slice tb rm.body.length tbcap))
          have HP7 := Lib.hid (((hp6.set hq6 0 (.int .i64 rm.frm)).set q1 1 (.int .i64 rm.dst)).set q2 2 (.slice tb rm.body.length tbcap)).at
          have HRf7 := Lib.hid (((((HS5.out.ref.calm hc6).set32 hq6 0 (.int .i64 rm.frm)).set32 q1 1 (.int .i64 rm.dst)).set32 q2 2 (.slice tb rm.body.length tbcap)))
          have hri6 : RefAt w6 (.slice (some ⟨rg, 0, none⟩) L.length rcap) (rms.map (·.1)) := RefAt.calm ⟨rms, Hri5.out, rfl⟩ hc6
          have HBx7 := Lib.hid (((Blk.calm HS5.out.box hc6 (by decide) (by decide)).other (p := ⟨w4.heap.size, 0, none⟩) hb9 (.int .i64 rm.frm)).other (p := ⟨w4.heap.size, 1, none⟩) hb9 (.int .i64 rm.dst) |>.other (p := ⟨w4.heap.size, 2, none⟩) hb9 (.slice tb rm.body.length tbcap))
          have HX7 := Lib.hid (((Blk.calm HX5.out hc6 (by decide) (by decide)).other (p := ⟨w4.heap.size, 0, none⟩) hx9 (.int .i64 rm.frm)).other (p := ⟨w4.heap.size, 1, none⟩) hx9 (.int .i64 rm.dst) |>.other (p := ⟨w4.heap.size, 2, none⟩) hx9 (.slice tb rm.body.length tbcap))
          have hz4 : w.heap.size ≤ w4.heap.size := HS4.out.bel.size
          have HBl7 := Lib.hid (bel_set (bel_set (bel_set (HS5.out.bel.trans hbl6) (p := ⟨w4.heap.size, 0, none⟩) (u := .int .i64 rm.frm) hz4) (p := ⟨w4.heap.size, 1, none⟩) (u := .int .i64 rm.dst) hz4) (p := ⟨w4.heap.size, 2, none⟩) (u := .slice tb rm.body.length tbcap) hz4)
          have HT7 := Lib.hid (mine8_set (mine8_set (mine8_set htv (p := ⟨w4.heap.size, 0, none⟩) (by simp) (.int .i64 rm.frm)) (p := ⟨w4.heap.size, 1, none⟩) (by simp) (.int .i64 rm.dst)) (p := ⟨w4.heap.size, 2, none⟩) (by simp) (.slice tb rm.body.length tbcap)).rd
          have HRi7 : Hid (RefIs (((w6.setCell ⟨w4.heap.size, 0, none⟩ (.int .i64 rm.frm)).setCell ⟨w4.heap.size, 1, none⟩ (.int .i64 rm.dst)).setCell ⟨w4.heap.size, 2, none⟩ (.slice tb rm.body.length tbcap)) (.slice (some ⟨rg, 0, none⟩) L.length rcap) rms) := Lib.hid (refis32 (refis32 (refis32 (refis_calm Hri5.out hc6) hq6 0 _) q1 1 _) q2 2 _)
          have hs60 : w6.cell? ⟨b7, 0, none⟩ = some (.int .i64 N) := (Blk.calm HS5.out.box hc6 (by decide) (by decide)).cell 0
          have hs61 : w6.cell? ⟨b7, 1, none⟩ = some (.slice (some ⟨rg, 0, none⟩) L.length rcap) := (Blk.calm HS5.out.box hc6 (by decide) (by decide)).cell 1
          clear htv hp6 hc6 hbl6 q1 q2 y0 y4 z0 z1 hri6 hq6
          go_upto_region 29 with (fail)
          generalize (((w6.setCell ⟨w4.heap.size, 0, none⟩ (.int .i64 rm.frm)).setCell ⟨w4.heap.size, 1, none⟩ (.int .i64 rm.dst)).setCell ⟨w4.heap.size, 2, none⟩ (.slice tb rm.body.length tbcap)) = w6b at *
          clear x60 x61 x62 v60 v61 v62 hs60 hs61
          have z0 : w6b.cell? ⟨b7, 0, none⟩ = some (.int .i64 N) := HBx7.out.cell 0
          have z1 : w6b.cell? ⟨b7, 1, none⟩ = some (.slice (some ⟨rg, 0, none⟩) L.length rcap) := HBx7.out.cell 1
          have y4 : w6b.cell? ⟨wr.heap.size, 4, none⟩ = some (.int .i64 i) := HX7.out.cell 4
          have y77 := HBx7.out.lt
          have y79 := HX7.out.lt
          go_wp2_with fail
          refine (HH.out _ _ HRf7.out).mono ?_
          rintro e w7 ⟨rfl, hbh⟩
          have HX7 := Lib.hid (HX7.out.next hbh)
          have HQ7 := Lib.hid (HQ7.out.next hbh)
          have HBx7 := Lib.hid (HBx7.out.next hbh)
          have HT7 := Lib.hid (HT7.out.below hbh)
          have HRi7 := Lib.hid (HRi7.out.below hbh)
          have HRf7 := Lib.hid (HRf7.out.below hbh)
          have HP7 := Lib.hid (HP7.out.below hbh)
          have HBl7 := Lib.hid (bel_trans HBl7.out hbh)
          clear z0 z1 y4 y77 y79 hbh

          have HRb7 := Lib.hid (HRi7.out.bod _ (List.mem_of_getElem? Hrx.out)).rd
          generalize w4.heap.size = g15 at *
          have hx7 := bel_refl w7
          have HK : Hid (∀ w', Below w7.heap.size w7 w' → w'.cell? ⟨g15, 0, none⟩ = some (.int .i64 rm.frm) ∧ w'.cell? ⟨g15, 1, none⟩ = some (.int .i64 rm.dst) ∧ w'.cell? ⟨g15, 2, none⟩ = some (.slice tb rm.body.length tbcap) ∧ w'.cell? ⟨b7, 0, none⟩ = some (.int .i64 N) ∧ w'.cell? ⟨b7, 1, none⟩ = some (.slice (some ⟨rg, 0, none⟩) L.length rcap) ∧ w'.cell? ⟨wr.heap.size, 0, none⟩ = some (.int .i64 okind) ∧ w'.cell? ⟨wr.heap.size, 4, none⟩ = some (.int .i64 i) ∧ w'.cell? ⟨rg, i * 3, none⟩ = some (.int .i64 rm.frm) ∧ w'.cell? ⟨rg, i * 3 + 1, none⟩ = some (.int .i64 rm.dst) ∧ w'.cell? ⟨rg, i * 3 + 2, none⟩ = some (.slice rba rm.body.length rbcap)) := Lib.hid (fun w' h => by
            obtain ⟨g', cp', hg', f0, f1, f2⟩ := (HRi7.out.below h).msg Hrx.out
            injection hg' with e1 _ _
            cases e1
            exact ⟨(HQ7.out.next h).cell 0, (HQ7.out.next h).cell 1, (HQ7.out.next h).cell 2, (HBx7.out.next h).cell 0, (HBx7.out.next h).cell 1, (HX7.out.next h).cell 0, (HX7.out.next h).cell 4, f0, f1, f2⟩)
          have hg15l := HQ7.out.lt
          have hb77 := HBx7.out.lt
          have hx97 := HX7.out.lt
          obtain ⟨c0, c1, c2, c3, c4, c5, c6, c7, c8, c9⟩ := HK.out w7 hx7
          have hrgl := World.block_lt_of_cell? w7 _ c7
          have hi1 : (0 : Int) ≤ (i : Int) := by omega
          have hi2 : (i : Int) < (L.length : Int) := by omega
          go_wp2_with fail
          go_region_held3 (fun w' => w'.cell? ⟨g15, 0, none⟩ = some (.int .i64 rm.frm) ∧ w'.cell? ⟨g15, 1, none⟩ = some (.int .i64 rm.dst) ∧ w'.cell? ⟨g15, 2, none⟩ = some (.slice tb rm.body.length tbcap) ∧ w'.cell? ⟨b7, 0, none⟩ = some (.int .i64 N) ∧ w'.cell? ⟨b7, 1, none⟩ = some (.slice (some ⟨rg, 0, none⟩) L.length rcap) ∧ w'.cell? ⟨wr.heap.size, 0, none⟩ = some (.int .i64 okind) ∧ w'.cell? ⟨wr.heap.size, 4, none⟩ = some (.int .i64 i) ∧ w'.cell? ⟨rg, i * 3, none⟩ = some (.int .i64 rm.frm) ∧ w'.cell? ⟨rg, i * 3 + 1, none⟩ = some (.int .i64 rm.dst) ∧ w'.cell? ⟨rg, i * 3 + 2, none⟩ = some (.slice rba rm.body.length rbcap))
            (first | go_keep | (exact HK.out _ (by repeat (first | assumption | apply bel_alloc | apply bel_drew))))
            (first
              | (go_at_call 12; refine (from_any rm.frm rm.dst tb rm.body.length tbcap _).mono ?_; rintro e w8 ⟨rfl, hb8⟩; have hx8 : Below w7.heap.size w7 w8 := bel_trans (by repeat (first | assumption | apply bel_alloc | apply bel_drew)) hb8; clear hb8)
              | (go_at_call 11; refine (same_yes rm.frm rm.dst rm.body _ _ _ (HT7.out.below (by repeat (first | assumption | apply bel_alloc | apply bel_drew))) (HRb7.out.below (by repeat (first | assumption | apply bel_alloc | apply bel_drew)))).mono ?_; rintro e w9 ⟨rfl, hb9⟩; have hx9' : Below w7.heap.size w7 w9 := bel_trans (by repeat (first | assumption | apply bel_alloc | apply bel_drew)) hb9; clear hb9))
          obtain ⟨p0, p1, p2, p3, p4, p5, p6, p7, p8, p9⟩ := HK.out w9 hx9'
          have hx99 := (HX7.out.next hx9').lt
          have hb99 := (HBx7.out.next hx9').lt

          have HRf9 := Lib.hid (HRf7.out.below hx9')
          have HP9 := Lib.hid (HP7.out.below hx9')
          have HBx9 := Lib.hid (HBx7.out.next hx9')
          have HBl9 := Lib.hid (bel_trans HBl7.out hx9')
          clear hx9' hx8 hx7 HK c0 c1 c2 c3 c4 c5 c6 c7 c8 c9
          go_wp2_with fail
          refine (HWo.out _ _ HRf9.out).mono ?_
          intro e w10 h10
          obtain ⟨lv2, rfl, hr10, hb10⟩ := h10
          obtain ⟨ra2, rcap2, rfl⟩ := hr10.form
          unfold refv
          have HBx10 := Lib.hid (HBx9.out.next hb10)
          have HSF := Lib.hid (PlSt.put (HP9.out.below hb10) hr10 HBx10.out (bel_trans HBl9.out hb10) hbb (Nat.le_trans (List.length_eraseIdx_le _ _) HS1.out.len))
          have u0 : w10.cell? ⟨b7, 0, none⟩ = some (.int .i64 N) := HBx10.out.cell 0
          have u1 : w10.cell? ⟨b7, 1, none⟩ = some (.slice (some ⟨rg, 0, none⟩) L.length rcap) := HBx10.out.cell 1
          have f0 := HBx10.out.free 0
          have f1 := HBx10.out.free 1
          have hb10l := HBx10.out.lt
          clear hr10 hb10 p0 p1 p2 p3 p4 p5 p6 p7 p8 p9
          go_wp2_with fail

          refine (same_any w.heap.size pb N N (L.eraseIdx i) _ _ HSF.out.post HSF.out.ref HSF.out.len).mono ?_
          rintro e w21 ⟨rfl, hb21⟩
          have HS21 := Lib.hid (HSF.out.below hb21)
          clear hb21
          go_wp2_with fail
          go_roundw
          case rel => exact ⟨k + 1, (L.eraseIdx i), _, by omega, by go_num, HS21⟩
          case measure => simp [intOf]; omega
        · have hin : oi < 0 ∨ (L.length : Int) ≤ oi := by omega
          have HH : Hid (∀ W lv, RefAt W lv L → Calls Try.prog 16 #[.agg #[.int .i64 N, lv], .int .i64 oi] W fun e w' => e = .returned (.bool false) ∧ Below W.heap.size W w') := Lib.hid (fun W lv hW => has_no N lv L oi W hW hin)
          have Hin := Lib.hid hin
          clear hi hin
          go_wp2_with fail
          refine (look_no w.heap.size pb N L oi _ HS1.out.post Hin.out).mono ?_
          unfold noMsg
          rintro e w4 ⟨rfl, hb4⟩
          have HS4 := Lib.hid (HS1.out.below hb4)
          have HX4 := Lib.hid (HX1.out.next hb4)
          have hsz4 : wr.heap.size < w4.heap.size := HX4.out.lt
          clear hb4 r0 r1 k0 k1 k2 k3 k4
          have HS5 := Lib.hid (HS4.out.below (below_alloc w4 (.cells #[.int .i64 0, .int .i64 0, .slice none 0 0] 32)))
          have HX5 := Lib.hid (HX4.out.next (below_alloc w4 (.cells #[.int .i64 0, .int .i64 0, .slice none 0 0] 32)))
          have HQ5 : Hid (Blk (w4.alloc (.cells #[.int .i64 0, .int .i64 0, .slice none 0 0] 32)) w4.heap.size #[.int .i64 0, .int .i64 0, .slice none 0 0] 32) := Lib.hid (Blk.new w4 _ 32)
          have HL5 := Lib.hid (HS4.out.post.l (g := w4.heap.size) (Nat.le_refl _) (below_alloc w4 (.cells #[.int .i64 0, .int .i64 0, .slice none 0 0] 32)))
          have y0 : w4.cell? ⟨wr.heap.size, 0, none⟩ = some (.int .i64 okind) := HX4.out.cell 0
          have y4 : w4.cell? ⟨wr.heap.size, 4, none⟩ = some (.int .i64 oi) := HX4.out.cell 4
          have z0 : w4.cell? ⟨b7, 0, none⟩ = some (.int .i64 N) := HS4.out.box.cell 0
          have z1 : w4.cell? ⟨b7, 1, none⟩ = some (.slice ra L.length rcap) := HS4.out.box.cell 1
          have hb74 := HS4.out.box.lt
          have hb9 : b7 ≠ w4.heap.size := by omega
          have hx9 : wr.heap.size ≠ w4.heap.size := by omega

          go_wp2_with fail
          refine (take_no w.heap.size pb N L oi _ HS5.out.post Hin.out).mono ?_
          unfold noMsg
          rintro e w6 ⟨rfl, hb6⟩
          have hq6 := HQ5.out.next hb6
          have hL6 : PostL w4.heap.size w.heap.size w6 pb N L := HL5.out.below hb6
          have x60 : w6.cell? ⟨w4.heap.size, 0, none⟩ = some (.int .i64 0) := hq6.cell 0
          have x61 : w6.cell? ⟨w4.heap.size, 1, none⟩ = some (.int .i64 0) := hq6.cell 1
          have x62 : w6.cell? ⟨w4.heap.size, 2, none⟩ = some (.slice none 0 0) := hq6.cell 2
          have v60 := hq6.free 0
          have v61 := hq6.free 1
          have v62 := hq6.free 2
          have h6l := hq6.lt
          have q1 := hq6.set 0 (.int .i64 0)
          have q2 := q1.set 1 (.int .i64 0)
          have hz4 : w.heap.size ≤ w4.heap.size := HS4.out.bel.size
          have HS6 := Lib.hid (HS5.out.below hb6)
          have HX6 := Lib.hid (HX5.out.next hb6)
          have HQ7 : Hid (Blk (((w6.setCell ⟨w4.heap.size, 0, none⟩ (.int .i64 0)).setCell ⟨w4.heap.size, 1, none⟩ (.int .i64 0)).setCell ⟨w4.heap.size, 2, none⟩ (.slice none 0 0)) w4.heap.size #[.int .i64 0, .int .i64 0, .slice none 0 0] 32) := Lib.hid (by simpa using q2.set 2 (.slice none 0 0))
          have HS7 : Hid (PlSt w (((w6.setCell ⟨w4.heap.size, 0, none⟩ (.int .i64 0)).setCell ⟨w4.heap.size, 1, none⟩ (.int .i64 0)).setCell ⟨w4.heap.size, 2, none⟩ (.slice none 0 0)) pb b7 N (.slice ra L.length rcap) L) := Lib.hid
            ⟨(((hL6.set hq6 0 (.int .i64 0)).set q1 1 (.int .i64 0)).set q2 2 (.slice none 0 0)).at, ((HS6.out.ref.set32 hq6 0 (.int .i64 0)).set32 q1 1 (.int .i64 0)).set32 q2 2 (.slice none 0 0), (((HS6.out.box.other (p := ⟨w4.heap.size, 0, none⟩) hb9 (.int .i64 0)).other (p := ⟨w4.heap.size, 1, none⟩) hb9 (.int .i64 0)).other (p := ⟨w4.heap.size, 2, none⟩) hb9 (.slice none 0 0)), bel_set (bel_set (bel_set HS6.out.bel hz4) hz4) hz4, HS6.out.len⟩
          have HX7 := Lib.hid (((HX6.out.other (p := ⟨w4.heap.size, 0, none⟩) hx9 (.int .i64 0)).other (p := ⟨w4.heap.size, 1, none⟩) hx9 (.int .i64 0)).other (p := ⟨w4.heap.size, 2, none⟩) hx9 (.slice none 0 0))
          have hs60 : w6.cell? ⟨b7, 0, none⟩ = some (.int .i64 N) := HS6.out.box.cell 0
          have hs61 : w6.cell? ⟨b7, 1, none⟩ = some (.slice ra L.length rcap) := HS6.out.box.cell 1
          have hx64 : w6.cell? ⟨wr.heap.size, 4, none⟩ = some (.int .i64 oi) := HX6.out.cell 4
          have hx60 : w6.cell? ⟨wr.heap.size, 0, none⟩ = some (.int .i64 okind) := HX6.out.cell 0
          clear hb6 hL6 q1 q2 hq6 y0 y4 z0 z1
          go_upto_region 29 with (fail)
          generalize (((w6.setCell ⟨w4.heap.size, 0, none⟩ (.int .i64 0)).setCell ⟨w4.heap.size, 1, none⟩ (.int .i64 0)).setCell ⟨w4.heap.size, 2, none⟩ (.slice none 0 0)) = w7 at *
          clear x60 x61 x62 v60 v61 v62 hs60 hs61 hx64 hx60
          have z0 : w7.cell? ⟨b7, 0, none⟩ = some (.int .i64 N) := HS7.out.box.cell 0
          have z1 : w7.cell? ⟨b7, 1, none⟩ = some (.slice ra L.length rcap) := HS7.out.box.cell 1
          have y4 : w7.cell? ⟨wr.heap.size, 4, none⟩ = some (.int .i64 oi) := HX7.out.cell 4
          have y77 := HS7.out.box.lt
          have y79 := HX7.out.lt
          go_wp2_with fail
          refine (HH.out _ _ HS7.out.ref).mono ?_
          rintro e w8 ⟨rfl, hb8⟩
          have HS8 := Lib.hid (HS7.out.below hb8)
          have HQ8 := Lib.hid (HQ7.out.next hb8)
          clear z0 z1 y4 y77 y79 hb8

          have a0 : w8.cell? ⟨w4.heap.size, 0, none⟩ = some (.int .i64 0) := HQ8.out.cell 0
          have a1 : w8.cell? ⟨w4.heap.size, 1, none⟩ = some (.int .i64 0) := HQ8.out.cell 1
          have a2 : w8.cell? ⟨w4.heap.size, 2, none⟩ = some (.slice none 0 0) := HQ8.out.cell 2
          have a3 := HQ8.out.lt
          go_wp2_with fail
          refine (from_any 0 0 none 0 0 _).mono ?_
          rintro e w9 ⟨rfl, hb9'⟩
          have HS9 := Lib.hid (HS8.out.below hb9')
          clear hb9'
          go_wp2_with fail
          refine (same_yes 0 0 [] _ _ _ (rd_nil _) (rd_nil _)).mono ?_
          rintro e w10 ⟨rfl, hb10⟩
          have HSF := Lib.hid (HS9.out.below hb10)
          have c0 : w10.cell? ⟨b7, 0, none⟩ = some (.int .i64 N) := HSF.out.box.cell 0
          have c1 : w10.cell? ⟨b7, 1, none⟩ = some (.slice ra L.length rcap) := HSF.out.box.cell 1
          have c7l := HSF.out.box.lt
          clear hb10 a0 a1 a2 a3
          go_wp2_with fail

          refine (same_any w.heap.size pb N N L _ _ HSF.out.post HSF.out.ref HSF.out.len).mono ?_
          rintro e w21 ⟨rfl, hb21⟩
          have HS21 := Lib.hid (HSF.out.below hb21)
          clear hb21
          go_wp2_with fail
          go_roundw
          case rel => exact ⟨k + 1, L, _, by omega, by go_num, HS21⟩
          case measure => simp [intOf]; omega
      have e1 : (op.kind == 1) = false := by rw [beq_eq_false_iff_ne]; exact hk1
      clear hk1
      by_cases hk3 : op.kind = 3
      · have e3 : (op.kind == 3) = true := by rw [beq_iff_eq]; exact hk3
        clear hk3 k10
        obtain ⟨okind, om, oi⟩ := op
        simp only at *
        have hzr : w.heap.size ≤ wr.heap.size := HS.out.bel.size
        by_cases hi : 0 ≤ oi ∧ oi < (L.length : Int)
        · obtain ⟨i, rfl⟩ : ∃ i : Nat, oi = (i : Int) := ⟨oi.toNat, by omega⟩
          have hil : i < L.length := by omega
          obtain ⟨m, hm⟩ : ∃ m, L[i]? = some m := ⟨L[i], List.getElem?_eq_getElem hil⟩
          have Hm := Lib.hid hm
          have HH : Hid (∀ W lv, RefAt W lv L → Calls Try.prog 16 #[.agg #[.int .i64 N, lv], .int .i64 i] W fun e w' => e = .returned (.bool true) ∧ Below W.heap.size W w') := Lib.hid (fun W lv hW => has_yes N lv L i W hW (by omega) (by omega))
          have HWo : Hid (∀ W lv, RefAt W lv L → Calls Try.prog 17 #[.agg #[.int .i64 N, lv], .int .i64 i] W (RWithout N (L.eraseIdx i) W)) := Lib.hid (fun W lv hW => without_any N lv L i W hW HS1.out.len)
          have hi1 : (0 : Int) ≤ (i : Int) := by omega
          have hi2 : (i : Int) < (L.length : Int) := by omega
          obtain ⟨rms, hri0, hrm⟩ := HS1.out.ref
          obtain ⟨⟨rm, rv⟩, hrx, hre⟩ : ∃ x, rms[i]? = some x ∧ x.1 = m := by
            have h1 := hm
            rw [← hrm, List.getElem?_map] at h1
            exact Option.map_eq_some_iff.1 h1
          simp only at hre
          subst hre
          obtain ⟨rg, rcap', hrg, t0, t1, t2⟩ := hri0.msg hrx
          injection hrg with e1' e2' e3'
          subst e1'
          clear e2' e3'
          have hrb := (hri0.bod _ (List.mem_of_getElem? hrx)).rd
          simp only at t0 t1 t2 hrb
          obtain ⟨rba, rbcap, rfl, _⟩ := hrb.open
          have Hri0 := Lib.hid hri0
          have Hrx := Lib.hid hrx
          clear hm hi hri0 hrm hrx hrb t0 t1 t2
          go_wp2_with fail
          refine (look_yes w.heap.size pb N L i rm _ HS1.out.post Hm.out).mono ?_
          intro e w4 h4
          obtain ⟨tv, rfl, htv, hb4⟩ := h4
          obtain ⟨ta, tcap, rfl, _⟩ := htv.rd.open
          have HS4 := Lib.hid (HS1.out.below hb4)
          have HX4 := Lib.hid (HX1.out.next hb4)
          have Hri4 := Lib.hid (Hri0.out.below hb4)
          have HT4 := Lib.hid htv.rd
          have hsz4 : wr.heap.size < w4.heap.size := HX4.out.lt
          clear htv hb4 r0 r1 k0 k1 k2 k3 k4
          have HS5 := Lib.hid (HS4.out.below (below_alloc w4 (.cells #[.int .i64 rm.frm, .int .i64 rm.dst, .slice ta rm.body.length tcap] 32)))
          have HX5 := Lib.hid (HX4.out.next (below_alloc w4 (.cells #[.int .i64 rm.frm, .int .i64 rm.dst, .slice ta rm.body.length tcap] 32)))
          have Hri5 := Lib.hid (Hri4.out.below (below_alloc w4 (.cells #[.int .i64 rm.frm, .int .i64 rm.dst, .slice ta rm.body.length tcap] 32)))
          have HT5 := Lib.hid (HT4.out.below (below_alloc w4 (.cells #[.int .i64 rm.frm, .int .i64 rm.dst, .slice ta rm.body.length tcap] 32)))
          have HQ5 : Hid (Blk (w4.alloc (.cells #[.int .i64 rm.frm, .int .i64 rm.dst, .slice ta rm.body.length tcap] 32)) w4.heap.size #[.int .i64 rm.frm, .int .i64 rm.dst, .slice ta rm.body.length tcap] 32) := Lib.hid (Blk.new w4 _ 32)
          have HL5 := Lib.hid (HS4.out.post.l (g := w4.heap.size) (Nat.le_refl _) (below_alloc w4 (.cells #[.int .i64 rm.frm, .int .i64 rm.dst, .slice ta rm.body.length tcap] 32)))
          have y0 : w4.cell? ⟨wr.heap.size, 0, none⟩ = some (.int .i64 okind) := HX4.out.cell 0
          have y4 : w4.cell? ⟨wr.heap.size, 4, none⟩ = some (.int .i64 i) := HX4.out.cell 4
          have z0 : w4.cell? ⟨b7, 0, none⟩ = some (.int .i64 N) := HS4.out.box.cell 0
          have z1 : w4.cell? ⟨b7, 1, none⟩ = some (.slice (some ⟨rg, 0, none⟩) L.length rcap) := HS4.out.box.cell 1
          have hb74 := HS4.out.box.lt
          have hb9 : b7 ≠ w4.heap.size := by omega
          have hx9 : wr.heap.size ≠ w4.heap.size := by omega

          go_wp2_with fail
          refine (HH.out _ _ HS5.out.ref).mono ?_
          rintro e w7 ⟨rfl, hb7'⟩
          have HS7 := Lib.hid (HS5.out.below hb7')
          have HX7 := Lib.hid (HX5.out.next hb7')
          have HQ7 := Lib.hid (HQ5.out.next hb7')
          have HBx7 := Lib.hid HS7.out.box
          have HT7 := Lib.hid (HT5.out.below hb7')
          have HRi7 := Lib.hid (Hri5.out.below hb7')
          clear hb7' y0 y4 z0 z1

          have HRb7 := Lib.hid (HRi7.out.bod _ (List.mem_of_getElem? Hrx.out)).rd
          generalize w4.heap.size = g15 at *
          have hx7 := bel_refl w7
          have HK : Hid (∀ w', Below w7.heap.size w7 w' → w'.cell? ⟨g15, 0, none⟩ = some (.int .i64 rm.frm) ∧ w'.cell? ⟨g15, 1, none⟩ = some (.int .i64 rm.dst) ∧ w'.cell? ⟨g15, 2, none⟩ = some (.slice ta rm.body.length tcap) ∧ w'.cell? ⟨b7, 0, none⟩ = some (.int .i64 N) ∧ w'.cell? ⟨b7, 1, none⟩ = some (.slice (some ⟨rg, 0, none⟩) L.length rcap) ∧ w'.cell? ⟨wr.heap.size, 0, none⟩ = some (.int .i64 okind) ∧ w'.cell? ⟨wr.heap.size, 4, none⟩ = some (.int .i64 i) ∧ w'.cell? ⟨rg, i * 3, none⟩ = some (.int .i64 rm.frm) ∧ w'.cell? ⟨rg, i * 3 + 1, none⟩ = some (.int .i64 rm.dst) ∧ w'.cell? ⟨rg, i * 3 + 2, none⟩ = some (.slice rba rm.body.length rbcap)) := Lib.hid (fun w' h => by
            obtain ⟨g', cp', hg', f0, f1, f2⟩ := (HRi7.out.below h).msg Hrx.out
            injection hg' with e1 _ _
            cases e1
            exact ⟨(HQ7.out.next h).cell 0, (HQ7.out.next h).cell 1, (HQ7.out.next h).cell 2, (HBx7.out.next h).cell 0, (HBx7.out.next h).cell 1, (HX7.out.next h).cell 0, (HX7.out.next h).cell 4, f0, f1, f2⟩)
          have hg15l := HQ7.out.lt
          have hb77 := HBx7.out.lt
          have hx97 := HX7.out.lt
          obtain ⟨c0, c1, c2, c3, c4, c5, c6, c7, c8, c9⟩ := HK.out w7 hx7
          have hrgl := World.block_lt_of_cell? w7 _ c7
          have hi1 : (0 : Int) ≤ (i : Int) := by omega
          have hi2 : (i : Int) < (L.length : Int) := by omega
          go_wp2_with fail
          go_region_held3 (fun w' => w'.cell? ⟨g15, 0, none⟩ = some (.int .i64 rm.frm) ∧ w'.cell? ⟨g15, 1, none⟩ = some (.int .i64 rm.dst) ∧ w'.cell? ⟨g15, 2, none⟩ = some (.slice ta rm.body.length tcap) ∧ w'.cell? ⟨b7, 0, none⟩ = some (.int .i64 N) ∧ w'.cell? ⟨b7, 1, none⟩ = some (.slice (some ⟨rg, 0, none⟩) L.length rcap) ∧ w'.cell? ⟨wr.heap.size, 0, none⟩ = some (.int .i64 okind) ∧ w'.cell? ⟨wr.heap.size, 4, none⟩ = some (.int .i64 i) ∧ w'.cell? ⟨rg, i * 3, none⟩ = some (.int .i64 rm.frm) ∧ w'.cell? ⟨rg, i * 3 + 1, none⟩ = some (.int .i64 rm.dst) ∧ w'.cell? ⟨rg, i * 3 + 2, none⟩ = some (.slice rba rm.body.length rbcap))
            (first | go_keep | (exact HK.out _ (by repeat (first | assumption | apply bel_alloc | apply bel_drew))))
            (first
              | (go_at_call 12; refine (from_any rm.frm rm.dst ta rm.body.length tcap _).mono ?_; rintro e w8 ⟨rfl, hb8⟩; have hx8 : Below w7.heap.size w7 w8 := bel_trans (by repeat (first | assumption | apply bel_alloc | apply bel_drew)) hb8; clear hb8)
              | (go_at_call 11; refine (same_yes rm.frm rm.dst rm.body _ _ _ (HT7.out.below (by repeat (first | assumption | apply bel_alloc | apply bel_drew))) (HRb7.out.below (by repeat (first | assumption | apply bel_alloc | apply bel_drew)))).mono ?_; rintro e w9 ⟨rfl, hb9⟩; have hx9' : Below w7.heap.size w7 w9 := bel_trans (by repeat (first | assumption | apply bel_alloc | apply bel_drew)) hb9; clear hb9))
          obtain ⟨p0, p1, p2, p3, p4, p5, p6, p7, p8, p9⟩ := HK.out w9 hx9'
          have hx99 := (HX7.out.next hx9').lt
          have hb99 := (HBx7.out.next hx9').lt

          have HSF := Lib.hid (HS7.out.below hx9')
          clear hx9' hx8 hx7 HK c0 c1 c2 c3 c4 c5 c6 c7 c8 c9
          go_wp2_with fail

          refine (same_any w.heap.size pb N N L _ _ HSF.out.post HSF.out.ref HSF.out.len).mono ?_
          rintro e w21 ⟨rfl, hb21⟩
          have HS21 := Lib.hid (HSF.out.below hb21)
          clear hb21
          go_wp2_with fail
          go_roundw
          case rel => exact ⟨k + 1, L, _, by omega, by go_num, HS21⟩
          case measure => simp [intOf]; omega
        · have hin : oi < 0 ∨ (L.length : Int) ≤ oi := by omega
          have HH : Hid (∀ W lv, RefAt W lv L → Calls Try.prog 16 #[.agg #[.int .i64 N, lv], .int .i64 oi] W fun e w' => e = .returned (.bool false) ∧ Below W.heap.size W w') := Lib.hid (fun W lv hW => has_no N lv L oi W hW hin)
          have Hin := Lib.hid hin
          clear hi hin
          go_wp2_with fail
          refine (look_no w.heap.size pb N L oi _ HS1.out.post Hin.out).mono ?_
          unfold noMsg
          rintro e w4 ⟨rfl, hb4⟩
          have HS4 := Lib.hid (HS1.out.below hb4)
          have HX4 := Lib.hid (HX1.out.next hb4)
          have hsz4 : wr.heap.size < w4.heap.size := HX4.out.lt
          clear hb4 r0 r1 k0 k1 k2 k3 k4
          have HS5 := Lib.hid (HS4.out.below (below_alloc w4 (.cells #[.int .i64 0, .int .i64 0, .slice none 0 0] 32)))
          have HX5 := Lib.hid (HX4.out.next (below_alloc w4 (.cells #[.int .i64 0, .int .i64 0, .slice none 0 0] 32)))
          have HQ5 : Hid (Blk (w4.alloc (.cells #[.int .i64 0, .int .i64 0, .slice none 0 0] 32)) w4.heap.size #[.int .i64 0, .int .i64 0, .slice none 0 0] 32) := Lib.hid (Blk.new w4 _ 32)
          have HL5 := Lib.hid (HS4.out.post.l (g := w4.heap.size) (Nat.le_refl _) (below_alloc w4 (.cells #[.int .i64 0, .int .i64 0, .slice none 0 0] 32)))
          have y0 : w4.cell? ⟨wr.heap.size, 0, none⟩ = some (.int .i64 okind) := HX4.out.cell 0
          have y4 : w4.cell? ⟨wr.heap.size, 4, none⟩ = some (.int .i64 oi) := HX4.out.cell 4
          have z0 : w4.cell? ⟨b7, 0, none⟩ = some (.int .i64 N) := HS4.out.box.cell 0
          have z1 : w4.cell? ⟨b7, 1, none⟩ = some (.slice ra L.length rcap) := HS4.out.box.cell 1
          have hb74 := HS4.out.box.lt
          have hb9 : b7 ≠ w4.heap.size := by omega
          have hx9 : wr.heap.size ≠ w4.heap.size := by omega

          go_wp2_with fail
          refine (HH.out _ _ HS5.out.ref).mono ?_
          rintro e w8 ⟨rfl, hb8⟩
          have HS8 := Lib.hid (HS5.out.below hb8)
          have HQ8 := Lib.hid (HQ5.out.next hb8)
          clear y0 y4 z0 z1 hb8

          have a0 : w8.cell? ⟨w4.heap.size, 0, none⟩ = some (.int .i64 0) := HQ8.out.cell 0
          have a1 : w8.cell? ⟨w4.heap.size, 1, none⟩ = some (.int .i64 0) := HQ8.out.cell 1
          have a2 : w8.cell? ⟨w4.heap.size, 2, none⟩ = some (.slice none 0 0) := HQ8.out.cell 2
          have a3 := HQ8.out.lt
          go_wp2_with fail
          refine (from_any 0 0 none 0 0 _).mono ?_
          rintro e w9 ⟨rfl, hb9'⟩
          have HS9 := Lib.hid (HS8.out.below hb9')
          clear hb9'
          go_wp2_with fail
          refine (same_yes 0 0 [] _ _ _ (rd_nil _) (rd_nil _)).mono ?_
          rintro e w10 ⟨rfl, hb10⟩
          have HSF := Lib.hid (HS9.out.below hb10)
          have c0 : w10.cell? ⟨b7, 0, none⟩ = some (.int .i64 N) := HSF.out.box.cell 0
          have c1 : w10.cell? ⟨b7, 1, none⟩ = some (.slice ra L.length rcap) := HSF.out.box.cell 1
          have c7l := HSF.out.box.lt
          clear hb10 a0 a1 a2 a3
          go_wp2_with fail

          refine (same_any w.heap.size pb N N L _ _ HSF.out.post HSF.out.ref HSF.out.len).mono ?_
          rintro e w21 ⟨rfl, hb21⟩
          have HS21 := Lib.hid (HSF.out.below hb21)
          clear hb21
          go_wp2_with fail
          go_roundw
          case rel => exact ⟨k + 1, L, _, by omega, by go_num, HS21⟩
          case measure => simp [intOf]; omega
      have e3 : (op.kind == 3) = false := by rw [beq_eq_false_iff_ne]; exact hk3
      clear hk3
      by_cases hk2 : op.kind = 2
      · have e2 : (op.kind == 2) = true := by rw [beq_iff_eq]; exact hk2
        clear hk2 k10
        obtain ⟨okind, om, oi⟩ := op
        simp only at *
        have HS5 := Lib.hid (HS1.out.below (below_alloc _ (.cells #[.int .i64 N, .slice ra L.length rcap] 41)))
        have HX5 := Lib.hid (HX1.out.next (below_alloc _ (.cells #[.int .i64 N, .slice ra L.length rcap] 41)))
        have HB5 : Hid (Blk ((wr.alloc (.cells #[.int .i64 okind, .int .i64 om.frm, .int .i64 om.dst, .slice ba om.body.length bcap, .int .i64 oi] 43)).alloc (.cells #[.int .i64 N, .slice ra L.length rcap] 41)) (wr.heap.size + 1) #[.int .i64 N, .slice ra L.length rcap] 41) := Lib.hid (by
          have hb := Blk.new (wr.alloc (.cells #[.int .i64 okind, .int .i64 om.frm, .int .i64 om.dst, .slice ba om.body.length bcap, .int .i64 oi] 43)) #[.int .i64 N, .slice ra L.length rcap] 41
          simp only [World.size_alloc] at hb
          exact hb)
        have hzr : w.heap.size ≤ wr.heap.size := HS.out.bel.size
        by_cases hi : 0 ≤ oi ∧ oi < (L.length : Int)
        · obtain ⟨i, rfl⟩ : ∃ i : Nat, oi = (i : Int) := ⟨oi.toNat, by omega⟩
          have hil : i < L.length := by omega
          obtain ⟨m, hm⟩ : ∃ m, L[i]? = some m := ⟨L[i], List.getElem?_eq_getElem hil⟩
          have Hm := Lib.hid hm
          obtain ⟨cc, L2, hL2, h14, h9, h18⟩ := both N L m hN HS1.out.len (HS1.out.post.short hm)
          have H14 : Hid (∀ w lv v, RefAt w lv L → Rd8 w v m.body → Calls Try.prog 14 #[.agg #[.int .i64 N, lv], .agg #[.int .i64 m.frm, .int .i64 m.dst, v]] w (RSent cc N L2 w)) := Lib.hid h14
          have H18 := Lib.hid h18
          have HH : Hid (∀ W lv, RefAt W lv L → Calls Try.prog 16 #[.agg #[.int .i64 N, lv], .int .i64 i] W fun e w' => e = .returned (.bool true) ∧ Below W.heap.size W w') := Lib.hid (fun W lv hW => has_yes N lv L i W hW (by omega) (by omega))
          have hi1 : (0 : Int) ≤ (i : Int) := by omega
          have hi2 : (i : Int) < (L.length : Int) := by omega
          clear h14 h9 h18 hm hi
          go_wp2_with fail
          refine (HH.out _ _ HS5.out.ref).mono ?_
          rintro e w6 ⟨rfl, hb6⟩
          have HS6 := Lib.hid (HS5.out.below hb6)
          have HX6 := Lib.hid (HX5.out.next hb6)
          have HB6 := Lib.hid (HB5.out.next hb6)
          obtain ⟨rms, hri, hrm⟩ := HS6.out.ref
          obtain ⟨⟨rm, rv⟩, hrx, hre⟩ : ∃ x, rms[i]? = some x ∧ x.1 = m := by
            have h1 := Hm.out
            rw [← hrm, List.getElem?_map] at h1
            exact Option.map_eq_some_iff.1 h1
          simp only at hre
          subst hre
          obtain ⟨rg, rcap', hrg, t0, t1, t2⟩ := hri.msg hrx
          injection hrg with e1 e2' e3'
          subst e1
          clear e2' e3'
          have hrb := (hri.bod _ (List.mem_of_getElem? hrx)).rd
          simp only at t0 t1 t2 hrb
          obtain ⟨rba, rbcap, rfl, _⟩ := hrb.open
          have HRb := Lib.hid hrb
          have HT := Lib.hid (fun w' (h : Below w6.heap.size w6 w') => (hri.below h).msg hrx)
          have s0 : w6.cell? ⟨b7, 0, none⟩ = some (.int .i64 N) := HS6.out.box.cell 0
          have s1 : w6.cell? ⟨b7, 1, none⟩ = some (.slice (some ⟨rg, 0, none⟩) L.length rcap) := HS6.out.box.cell 1
          have x4 : w6.cell? ⟨wr.heap.size, 4, none⟩ = some (.int .i64 i) := HX6.out.cell 4
          have hs7l := HS6.out.box.lt
          have hx9l := HX6.out.lt
          have hrgl := World.block_lt_of_cell? w6 _ t0
          have hrgw : rg < wr.heap.size := by
            obtain ⟨m9, h9, _⟩ := HS.out.ref
            exact h9.own.lt rg rfl
          have hx6 := bel_refl w6
          have HK : Hid (∀ w', Below w6.heap.size w6 w' → w'.cell? ⟨b7, 0, none⟩ = some (.int .i64 N) ∧ w'.cell? ⟨b7, 1, none⟩ = some (.slice (some ⟨rg, 0, none⟩) L.length rcap) ∧ w'.cell? ⟨wr.heap.size, 4, none⟩ = some (.int .i64 i) ∧ w'.cell? ⟨rg, i * 3, none⟩ = some (.int .i64 rm.frm) ∧ w'.cell? ⟨rg, i * 3 + 1, none⟩ = some (.int .i64 rm.dst) ∧ w'.cell? ⟨rg, i * 3 + 2, none⟩ = some (.slice rba rm.body.length rbcap)) := Lib.hid (fun w' h => by
            obtain ⟨g', cp', hg', f0, f1, f2⟩ := HT.out w' h
            injection hg' with e1 _ _
            cases e1
            exact ⟨(HS6.out.box.next h).cell 0, (HS6.out.box.next h).cell 1, (HX6.out.next h).cell 4, f0, f1, f2⟩)
          clear hri hrm hrx hrb HT hb6 HH r0 r1 k0 k1 k2 k3 k4
          go_wp2_with fail
          have hi1 : (0 : Int) ≤ (i : Int) := by omega
          have hi2 : (i : Int) < (L.length : Int) := by omega
          have hn1 : b7 ≠ wr.heap.size + 1 := by omega
          have hn2 : wr.heap.size ≠ wr.heap.size + 1 := by omega
          have hn3 : rg ≠ wr.heap.size + 1 := by omega
          go_region_held3 (fun w' => w'.cell? ⟨b7, 0, none⟩ = some (.int .i64 N) ∧ w'.cell? ⟨b7, 1, none⟩ = some (.slice (some ⟨rg, 0, none⟩) L.length rcap) ∧ w'.cell? ⟨wr.heap.size, 4, none⟩ = some (.int .i64 i) ∧ w'.cell? ⟨rg, i * 3, none⟩ = some (.int .i64 rm.frm) ∧ w'.cell? ⟨rg, i * 3 + 1, none⟩ = some (.int .i64 rm.dst) ∧ w'.cell? ⟨rg, i * 3 + 2, none⟩ = some (.slice rba rm.body.length rbcap))
            (first | (exact ⟨cell_set2 z0 hn1, cell_set2 z1 hn1, cell_set2 z4 hn2, cell_set2 zt0 hn3, cell_set2 zt1 hn3, cell_set2 zt2 hn3⟩) | go_keep | (exact HK.out _ (by repeat (first | assumption | apply bel_alloc | apply bel_drew))))
            (first
              | (go_at_call 14; refine (H14.out _ _ _ (HS6.out.ref.below (by repeat (first | assumption | apply bel_alloc | apply bel_drew))) (HRb.out.below (by repeat (first | assumption | apply bel_alloc | apply bel_drew)))).mono ?_; intro e w7 h7; obtain ⟨lv2, rfl, hr7, hb7⟩ := h7; obtain ⟨ra2, rcap2, rfl⟩ := hr7.form; unfold refv; have hx7 : Below w6.heap.size w6 w7 := bel_trans (by repeat (first | assumption | apply bel_alloc | apply bel_drew)) hb7; have hB7 := HB6.out.next hx7; have p0 : w7.cell? ⟨wr.heap.size + 1, 0, none⟩ = some (.int .i64 N) := hB7.cell 0; have p1 : w7.cell? ⟨wr.heap.size + 1, 1, none⟩ = some (.slice (some ⟨rg, 0, none⟩) L.length rcap) := hB7.cell 1; have y0 := hB7.free 0; have y1 := hB7.free 1; have hpl7 := hB7.lt; have Hr7 := Lib.hid hr7; obtain ⟨z0, z1, z4, zt0, zt1, zt2⟩ := HK.out w7 hx7; clear hr7 hb7 hB7))
          have hzb : w.heap.size ≤ wr.heap.size + 1 := by omega
          have hB7 := HB6.out.next hx7
          have HS8 := Lib.hid (((HS6.out.below hx7).set hB7 hn1 hzb 0 (.int .i64 N)).set (hB7.set 0 (.int .i64 N)) hn1 hzb 1 (.slice ra2 L2.length rcap2))
          have HB8 : Hid (Blk ((w7.setCell ⟨wr.heap.size + 1, 0, none⟩ (.int .i64 N)).setCell ⟨wr.heap.size + 1, 1, none⟩ (.slice ra2 L2.length rcap2)) (wr.heap.size + 1) #[.int .i64 N, .slice ra2 L2.length rcap2] 41) := Lib.hid (by simpa using (hB7.set 0 (.int .i64 N)).set 1 (.slice ra2 L2.length rcap2))
          have Hr8 := Lib.hid ((Hr7.out.set hB7 0 (.int .i64 N)).set (hB7.set 0 (.int .i64 N)) 1 (.slice ra2 L2.length rcap2))
          have HX8 := Lib.hid (((HX6.out.next hx7).other (p := ⟨wr.heap.size + 1, 0, none⟩) hn2 (.int .i64 N)).other (p := ⟨wr.heap.size + 1, 1, none⟩) hn2 (.slice ra2 L2.length rcap2))
          clear hB7 p0 p1 y0 y1 z0 z1 z4 zt0 zt1 zt2 hx7 HK hx6 s0 s1 x4 t0 t1 t2 Hr7
          generalize ((w7.setCell ⟨wr.heap.size + 1, 0, none⟩ (.int .i64 N)).setCell ⟨wr.heap.size + 1, 1, none⟩ (.slice ra2 L2.length rcap2)) = w8 at *
          have x4 : w8.cell? ⟨wr.heap.size, 4, none⟩ = some (.int .i64 i) := HX8.out.cell 4
          have hx8l := HX8.out.lt
          go_wp2_with fail
          refine (H18.out w.heap.size pb w8 i HS8.out.post HS8.out.bel.size Hm.out).mono ?_
          rintro e w9 ⟨rfl, hp9, hc9, hbl9⟩
          have HB9 := Lib.hid (Blk.calm HB8.out hc9 (by decide) (by decide))
          have HBx9 := Lib.hid (Blk.calm HS8.out.box hc9 (by decide) (by decide))
          have HS10 := Lib.hid (PlSt.put hp9 (Hr8.out.calm hc9) HBx9.out (HS8.out.bel.trans hbl9) hbb hL2)
          clear hp9 hc9 hbl9 x4
          have p0 : w9.cell? ⟨wr.heap.size + 1, 0, none⟩ = some (.int .i64 N) := HB9.out.cell 0
          have p1 : w9.cell? ⟨wr.heap.size + 1, 1, none⟩ = some (.slice ra2 L2.length rcap2) := HB9.out.cell 1
          have s0 : w9.cell? ⟨b7, 0, none⟩ = some (.int .i64 N) := HBx9.out.cell 0
          have s1 : w9.cell? ⟨b7, 1, none⟩ = some (.slice (some ⟨rg, 0, none⟩) L.length rcap) := HBx9.out.cell 1
          have y0 := HBx9.out.free 0
          have y1 := HBx9.out.free 1
          have hs9l := HBx9.out.lt
          go_wp2_with fail
          refine (same_any w.heap.size pb N N L2 _ _ HS10.out.post HS10.out.ref HS10.out.len).mono ?_
          rintro e w11 ⟨rfl, hb11⟩
          have HS11 := Lib.hid (HS10.out.below hb11)
          clear hb11
          go_wp2_with fail
          go_roundw
          case rel => exact ⟨k + 1, L2, _, by omega, by go_num, HS11⟩
          case measure => simp [intOf]; omega
        · have hin : oi < 0 ∨ (L.length : Int) ≤ oi := by omega
          have HH : Hid (∀ W lv, RefAt W lv L → Calls Try.prog 16 #[.agg #[.int .i64 N, lv], .int .i64 oi] W fun e w' => e = .returned (.bool false) ∧ Below W.heap.size W w') := Lib.hid (fun W lv hW => has_no N lv L oi W hW hin)
          have HCp : Hid (∀ W, PostAt w.heap.size W pb N L → w.heap.size ≤ W.heap.size → Calls Try.prog 18 #[.pointer (some ⟨pb, 0, none⟩), .int .i64 oi] W (Sent 1 w.heap.size pb N L W)) := Lib.hid (fun W hp hz => copy_no w.heap.size pb N L oi W hp hz hin)
          clear hi hin
          go_wp2_with fail
          refine (HH.out _ _ HS5.out.ref).mono ?_
          rintro e w8 ⟨rfl, hb6⟩
          have HS8 := Lib.hid (HS5.out.below hb6)
          have HX8 := Lib.hid (HX5.out.next hb6)
          have HB8 := Lib.hid (HB5.out.next hb6)
          have x4 : w8.cell? ⟨wr.heap.size, 4, none⟩ = some (.int .i64 oi) := HX8.out.cell 4
          have hx8l := HX8.out.lt
          clear hb6 r0 r1 k0 k1 k2 k3 k4
          go_wp2_with fail
          refine (HCp.out w8 HS8.out.post HS8.out.bel.size).mono ?_
          rintro e w9 ⟨rfl, hp9, hc9, hbl9⟩
          have HB9 := Lib.hid (Blk.calm HB8.out hc9 (by decide) (by decide))
          have HBx9 := Lib.hid (Blk.calm HS8.out.box hc9 (by decide) (by decide))
          have HS10 := Lib.hid (PlSt.put hp9 (HS8.out.ref.calm hc9) HBx9.out (HS8.out.bel.trans hbl9) hbb HS8.out.len)
          clear hp9 hc9 hbl9 x4
          have p0 : w9.cell? ⟨wr.heap.size + 1, 0, none⟩ = some (.int .i64 N) := HB9.out.cell 0
          have p1 : w9.cell? ⟨wr.heap.size + 1, 1, none⟩ = some (.slice ra L.length rcap) := HB9.out.cell 1
          have s0 : w9.cell? ⟨b7, 0, none⟩ = some (.int .i64 N) := HBx9.out.cell 0
          have s1 : w9.cell? ⟨b7, 1, none⟩ = some (.slice ra L.length rcap) := HBx9.out.cell 1
          have y0 := HBx9.out.free 0
          have y1 := HBx9.out.free 1
          have hs9l := HBx9.out.lt
          go_wp2_with fail
          refine (same_any w.heap.size pb N N L _ _ HS10.out.post HS10.out.ref HS10.out.len).mono ?_
          rintro e w11 ⟨rfl, hb11⟩
          have HS11 := Lib.hid (HS10.out.below hb11)
          clear hb11
          go_wp2_with fail
          go_roundw
          case rel => exact ⟨k + 1, L, _, by omega, by go_num, HS11⟩
          case measure => simp [intOf]; omega
      have e2 : (op.kind == 2) = false := by rw [beq_eq_false_iff_ne]; exact hk2
      clear hk2
      go_wp2_with fail
      refine (same_any w.heap.size pb N N L _ _ HS1.out.post HS1.out.ref HS1.out.len).mono ?_
      rintro e w9 ⟨rfl, hb9⟩
      have HS9 := Lib.hid (HS1.out.below hb9)
      clear hb9
      go_wp2_with fail
      go_roundw
      case rel => exact ⟨k + 1, L, _, by omega, by go_num, HS9⟩
      case measure => simp [intOf]; omega
    · obtain rfl : k = l.length := by omega
      go_wp2_with fail
      go_ret
      exact ⟨rfl, HS.out.bel⟩
end Go.Proofs.Ytjhjbgdekpegdaa
