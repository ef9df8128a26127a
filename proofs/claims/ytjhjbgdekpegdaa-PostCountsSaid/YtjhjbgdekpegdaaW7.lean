/- Take (10). -/
import Derived.Test.YtjhjbgdekpegdaaW6
namespace Go.Proofs.Ytjhjbgdekpegdaa
open Go.RowKit Go.Kt Go.Conc

theorem PostIs.put {B : Nat} {w w' : World} {pb c : Nat} {lv lv' : Value} {room n : Nat} {ms : List (M × Value)} (h : PostIs B w pb c lv room n ms) (hz : B ≤ w.heap.size) (ms' : List (M × Value))
    (ho : Own 32 3 w' lv' ms'.length (mcells ms')) (hg : w.grownBy w' lv.ownBlock) (hn : ∀ b, lv'.ownBlock = some b → lv.ownBlock = some b ∨ w.heap.size ≤ b)
    (hm : ∀ x ∈ ms', Own8 5 w x.2 x.1.body ∧ (∀ b, x.2.ownBlock = some b → B ≤ b) ∧ x.1.body.length ≤ 1048576) :
    PostIs B (w'.setCell ⟨pb, 1, none⟩ lv') pb c lv' room n ms' ∧ Calm w (w'.setCell ⟨pb, 1, none⟩ lv') ∧ Below B w (w'.setCell ⟨pb, 1, none⟩ lv') := by
  have k1 : ∀ (g : Nat) (o : Obj), w.heap[g]? = some o → (∀ cs k, o ≠ .cells cs 32 k) → w'.heap[g]? = some o := by
    intro g o hgo ho'
    rw [hg.block g (Array.getElem?_eq_some_iff.1 hgo).1 (fun e => by
      obtain ⟨cs, k, hb⟩ := own_block h.own e.symm
      rw [hgo] at hb
      injection hb with hb
      exact ho' cs k hb), hgo]
  have hblk' : Blk w' pb #[.chan (some c), lv] 57 := k1 pb _ h.blk (by simp)
  have k2 : ∀ (g : Nat) (o : Obj), w.heap[g]? = some o → (∀ cs k, o ≠ .cells cs 32 k) → (∀ cs k, o ≠ .cells cs 57 k) → (w'.setCell ⟨pb, 1, none⟩ lv').heap[g]? = some o := by
    intro g o hgo h1 h2
    rw [heap_setCell_other w' ⟨pb, 1, none⟩ g lv' (by
      rintro rfl
      have := h.blk
      unfold Blk at this
      rw [hgo] at this
      injection this with this
      exact h2 _ _ this)]
    exact k1 g o hgo h1
  have ko : ∀ {v : Value} {l : List UInt8}, Own8 5 w v l → Own8 5 (w'.setCell ⟨pb, 1, none⟩ lv') v l := fun hv => Own.keep hv fun b hb => by
    obtain ⟨cs, k, hgb⟩ := own_block hv hb
    rw [k2 b _ hgb (by simp) (by simp), hgb]
  have hpb' : ∀ b, lv'.ownBlock = some b → b ≠ pb := by
    intro b hb e
    obtain ⟨cs, k, hbb⟩ := own_block ho hb
    rw [e] at hbb
    unfold Blk at hblk'
    rw [hblk'] at hbb
    injection hbb with hbb
    injection hbb with _ hbb
    exact absurd hbb (by decide)
  refine ⟨⟨h.pbB, h.cB, ?_, ?_, own_set ho (p := ⟨pb, 1, none⟩) hpb' lv', fun b hb => (hn b hb).elim (h.lB b) (fun hh => Nat.le_trans hz hh), fun x hx => ⟨ko (hm x hx).1, (hm x hx).2⟩, h.le⟩, ⟨?_, ?_⟩, ?_⟩
  · have := hblk'.set 1 lv'
    simpa using this
  · obtain ⟨buf, s, r, hc, hbn⟩ := h.ch
    exact ⟨buf, s, r, k2 c _ hc (by simp) (by simp), hbn⟩
  · have := hg.size
    simpa using this
  · intro g o hgo hs
    exact k2 g o hgo (by rintro cs k rfl; cases hs) (by rintro cs k rfl; cases hs)
  · exact ((Below.refl B w).grown hg hz h.lB).setCell h.pbB lv'
/-- a box of the caller's, behind a step that turned the list, the post and the channel -/
theorem box_kept {w w' : World} {B pb c g : Nat} {lv lv' : Value} {room n : Nat} {ms : List (M × Value)} {cs : Array Value} (h : PostIs B w pb c lv room n ms) (hx : Blk w g cs 32) (hne : lv.ownBlock ≠ some g) (hg : w.grownBy w' lv.ownBlock) (buf : Array Value) (s r : Nat) :
    Blk ((w'.setCell ⟨pb, 1, none⟩ lv').setChan c room buf false s r false) g cs 32 := by
  have h1 : Blk w' g cs 32 := hx.grown hg hne
  have hpg : g ≠ pb := by
    rintro rfl
    have := h.blk
    unfold Blk at this hx
    rw [hx] at this
    injection this with this
    injection this with _ this
    exact absurd this (by decide)
  have h2 : Blk (w'.setCell ⟨pb, 1, none⟩ lv') g cs 32 := h1.other (by simpa using hpg) lv'
  obtain ⟨buf0, s0, r0, hc, _⟩ := h.ch
  exact (heap_setChan_other _ c g room buf false s r false (no_chan hx hc)).trans h2
theorem calm_set {w w' : World} (h : Calm w w') {p : Addr} (hp : w.heap.size ≤ p.block) (u : Value) : Calm w (w'.setCell p u) :=
  ⟨by simpa using h.1, fun g o hg ho => (heap_setCell_other w' p g u (by have := (Array.getElem?_eq_some_iff.1 hg).1; omega)).trans (h.2 g o hg ho)⟩
theorem PostIs.set {B : Nat} {w : World} {pb c : Nat} {lv : Value} {room n : Nat} {ms : List (M × Value)} (h : PostIs B w pb c lv room n ms) {g : Nat} {cs : Array Value} (hx : Blk w g cs 32) (hne : lv.ownBlock ≠ some g) (j : Nat) (u : Value) :
    PostIs B (w.setCell ⟨g, j, none⟩ u) pb c lv room n ms ∧ Blk (w.setCell ⟨g, j, none⟩ u) g (cs.setIfInBounds j u) 32 := by
  have hpg : pb ≠ g := by
    rintro rfl
    have := h.blk
    unfold Blk at this hx
    rw [hx] at this
    injection this with this
    injection this with _ this
    exact absurd this (by decide)
  obtain ⟨buf0, s0, r0, hc, hn⟩ := h.ch
  refine ⟨⟨h.pbB, h.cB, h.blk.other (by simpa using hpg) u, ⟨buf0, s0, r0, (heap_setCell_other w ⟨g, j, none⟩ c u (by simpa using no_chan hx hc)).trans hc, hn⟩, own_set h.own (fun b hb e => hne (by rw [hb, e])) u, h.lB, fun x hx' => ⟨own_set (h.bod x hx').1 (fun b hb e => ?_) u, (h.bod x hx').2⟩, h.le⟩, hx.set j u⟩
  obtain ⟨cs', k, hb'⟩ := own_block (h.bod x hx').1 hb
  unfold Blk at hx
  rw [e] at hb'
  simp only at hb'
  rw [hx] at hb'
  injection hb' with hb'
  injection hb' with _ hb'
  exact absurd hb' (by decide)
theorem take_nil (i : Int) (w : World) : Calls Try.prog 10 #[.pointer none, .int .i64 i] w fun e w' => e = .returned (noMsg 2) ∧ Below w.heap.size w w' := by
  go_enter Try.func10, Try.ntmps10
  go_wp2_with fail
  refine (look_nil i _).mono ?_
  unfold noMsg
  rintro e w1 ⟨rfl, hb⟩
  have hz := (Blk.new w #[.int .i64 0, .int .i64 0, .slice none 0 0] 32).next hb
  have z0 : w1.cell? ⟨w.heap.size, 0, none⟩ = some (.int .i64 0) := hz.cell 0
  have z1 : w1.cell? ⟨w.heap.size, 1, none⟩ = some (.int .i64 0) := hz.cell 1
  have z2 : w1.cell? ⟨w.heap.size, 2, none⟩ = some (.slice none 0 0) := hz.cell 2
  have y0 := hz.free 0
  have y1 := hz.free 1
  have y2 := hz.free 2
  have hzl := hz.lt
  have Hb := Lib.hid (bel_trans (below_alloc w _) hb)
  clear hb hz
  go_wp2_with fail
  exact bodyPost_ret (v := noMsg 2) (by simp [results, Try.results10, go_sem, noMsg, *]) rfl ⟨rfl, bel_alloc (bel_set (bel_set (bel_set Hb.out (Nat.le_refl _)) (Nat.le_refl _)) (Nat.le_refl _))⟩
set_option maxHeartbeats 1000000 in
theorem take_no (B pb room : Nat) (l : List M) (i : Int) (w : World) (h : PostAt B w pb room l) (hi : i < 0 ∨ (l.length : Int) ≤ i) :
    Calls Try.prog 10 #[.pointer (some ⟨pb, 0, none⟩), .int .i64 i] w fun e w' => e = .returned (noMsg 1) ∧ Below w.heap.size w w' := by
  have H := Lib.hid h
  clear h
  go_enter Try.func10, Try.ntmps10
  go_wp2_with fail
  refine (look_no B pb room l i _ (H.out.below (below_alloc w _)) hi).mono ?_
  unfold noMsg
  rintro e w1 ⟨rfl, hb⟩
  have hz := (Blk.new w #[.int .i64 0, .int .i64 0, .slice none 0 0] 32).next hb
  have z0 : w1.cell? ⟨w.heap.size, 0, none⟩ = some (.int .i64 0) := hz.cell 0
  have z1 : w1.cell? ⟨w.heap.size, 1, none⟩ = some (.int .i64 0) := hz.cell 1
  have z2 : w1.cell? ⟨w.heap.size, 2, none⟩ = some (.slice none 0 0) := hz.cell 2
  have y0 := hz.free 0
  have y1 := hz.free 1
  have y2 := hz.free 2
  have hzl := hz.lt
  have Hb := Lib.hid (bel_trans (below_alloc w _) hb)
  clear hb hz
  go_wp2_with fail
  exact bodyPost_ret (v := noMsg 1) (by simp [results, Try.results10, go_sem, noMsg, *]) rfl ⟨rfl, bel_alloc (bel_set (bel_set (bel_set Hb.out (Nat.le_refl _)) (Nat.le_refl _)) (Nat.le_refl _))⟩
def Taken (m : M) (B pb room : Nat) (l : List M) (w : World) (e : Ending) (w' : World) : Prop :=
  ∃ v, e = .returned (.tuple #[.agg #[.int .i64 m.frm, .int .i64 m.dst, v], .int .i64 0]) ∧ Mine8 5 w w' v m.body ∧ PostAt B w' pb room l ∧ Calm w w' ∧ Below B w w'
set_option maxRecDepth 100000 in
set_option maxHeartbeats 2000000 in
theorem take_yes (B pb room : Nat) (l : List M) (i : Nat) (m : M) (w : World) (h : PostAt B w pb room l) (hB : B ≤ w.heap.size) (hi : l[i]? = some m) :
    Calls Try.prog 10 #[.pointer (some ⟨pb, 0, none⟩), .int .i64 i] w (Taken m B pb room (l.eraseIdx i) w) := by
  have H := Lib.hid h
  have Hi := Lib.hid hi
  obtain ⟨c, lv, ms, hp, hle, rfl⟩ := h
  have HP := Lib.hid hp
  have hilt : i < ms.length := by
    have := (List.getElem?_eq_some_iff.1 hi).1
    simpa using this
  have hpl := hp.blk.lt
  have hi63 : (i : Int) + 1 ≤ 9223372036854775807 := by
    have := hp.le; omega
  clear hi hp
  go_enter Try.func10, Try.ntmps10
  go_wp2_with fail
  refine (look_yes B pb room _ i m _ (H.out.below (below_alloc w _)) Hi.out).mono ?_
  intro e w1 h1
  obtain ⟨tv, rfl, htv, hb1⟩ := h1
  obtain ⟨ta, tcap, rfl, _⟩ := htv.rd.open
  have Htv := Lib.hid htv
  have HB1 := Lib.hid (bel_trans (below_alloc w _) hb1)
  have HP1 := Lib.hid (HP.out.below HB1.out)
  have HZ1 := Lib.hid ((Blk.new w #[.int .i64 0, .int .i64 0, .slice none 0 0] 32).next hb1)
  have k1 : w1.cell? ⟨pb, 1, none⟩ = some lv := HP1.out.blk.cell 1
  have hpl1 := HP1.out.blk.lt
  have hzl1 := HZ1.out.lt
  clear htv hb1
  obtain ⟨_, la, lcap, rfl, _⟩ := HP1.out.own.rd
  go_wp2_with fail
  have HP2 := Lib.hid (HP1.out.below (below_alloc w1 (.cells #[.int .i64 m.frm, .int .i64 m.dst, .slice ta m.body.length tcap] 32)))
  have HX2 : Hid (Blk (w1.alloc (.cells #[.int .i64 m.frm, .int .i64 m.dst, .slice ta m.body.length tcap] 32)) w1.heap.size #[.int .i64 m.frm, .int .i64 m.dst, .slice ta m.body.length tcap] 32) := Lib.hid (Blk.new w1 _ 32)
  have HZ2 := Lib.hid (HZ1.out.next (below_alloc w1 (.cells #[.int .i64 m.frm, .int .i64 m.dst, .slice ta m.body.length tcap] 32)))
  have HB2 := Lib.hid (bel_alloc (o := .cells #[.int .i64 m.frm, .int .i64 m.dst, .slice ta m.body.length tcap] 32) HB1.out)
  have Htv2 := Lib.hid (Htv.out.below (below_alloc w1 (.cells #[.int .i64 m.frm, .int .i64 m.dst, .slice ta m.body.length tcap] 32)))
  generalize (w1.alloc (.cells #[.int .i64 m.frm, .int .i64 m.dst, .slice ta m.body.length tcap] 32)) = w2 at *
  have hone : ∀ x ∈ ms, x.2.oneCell' = true := by
    intro x hx
    obtain ⟨a, cp, e, _⟩ := (HP2.out.bod x hx).1.rd.open
    rw [e]
    rfl
  refine (delete_any _ ms i w2 HP2.out.own hilt hone).mono ?_
  intro e w3 h3
  obtain ⟨v3, rfl, ho3, hg3, hob3⟩ := h3
  obtain ⟨_, va, vcap, rfl, _⟩ := ho3.rd
  have hle2 : ms.length - 1 = (ms.eraseIdx i).length := by rw [List.length_eraseIdx_of_lt hilt]
  have hB2 : B ≤ w2.heap.size := Nat.le_trans hB HB2.out.size
  have HPut := Lib.hid (HP2.out.put hB2 (ms.eraseIdx i) (by rw [← hle2]; exact ho3) hg3 (fun b hb => .inl (by rw [← hob3]; exact hb)) (fun x hx => HP2.out.bod x (List.mem_of_mem_eraseIdx hx)))
  have hB3 := HP2.out.blk.grown hg3 (own_no_blk HP2.out.own HP2.out.blk (by decide))
  have k3 : w3.cell? ⟨pb, 1, none⟩ = some (.slice la ms.length lcap) := hB3.cell 1
  have f3 : w3.frozen? ⟨pb, 1, none⟩ = false := hB3.free 1
  have hpl3 := hB3.lt
  have Hob : Hid (∀ g : Nat, w.heap.size ≤ g → (Value.slice la ms.length lcap).ownBlock ≠ some g) := Lib.hid (fun g hg e => by have := HP.out.own.lt g e; omega)
  have HXk := Lib.hid (fun buf s r => box_kept (lv' := Value.slice va (ms.length - 1) vcap) HP2.out HX2.out (Hob.out _ (by have := HB1.out.size; omega)) hg3 buf s r)
  have HZk := Lib.hid (fun buf s r => box_kept (lv' := Value.slice va (ms.length - 1) vcap) HP2.out HZ2.out (Hob.out _ (Nat.le_refl _)) hg3 buf s r)
  have Hle2 := Lib.hid hle2
  have Hob3 := Lib.hid hob3
  clear ho3 hg3 hob3 hB3 hone hle2
  go_upto_region 5 with (fail)
  generalize (w3.setCell ⟨pb, 1, none⟩ (Value.slice va (ms.length - 1) vcap)) = w4 at *
  obtain ⟨buf, s, r, hc4, hn4⟩ := HPut.out.1.ch
  have k40 : w4.cell? ⟨pb, 0, none⟩ = some (.chan (some c)) := HPut.out.1.blk.cell 0
  have HCh := Lib.hid (HPut.out.1.chan (buf.extract 1 buf.size) s (r + 1))
  have Hc4 := Lib.hid hc4
  have Hn4 := Lib.hid hn4
  have HX5 := Lib.hid (HXk.out (buf.extract 1 buf.size) s (r + 1))
  have HZ5 := Lib.hid (HZk.out (buf.extract 1 buf.size) s (r + 1))
  clear hc4 hn4
  refine WpL.region ?_
  refine WpL.value rfl rfl (by simp [go_sem, execOp, Act.eval, Act.put]; exact ⟨rfl, rfl⟩) ?_
  refine WpL.value rfl rfl (by simp [go_sem, execOp, Act.eval, Act.put]; exact ⟨rfl, rfl⟩) ?_
  refine WpL.value rfl rfl (by simp [go_sem, execOp, Act.eval, Act.put]; exact ⟨rfl, rfl⟩) ?_
  refine WpL.value rfl rfl (by simp [go_sem, execOp, Act.eval, Act.put, k40]; exact ⟨rfl, rfl⟩) ?_
  refine WpL.comm (cases := #[rcase c (.agg #[])]) (blocking := true) (shape := .recv false) (w' := w4) rfl rfl (by simp [go_sem, execOp, rcase, Act.eval, Act.put]) (fun fr cs es h => step_lone_recv_buf false h Hc4.out (by rw [Hn4.out]; omega)) ?_
  refine WpL.nil ?_
  generalize (w4.setChan c room (buf.extract 1 buf.size) false s (r + 1) false) = w5 at *
  have x50 : w5.cell? ⟨w1.heap.size, 0, none⟩ = some (.int .i64 m.frm) := HX5.out.cell 0
  have x51 : w5.cell? ⟨w1.heap.size, 1, none⟩ = some (.int .i64 m.dst) := HX5.out.cell 1
  have x52 : w5.cell? ⟨w1.heap.size, 2, none⟩ = some (.slice ta m.body.length tcap) := HX5.out.cell 2
  have z50 : w5.cell? ⟨w.heap.size, 0, none⟩ = some (.int .i64 0) := HZ5.out.cell 0
  have z51 : w5.cell? ⟨w.heap.size, 1, none⟩ = some (.int .i64 0) := HZ5.out.cell 1
  have z52 : w5.cell? ⟨w.heap.size, 2, none⟩ = some (.slice none 0 0) := HZ5.out.cell 2
  have y50 := HZ5.out.free 0
  have y51 := HZ5.out.free 1
  have y52 := HZ5.out.free 2
  have hx5l := HX5.out.lt
  clear k40 k3 f3
  go_wp2_with fail
  refine bodyPost_ret (v := .tuple #[.agg #[.int .i64 m.frm, .int .i64 m.dst, .slice ta m.body.length tcap], .int .i64 0]) (by simp [results, Try.results10, go_sem, *]) rfl ⟨_, rfl, ?_, ?_, ?_, ?_⟩
  · have h2 : Mine8 5 (w.alloc (.cells #[.int .i64 0, .int .i64 0, .slice none 0 0] 32)) w5 (.slice ta m.body.length tcap) m.body := ⟨Own8.calm (Own8.calm Htv2.out.1 HPut.out.2.1) HCh.out.2.1, Htv2.out.2⟩
    exact (mine8_set (mine8_set (mine8_set h2 (p := ⟨w.heap.size, 0, none⟩) (by simp) _) (p := ⟨w.heap.size, 1, none⟩) (by simp) _) (p := ⟨w.heap.size, 2, none⟩) (by simp) _).since (by simp)
  · have hne : (Value.slice va (ms.length - 1) vcap).ownBlock ≠ some w.heap.size := by rw [Hob3.out]; exact Hob.out _ (Nat.le_refl _)
    obtain ⟨p1, q1⟩ := HCh.out.1.set HZ5.out hne 0 (.int .i64 m.frm)
    obtain ⟨p2, q2⟩ := p1.set q1 hne 1 (.int .i64 m.dst)
    obtain ⟨p3, _⟩ := p2.set q2 hne 2 (.slice ta m.body.length tcap)
    refine ⟨c, .slice va (ms.length - 1) vcap, ms.eraseIdx i, ?_, by rw [← Hle2.out]; omega, by simp [List.eraseIdx_eq_take_drop_succ, List.map_append, List.map_take, List.map_drop]⟩
    rw [← Hle2.out]
    have hsz : (buf.extract 1 buf.size).size = ms.length - 1 := by simp [Hn4.out]
    rw [hsz] at p3
    exact p3
  · exact calm_set (calm_set (calm_set (((Calm.of HB2.out).trans HPut.out.2.1).trans HCh.out.2.1) (Nat.le_refl _) _) (Nat.le_refl _) _) (Nat.le_refl _) _
  · exact ((((HB2.out.mono hB).trans HPut.out.2.2).trans HCh.out.2.2).setCell hB _).setCell hB _ |>.setCell hB _
end Go.Proofs.Ytjhjbgdekpegdaa
