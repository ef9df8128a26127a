/- Send and Take once more: what else they leave as it was. -/
import Derived.Test.YtjhjbgdekpegdaaWE
import Derived.Deep.RegionLaw
namespace Go.Proofs.Ytjhjbgdekpegdaa
open Go.RowKit Go.Kt Go.Conc
/-- a post of which no body lies in the block 'bad' -/
def PostOff (bad B : Nat) (w : World) (pb room : Nat) (l : List M) : Prop := ∃ c lv ms, PostIs B w pb c lv room ms.length ms ∧ ms.length ≤ room ∧ ms.map (·.1) = l ∧ ∀ x ∈ ms, x.2.ownBlock ≠ some bad
theorem PostOff.at {bad B : Nat} {w : World} {pb room : Nat} {l : List M} (h : PostOff bad B w pb room l) : PostAt B w pb room l := by
  obtain ⟨c, lv, ms, h1, h2, h3, _⟩ := h
  exact ⟨c, lv, ms, h1, h2, h3⟩
theorem PostAt.off {bad B : Nat} {w : World} {pb room : Nat} {l : List M} (h : PostAt B w pb room l) (hb : w.heap.size ≤ bad) : PostOff bad B w pb room l := by
  obtain ⟨c, lv, ms, h1, h2, h3⟩ := h
  exact ⟨c, lv, ms, h1, h2, h3, fun x hx e => by have := (h1.bod x hx).1.lt _ e; omega⟩
theorem PostOff.below {bad B : Nat} {w w' : World} {pb room : Nat} {l : List M} (h : PostOff bad B w pb room l) (hb : Below w.heap.size w w') : PostOff bad B w' pb room l := by
  obtain ⟨c, lv, ms, h1, h2, h3, h4⟩ := h
  exact ⟨c, lv, ms, h1.below hb, h2, h3, h4⟩
/-- only a row of bytes was turned -/
theorem PostOff.grown {bad B : Nat} {w w' : World} {pb room : Nat} {l : List M} (h : PostOff bad B w pb room l) (hg : w.grownBy w' (some bad)) {cs : Array Value} {k : Nat × Nat} (hbad : w.heap[bad]? = some (.cells cs 5 k)) : PostAt B w' pb room l := by
  obtain ⟨c, lv, ms, h1, h2, h3, h4⟩ := h
  have key : ∀ (g : Nat) (o : Obj), w.heap[g]? = some o → g ≠ bad → w'.heap[g]? = some o := fun g o hgo hne => (hg.block g (Array.getElem?_eq_some_iff.1 hgo).1 (fun e => hne (by injection e))).trans hgo
  have ne : ∀ (g : Nat) (cs' : Array Value) (t : TypeId) (k' : Nat × Nat), w.heap[g]? = some (.cells cs' t k') → t ≠ 5 → g ≠ bad := by
    intro g cs' t k' hgo ht e
    rw [e, hbad] at hgo
    injection hgo with hgo
    injection hgo with _ hgo
    exact ht hgo.symm
  refine ⟨c, lv, ms, ⟨h1.pbB, h1.cB, key pb _ h1.blk (ne _ _ _ _ h1.blk (by decide)), ?_, h1.own.keep (fun b hb => ?_), h1.lB, fun x hx => ⟨(h1.bod x hx).1.keep (fun b hb => ?_), (h1.bod x hx).2⟩, h1.le⟩, h2, h3⟩
  · obtain ⟨buf, s, r, hc, hn⟩ := h1.ch
    exact ⟨buf, s, r, key c _ hc (by rintro rfl; rw [hbad] at hc; cases hc), hn⟩
  · obtain ⟨cs', k', hgo⟩ := own_block h1.own hb
    rw [key b _ hgo (ne _ _ _ _ hgo (by decide)), hgo]
  · obtain ⟨cs', k', hgo⟩ := own_block (h1.bod x hx).1 hb
    rw [key b _ hgo (fun e => h4 x hx (by rw [hb, e])), hgo]
theorem RefAt.grown {bad : Nat} {w w1 w' : World} {lv : Value} {l : List M} (h0 : RefAt w lv l) (hbd : w.heap.size ≤ bad) (hc : Calm w w1) (hg : w1.grownBy w' (some bad)) : RefAt w' lv l := by
  obtain ⟨ms, h1, h2⟩ := h0
  have key : ∀ {e : TypeId} {size n : Nat} {v : Value} {xs : List Value}, Own e size w v n xs → e ≠ 57 → e ≠ 32 → Own e size w' v n xs := by
    intro e size n v xs ho he he'
    refine (Own.calm ho hc he he').keep fun b hb => hg.block b (Nat.lt_of_lt_of_le (ho.lt b hb) hc.1) (fun e => ?_)
    have := ho.lt b hb
    injection e with e
    omega
  exact ⟨ms, ⟨key h1.own (by decide) (by decide), fun x hx => key (h1.bod x hx) (by decide) (by decide)⟩, h2⟩
def SentOff (bad : Nat) (code : Int) (B pb room : Nat) (l : List M) (w : World) (e : Ending) (w' : World) : Prop := e = .returned (.int .i64 code) ∧ PostOff bad B w' pb room l ∧ Calm w w' ∧ Below B w w'
theorem post_snoc_off {bad B : Nat} {w : World} {pb c : Nat} {lv : Value} {room k : Nat} {ms : List (M × Value)} {m : M} {bv : Value} (h : PostIs B w pb c lv room k (ms ++ [(m, bv)])) (hk : k = ms.length + 1) (hr : ms.length < room)
    (ho : ∀ x ∈ ms, x.2.ownBlock ≠ some bad) (hb : bv.ownBlock ≠ some bad) : PostOff bad B w pb room (ms.map (·.1) ++ [m]) := by
  subst hk
  refine ⟨c, lv, ms ++ [(m, bv)], by simpa using h, by simp; omega, by simp, fun x hx => ?_⟩
  rcases List.mem_append.1 hx with hx | hx
  · exact ho x hx
  · simp at hx
    subst hx
    exact hb
set_option maxHeartbeats 1000000 in
theorem send_full' (B pb room : Nat) (L : List M) (f t : Int) (v : Value) (l : List UInt8) (w : World) (h : PostAt B w pb room L) (hv : Rd8 w v l) (hl : l.length ≤ 1048576) (hf : room ≤ L.length) :
    Calls Try.prog 9 #[.pointer (some ⟨pb, 0, none⟩), .agg #[.int .i64 f, .int .i64 t, v]] w fun e w' => e = .returned (.int .i64 4) ∧ Below w.heap.size w w' := by
  obtain ⟨c, lv, ms, hp, hle, rfl⟩ := h
  rw [List.length_map] at hf
  obtain ⟨buf, s, r, hc, hn⟩ := hp.ch
  have hb := hp.blk
  have HE := Lib.hid (fun (o : Obj) => enter_no pb c room s r lv buf (w.alloc o) (hb.next (below_alloc w o)) (((below_alloc w o).block c hp.clt).trans hc) (by omega))
  obtain ⟨a, cap, rfl, h1, h2, h3, h4⟩ := hv.open
  have d : decide (1048576 < (l.length : Int)) = false := by simp only [decide_eq_false_iff_not]; omega
  clear h3 h4 hv hp hc hn hb
  go_enter Try.func9, Try.ntmps9
  go_wp2_with fail
  refine (HE.out _).mono ?_
  rintro e w1 ⟨rfl, rfl⟩
  go_wp2_with fail
  go_ret
  exact ⟨rfl, below_alloc w _⟩
/-- a post whose list is not the block g -/
def PostL (g B : Nat) (w : World) (pb room : Nat) (l : List M) : Prop := ∃ c lv ms, PostIs B w pb c lv room ms.length ms ∧ ms.length ≤ room ∧ ms.map (·.1) = l ∧ lv.ownBlock ≠ some g
theorem PostL.at {g B : Nat} {w : World} {pb room : Nat} {l : List M} (h : PostL g B w pb room l) : PostAt B w pb room l := by
  obtain ⟨c, lv, ms, h1, h2, h3, _⟩ := h
  exact ⟨c, lv, ms, h1, h2, h3⟩
theorem PostAt.l {g B : Nat} {w w' : World} {pb room : Nat} {l : List M} (h : PostAt B w pb room l) (hb : w.heap.size ≤ g) (hbl : Below w.heap.size w w') : PostL g B w' pb room l := by
  obtain ⟨c, lv, ms, h1, h2, h3⟩ := h
  exact ⟨c, lv, ms, h1.below hbl, h2, h3, fun e => by have := h1.own.lt _ e; omega⟩
def TakenB (g : Nat) (cs : Array Value) (m : M) (B pb room : Nat) (l : List M) (w : World) (e : Ending) (w' : World) : Prop :=
  ∃ v, e = .returned (.tuple #[.agg #[.int .i64 m.frm, .int .i64 m.dst, v], .int .i64 0]) ∧ Mine8 5 w w' v m.body ∧ PostL g B w' pb room l ∧ Calm w w' ∧ Below B w w' ∧ Blk w' g cs 32
set_option maxHeartbeats 2000000 in
theorem send_off (bad : Nat) (B pb room : Nat) (L : List M) (m : M) (v : Value) (w : World) (h : PostOff bad B w pb room L) (hbad : bad < w.heap.size) (hB : B ≤ w.heap.size) (hv : Rd8 w v m.body) (hl : m.body.length ≤ 1048576) (hf : L.length < room) :
    Calls Try.prog 9 #[.pointer (some ⟨pb, 0, none⟩), .agg #[.int .i64 m.frm, .int .i64 m.dst, v]] w (SentOff bad 0 B pb room (L ++ [m]) w) := by
  obtain ⟨c, lv, ms, hp, hle, rfl, hoff⟩ := h
  have Hoff := Lib.hid hoff
  clear hoff
  rw [List.length_map] at hf
  obtain ⟨buf, s, r, hc, hn⟩ := hp.ch
  have hb := hp.blk
  have HE := Lib.hid (fun (o : Obj) => enter_yes pb c room s r lv buf (w.alloc o) (hb.next (below_alloc w o)) (((below_alloc w o).block c hp.clt).trans hc) (by omega))
  have HV := Lib.hid hv
  obtain ⟨a, cap, rfl, h1, h2, h3, h4⟩ := hv.open
  have HX := Lib.hid (Blk.new w #[.int .i64 m.frm, .int .i64 m.dst, .slice a m.body.length cap] 32)
  have d : decide (1048576 < (m.body.length : Int)) = false := by simp only [decide_eq_false_iff_not]; omega
  have HP := Lib.hid hp
  have Hn := Lib.hid hn
  have hpl := hb.lt
  clear h3 h4 hv hp hc hn hb
  go_enter Try.func9, Try.ntmps9
  go_wp2_with fail
  refine (HE.out _).mono ?_
  rintro e w1 ⟨rfl, hw1⟩
  have HQ := Lib.hid ((HP.out.below (below_alloc w (.cells #[.int .i64 m.frm, .int .i64 m.dst, .slice a m.body.length cap] 32))).chan (buf.push (.agg #[])) (s + 1) r)
  have HX1 : Hid (Blk w1 w.heap.size #[.int .i64 m.frm, .int .i64 m.dst, .slice a m.body.length cap] 32) := Lib.hid (by
    rw [hw1]
    exact (heap_setChan_other _ _ _ _ _ _ _ _ _ (by have := HP.out.clt; omega)).trans HX.out)
  have HS : Hid (Below w.heap.size w (w.alloc (.cells #[.int .i64 m.frm, .int .i64 m.dst, .slice a m.body.length cap] 32))) := Lib.hid (below_alloc w _)
  rw [← hw1] at HQ
  have HV1 : Hid (Rd8 w1 (.slice a m.body.length cap) m.body) := Lib.hid (by
    rw [hw1]
    obtain ⟨buf0, s0, r0, hc0, _⟩ := (HP.out.below (below_alloc w (.cells #[.int .i64 m.frm, .int .i64 m.dst, .slice a m.body.length cap] 32))).ch
    exact rd_chan (HV.out.below (below_alloc w _)) hc0)
  clear hw1
  have k0 : w1.cell? ⟨pb, 0, none⟩ = some (.chan (some c)) := HQ.out.1.blk.cell 0
  have k1 : w1.cell? ⟨pb, 1, none⟩ = some lv := HQ.out.1.blk.cell 1
  have f1 : w1.frozen? ⟨pb, 1, none⟩ = false := HQ.out.1.blk.free 1
  have x0 : w1.cell? ⟨w.heap.size, 0, none⟩ = some (.int .i64 m.frm) := HX1.out.cell 0
  have x1 : w1.cell? ⟨w.heap.size, 1, none⟩ = some (.int .i64 m.dst) := HX1.out.cell 1
  have x2 : w1.cell? ⟨w.heap.size, 2, none⟩ = some (.slice a m.body.length cap) := HX1.out.cell 2
  have hx1 := bel_refl w1
  have hpl1 := HQ.out.1.blk.lt
  have hxl1 := HX1.out.lt
  obtain ⟨_, la, lcap, rfl, _⟩ := HQ.out.1.own.rd
  have Hne : Hid ((Value.slice la ms.length lcap).ownBlock ≠ some w.heap.size) := Lib.hid (fun e => by have := HP.out.own.lt _ e; omega)
  have hB1 : B ≤ w1.heap.size := by have := HX1.out.lt; omega
  have HK : Hid (∀ w', Below w1.heap.size w1 w' → w'.cell? ⟨pb, 1, none⟩ = some (.slice la ms.length lcap) ∧ w'.cell? ⟨w.heap.size, 0, none⟩ = some (.int .i64 m.frm) ∧ w'.cell? ⟨w.heap.size, 1, none⟩ = some (.int .i64 m.dst) ∧ w'.cell? ⟨w.heap.size, 2, none⟩ = some (.slice a m.body.length cap)) := Lib.hid (fun w' h => by
    have q := HQ.out.1.blk.next h
    have r := HX1.out.next h
    exact ⟨q.cell 1, r.cell 0, r.cell 1, r.cell 2⟩)
  go_wp2_with fail
  go_region_law
    (first
      | (refine step_app (by rfl) _ _ 53 (by rfl) ok53 (by rfl) (by rfl) (HQ.out.1.own.below' (by repeat (first | assumption | apply bel_alloc | apply bel_drew))) (own_lit_at (g := _) 32 3 #[.int .i64 m.frm, .int .i64 m.dst, .slice ta m.body.length tcap] 1 (by simp [maxLen]) rfl (by simp)).rd (vals_one m _ rfl) (by simp only [maxLen]; have := HQ.out.1.le; omega) (by have := HQ.out.1.le; omega) ?_; intro v7 w7 ho7 hg7 hn7; obtain ⟨_, va, vcap, rfl, _⟩ := ho7.rd; have hB7 := push_blk HQ.out.1 (by repeat (first | assumption | apply bel_alloc | apply bel_drew)) hg7; have hX7 := push_box HX1.out (by repeat (first | assumption | apply bel_alloc | apply bel_drew)) hg7 Hne.out; have k7 : w7.cell? ⟨pb, 1, none⟩ = some (.slice la ms.length lcap) := hB7.cell 1; have f7 : w7.frozen? ⟨pb, 1, none⟩ = false := hB7.free 1; have x70 : w7.cell? ⟨w.heap.size, 0, none⟩ = some (.int .i64 m.frm) := hX7.cell 0; have x71 : w7.cell? ⟨w.heap.size, 1, none⟩ = some (.int .i64 m.dst) := hX7.cell 1; have x72 : w7.cell? ⟨w.heap.size, 2, none⟩ = some (.slice a m.body.length cap) := hX7.cell 2; have HF := Lib.hid (push_all HQ.out.1 hB1 (by repeat (first | assumption | apply bel_alloc | apply bel_drew)) m _ ho7 hg7 hn7 Htv.out (by simp; omega) (by have := bel_refl w3; repeat (first | assumption | apply bel_alloc | apply bel_drew)) hl); clear ho7 hg7 hn7 hB7 hX7)
      | (go_simp; go_at_call 22; refine (twin_any m.frm m.dst _ m.body _ (HV1.out.below (by repeat (first | assumption | apply bel_alloc | apply bel_drew))) (by omega)).mono ?_; intro e w3 h3; obtain ⟨tv, rfl, htv, hb3⟩ := h3; obtain ⟨ta, tcap, rfl, h31, h32, h33, h34⟩ := htv.rd.open; have hx3 : Below w1.heap.size w1 w3 := bel_trans (by repeat (first | assumption | apply bel_alloc | apply bel_drew)) hb3; have Htv := Lib.hid htv; have HTb : Hid ((Value.slice ta m.body.length tcap).ownBlock ≠ some bad) := Lib.hid (fun e => by have := htv.2 _ e; simp at this; omega); obtain ⟨k3, x30, x31, x32⟩ := HK.out _ hx3; have hpl3 : pb < w3.heap.size := Nat.lt_of_lt_of_le hpl1 hx3.size; have hxl3 : w.heap.size < w3.heap.size := Nat.lt_of_lt_of_le hxl1 hx3.size; clear htv hb3 h33 h34))
  all_goals (go_wp2_with fail)
  all_goals go_ret
  all_goals (exact ⟨rfl, post_snoc_off HF.out.1 (by rw [Array.size_push, Hn.out]) hf Hoff.out HTb.out, ((Calm.of HS.out).trans HQ.out.2.1).trans HF.out.2.1, ((HS.out.mono hB).trans HQ.out.2.2).trans HF.out.2.2⟩)
set_option maxRecDepth 100000 in
set_option maxHeartbeats 2000000 in
theorem take_box (B pb room : Nat) (l : List M) (i : Nat) (m : M) (w : World) (g : Nat) (cs : Array Value) (h : PostL g B w pb room l) (hg : Blk w g cs 32) (hB : B ≤ w.heap.size) (hi : l[i]? = some m) :
    Calls Try.prog 10 #[.pointer (some ⟨pb, 0, none⟩), .int .i64 i] w (fun e w' => TakenB g cs m B pb room (l.eraseIdx i) w e w') := by
  have H := Lib.hid h.at
  have Hi := Lib.hid hi
  obtain ⟨c, lv, ms, hp, hle, rfl, hgne⟩ := h
  have HG := Lib.hid hg
  have hgl := hg.lt
  have Hgne := Lib.hid hgne
  clear hg hgne
  have HP := Lib.hid hp
  have hilt : i < ms.length := by
    have := (List.getElem?_eq_some_iff.1 hi).1
    simpa using this
  have hpl := hp.blk.lt
  have hi63 : (i : Int) + 1 ≤ 9223372036854775807 := by
    have := hp.le; omega
  clear hi hp
  go_enter Try.func10, Try.ntmps10
  go_wp2_with fail
  refine (look_yes B pb room _ i m _ (H.out.below (below_alloc w _)) Hi.out).mono ?_
  intro e w1 h1
  obtain ⟨tv, rfl, htv, hb1⟩ := h1
  obtain ⟨ta, tcap, rfl, _⟩ := htv.rd.open
  have Htv := Lib.hid htv
  have HB1 := Lib.hid (bel_trans (below_alloc w _) hb1)
  have HP1 := Lib.hid (HP.out.below HB1.out)
  have HZ1 := Lib.hid ((Blk.new w #[.int .i64 0, .int .i64 0, .slice none 0 0] 32).next hb1)
  have k1 : w1.cell? ⟨pb, 1, none⟩ = some lv := HP1.out.blk.cell 1
  have hpl1 := HP1.out.blk.lt
  have hzl1 := HZ1.out.lt
  have HG1 := Lib.hid (HG.out.next HB1.out)
  clear htv hb1
  obtain ⟨_, la, lcap, rfl, _⟩ := HP1.out.own.rd
  go_wp2_with fail
  have HP2 := Lib.hid (HP1.out.below (below_alloc w1 (.cells #[.int .i64 m.frm, .int .i64 m.dst, .slice ta m.body.length tcap] 32)))
  have HX2 : Hid (Blk (w1.alloc (.cells #[.int .i64 m.frm, .int .i64 m.dst, .slice ta m.body.length tcap] 32)) w1.heap.size #[.int .i64 m.frm, .int .i64 m.dst, .slice ta m.body.length tcap] 32) := Lib.hid (Blk.new w1 _ 32)
  have HZ2 := Lib.hid (HZ1.out.next (below_alloc w1 (.cells #[.int .i64 m.frm, .int .i64 m.dst, .slice ta m.body.length tcap] 32)))
  have HB2 := Lib.hid (bel_alloc (o := .cells #[.int .i64 m.frm, .int .i64 m.dst, .slice ta m.body.length tcap] 32) HB1.out)
  have Htv2 := Lib.hid (Htv.out.below (below_alloc w1 (.cells #[.int .i64 m.frm, .int .i64 m.dst, .slice ta m.body.length tcap] 32)))
  have HG2 := Lib.hid (HG1.out.next (below_alloc w1 (.cells #[.int .i64 m.frm, .int .i64 m.dst, .slice ta m.body.length tcap] 32)))
  generalize (w1.alloc (.cells #[.int .i64 m.frm, .int .i64 m.dst, .slice ta m.body.length tcap] 32)) = w2 at *
  have hone : ∀ x ∈ ms, x.2.oneCell' = true := by
    intro x hx
    obtain ⟨a, cp, e, _⟩ := (HP2.out.bod x hx).1.rd.open
    rw [e]
    rfl
  refine (delete_any _ ms i w2 HP2.out.own hilt hone).mono ?_
  intro e w3 h3
  obtain ⟨v3, rfl, ho3, hg3, hob3⟩ := h3
  obtain ⟨_, va, vcap, rfl, _⟩ := ho3.rd
  have hle2 : ms.length - 1 = (ms.eraseIdx i).length := by rw [List.length_eraseIdx_of_lt hilt]
  have hB2 : B ≤ w2.heap.size := Nat.le_trans hB HB2.out.size
  have HPut := Lib.hid (HP2.out.put hB2 (ms.eraseIdx i) (by rw [← hle2]; exact ho3) hg3 (fun b hb => .inl (by rw [← hob3]; exact hb)) (fun x hx => HP2.out.bod x (List.mem_of_mem_eraseIdx hx)))
  have hB3 := HP2.out.blk.grown hg3 (own_no_blk HP2.out.own HP2.out.blk (by decide))
  have k3 : w3.cell? ⟨pb, 1, none⟩ = some (.slice la ms.length lcap) := hB3.cell 1
  have f3 : w3.frozen? ⟨pb, 1, none⟩ = false := hB3.free 1
  have hpl3 := hB3.lt
  have Hob : Hid (∀ g : Nat, w.heap.size ≤ g → (Value.slice la ms.length lcap).ownBlock ≠ some g) := Lib.hid (fun g hg e => by have := HP.out.own.lt g e; omega)
  have HXk := Lib.hid (fun buf s r => box_kept (lv' := Value.slice va (ms.length - 1) vcap) HP2.out HX2.out (Hob.out _ (by have := HB1.out.size; omega)) hg3 buf s r)
  have HZk := Lib.hid (fun buf s r => box_kept (lv' := Value.slice va (ms.length - 1) vcap) HP2.out HZ2.out (Hob.out _ (Nat.le_refl _)) hg3 buf s r)
  have Hle2 := Lib.hid hle2
  have Hob3 := Lib.hid hob3
  have HGk := Lib.hid (fun buf s r => box_kept (lv' := Value.slice va (ms.length - 1) vcap) HP2.out HG2.out Hgne.out hg3 buf s r)
  clear ho3 hg3 hob3 hB3 hone hle2
  go_upto_region 5 with (fail)
  generalize (w3.setCell ⟨pb, 1, none⟩ (Value.slice va (ms.length - 1) vcap)) = w4 at *
  obtain ⟨buf, s, r, hc4, hn4⟩ := HPut.out.1.ch
  have k40 : w4.cell? ⟨pb, 0, none⟩ = some (.chan (some c)) := HPut.out.1.blk.cell 0
  have HCh := Lib.hid (HPut.out.1.chan (buf.extract 1 buf.size) s (r + 1))
  have Hc4 := Lib.hid hc4
  have Hn4 := Lib.hid hn4
  have HX5 := Lib.hid (HXk.out (buf.extract 1 buf.size) s (r + 1))
  have HG5 := Lib.hid (HGk.out (buf.extract 1 buf.size) s (r + 1))
  have HZ5 := Lib.hid (HZk.out (buf.extract 1 buf.size) s (r + 1))
  clear hc4 hn4
  refine WpL.region ?_
  refine WpL.value rfl rfl (by simp [go_sem, execOp, Act.eval, Act.put]; exact ⟨rfl, rfl⟩) ?_
  refine WpL.value rfl rfl (by simp [go_sem, execOp, Act.eval, Act.put]; exact ⟨rfl, rfl⟩) ?_
  refine WpL.value rfl rfl (by simp [go_sem, execOp, Act.eval, Act.put]; exact ⟨rfl, rfl⟩) ?_
  refine WpL.value rfl rfl (by simp [go_sem, execOp, Act.eval, Act.put, k40]; exact ⟨rfl, rfl⟩) ?_
  refine WpL.comm (cases := #[rcase c (.agg #[])]) (blocking := true) (shape := .recv false) (w' := w4) rfl rfl (by simp [go_sem, execOp, rcase, Act.eval, Act.put]) (fun fr cs es h => step_lone_recv_buf false h Hc4.out (by rw [Hn4.out]; omega)) ?_
  refine WpL.nil ?_
  generalize (w4.setChan c room (buf.extract 1 buf.size) false s (r + 1) false) = w5 at *
  have x50 : w5.cell? ⟨w1.heap.size, 0, none⟩ = some (.int .i64 m.frm) := HX5.out.cell 0
  have x51 : w5.cell? ⟨w1.heap.size, 1, none⟩ = some (.int .i64 m.dst) := HX5.out.cell 1
  have x52 : w5.cell? ⟨w1.heap.size, 2, none⟩ = some (.slice ta m.body.length tcap) := HX5.out.cell 2
  have z50 : w5.cell? ⟨w.heap.size, 0, none⟩ = some (.int .i64 0) := HZ5.out.cell 0
  have z51 : w5.cell? ⟨w.heap.size, 1, none⟩ = some (.int .i64 0) := HZ5.out.cell 1
  have z52 : w5.cell? ⟨w.heap.size, 2, none⟩ = some (.slice none 0 0) := HZ5.out.cell 2
  have y50 := HZ5.out.free 0
  have y51 := HZ5.out.free 1
  have y52 := HZ5.out.free 2
  have hx5l := HX5.out.lt
  clear k40 k3 f3
  go_wp2_with fail
  refine bodyPost_ret (v := .tuple #[.agg #[.int .i64 m.frm, .int .i64 m.dst, .slice ta m.body.length tcap], .int .i64 0]) (by simp [results, Try.results10, go_sem, *]) rfl ⟨_, rfl, ?_, ?_, ?_, ?_, ?_⟩
  · have h2 : Mine8 5 (w.alloc (.cells #[.int .i64 0, .int .i64 0, .slice none 0 0] 32)) w5 (.slice ta m.body.length tcap) m.body := ⟨Own8.calm (Own8.calm Htv2.out.1 HPut.out.2.1) HCh.out.2.1, Htv2.out.2⟩
    exact (mine8_set (mine8_set (mine8_set h2 (p := ⟨w.heap.size, 0, none⟩) (by simp) _) (p := ⟨w.heap.size, 1, none⟩) (by simp) _) (p := ⟨w.heap.size, 2, none⟩) (by simp) _).since (by simp)
  · have hne : (Value.slice va (ms.length - 1) vcap).ownBlock ≠ some w.heap.size := by rw [Hob3.out]; exact Hob.out _ (Nat.le_refl _)
    obtain ⟨p1, q1⟩ := HCh.out.1.set HZ5.out hne 0 (.int .i64 m.frm)
    obtain ⟨p2, q2⟩ := p1.set q1 hne 1 (.int .i64 m.dst)
    obtain ⟨p3, _⟩ := p2.set q2 hne 2 (.slice ta m.body.length tcap)
    refine ⟨c, .slice va (ms.length - 1) vcap, ms.eraseIdx i, ?_, by rw [← Hle2.out]; omega, by simp [List.eraseIdx_eq_take_drop_succ, List.map_append, List.map_take, List.map_drop], by rw [Hob3.out]; exact Hgne.out⟩
    rw [← Hle2.out]
    have hsz : (buf.extract 1 buf.size).size = ms.length - 1 := by simp [Hn4.out]
    rw [hsz] at p3
    exact p3
  · exact calm_set (calm_set (calm_set (((Calm.of HB2.out).trans HPut.out.2.1).trans HCh.out.2.1) (Nat.le_refl _) _) (Nat.le_refl _) _) (Nat.le_refl _) _
  · exact ((((HB2.out.mono hB).trans HPut.out.2.2).trans HCh.out.2.2).setCell hB _).setCell hB _ |>.setCell hB _
  · exact ((HG5.out.other (p := ⟨w.heap.size, 0, none⟩) (by show g ≠ w.heap.size; omega) _).other (p := ⟨w.heap.size, 1, none⟩) (by show g ≠ w.heap.size; omega) _).other (p := ⟨w.heap.size, 2, none⟩) (by show g ≠ w.heap.size; omega) _
end Go.Proofs.Ytjhjbgdekpegdaa
