/- Send (9). -/
import Derived.Test.YtjhjbgdekpegdaaW3
import Derived.Deep.RegionLaw
namespace Go.Proofs.Ytjhjbgdekpegdaa
open Go.RowKit Go.Kt Go.Conc

theorem vals_one (m : M) (v : Value) (hv : v.oneCell' = true) : ∀ u ∈ m.vals v, u.oneCell' = true := by
  intro u hu
  simp only [M.vals, List.mem_cons, List.not_mem_nil, or_false] at hu
  rcases hu with rfl | rfl | rfl
  · rfl
  · rfl
  · exact hv
theorem PostIs.push {B : Nat} {w w' : World} {pb c : Nat} {lv lv' : Value} {room n : Nat} {ms : List (M × Value)} (h : PostIs B w pb c lv room n ms) (hz : B ≤ w.heap.size) (m : M) (bv : Value)
    (ho : Own 32 3 w' lv' (ms.length + 1) (mcells ms ++ m.vals bv)) (hg : w.grownBy w' lv.ownBlock) (hn : ∀ b, lv'.ownBlock = some b → lv.ownBlock = some b ∨ w.heap.size ≤ b)
    (hm : Own8 5 w bv m.body) (hmB : ∀ b, bv.ownBlock = some b → B ≤ b) (hlen : m.body.length ≤ 1048576) :
    PostIs B (w'.setCell ⟨pb, 1, none⟩ lv') pb c lv' room n (ms ++ [(m, bv)]) ∧ Calm w (w'.setCell ⟨pb, 1, none⟩ lv') ∧ Below B w (w'.setCell ⟨pb, 1, none⟩ lv') := by
  have k1 : ∀ (g : Nat) (o : Obj), w.heap[g]? = some o → (∀ cs k, o ≠ .cells cs 32 k) → w'.heap[g]? = some o := by
    intro g o hgo ho'
    rw [hg.block g (Array.getElem?_eq_some_iff.1 hgo).1 (fun e => by
      obtain ⟨cs, k, hb⟩ := own_block h.own e.symm
      rw [hgo] at hb
      injection hb with hb
      exact ho' cs k hb), hgo]
  have hblk' : Blk w' pb #[.chan (some c), lv] 57 := k1 pb _ h.blk (by simp)
  have k2 : ∀ (g : Nat) (o : Obj), w.heap[g]? = some o → (∀ cs k, o ≠ .cells cs 32 k) → (∀ cs k, o ≠ .cells cs 57 k) → (w'.setCell ⟨pb, 1, none⟩ lv').heap[g]? = some o := by
    intro g o hgo h1 h2
    rw [heap_setCell_other w' ⟨pb, 1, none⟩ g lv' (by
      rintro rfl
      have := h.blk
      unfold Blk at this
      rw [hgo] at this
      injection this with this
      exact h2 _ _ this)]
    exact k1 g o hgo h1
  have ko : ∀ {v : Value} {l : List UInt8}, Own8 5 w v l → Own8 5 (w'.setCell ⟨pb, 1, none⟩ lv') v l := fun hv => Own.keep hv fun b hb => by
    obtain ⟨cs, k, hgb⟩ := own_block hv hb
    rw [k2 b _ hgb (by simp) (by simp), hgb]
  have hpb' : ∀ b, lv'.ownBlock = some b → b ≠ pb := by
    intro b hb e
    obtain ⟨cs, k, hbb⟩ := own_block ho hb
    rw [e] at hbb
    unfold Blk at hblk'
    rw [hblk'] at hbb
    injection hbb with hbb
    injection hbb with _ hbb
    exact absurd hbb (by decide)
  refine ⟨⟨h.pbB, h.cB, ?_, ?_, ?_, fun b hb => (hn b hb).elim (h.lB b) (fun hh => Nat.le_trans hz hh), fun x hx => ?_, h.le⟩, ⟨?_, ?_⟩, ?_⟩
  · have := hblk'.set 1 lv'
    simpa using this
  · obtain ⟨buf, s, r, hc, hbn⟩ := h.ch
    exact ⟨buf, s, r, k2 c _ hc (by simp) (by simp), hbn⟩
  · have := own_set ho (p := ⟨pb, 1, none⟩) hpb' lv'
    rw [List.length_append, mcells_app]
    simpa [mcells] using this
  · rcases List.mem_append.1 hx with hx | hx
    · exact ⟨ko (h.bod x hx).1, (h.bod x hx).2⟩
    · simp at hx
      subst hx
      exact ⟨ko hm, hmB, hlen⟩
  · have := hg.size
    simpa using this
  · intro g o hgo hs
    exact k2 g o hgo (by rintro cs k rfl; cases hs) (by rintro cs k rfl; cases hs)
  · exact ((Below.refl B w).grown hg hz h.lB).setCell h.pbB lv'

theorem rd_chan {size n c cap s r cap' s' r' : Nat} {w : World} {v : Value} {xs : List Value} {buf buf' : Array Value} {cl tm cl' tm' : Bool} (h : RdRow size w v n xs) (hc : w.heap[c]? = some (.chan cap buf cl s r tm)) : RdRow size (w.setChan c cap' buf' cl' s' r' tm') v n xs := by
  obtain ⟨hl, a, cp, rfl, h1, h2, h3, h5⟩ := h
  refine ⟨hl, a, cp, rfl, h1, h2, h3, fun j u hj => ?_⟩
  obtain ⟨b, o, ha, hcell⟩ := h5 j u hj
  refine ⟨b, o, ha, ?_⟩
  have hne : c ≠ b := by
    rintro rfl
    simp [World.cell?, hc] at hcell
  rw [← hcell]
  exact World.cell?_of_block (heap_setChan_other w c b cap' buf' cl' s' r' tm' hne)
theorem own_lit_at {w : World} {g : Nat} (e : TypeId) (size : Nat) (cs : Array Value) (n : Nat) (hm : n ≤ maxLen) (hs : cs.size = n * size) (hg : g = w.heap.size) : Own e size (w.alloc (.cells cs e)) (.slice (some ⟨g, 0, none⟩) n n) n cs.toList := by
  subst hg; exact own_lit w e size cs n hm hs
theorem push_blk {B : Nat} {w w2 w' : World} {pb c : Nat} {lv : Value} {room n : Nat} {ms : List (M × Value)} (h : PostIs B w pb c lv room n ms) (hb : Below w.heap.size w w2) (hg : w2.grownBy w' lv.ownBlock) : Blk w' pb #[.chan (some c), lv] 57 :=
  (h.below hb).blk.grown hg (own_no_blk (h.below hb).own (h.below hb).blk (by decide))
theorem push_box {w w2 w' : World} {g : Nat} {cs : Array Value} {t : TypeId} {r : Option Nat} (h : Blk w g cs t) (hb : Below w.heap.size w w2) (hg : w2.grownBy w' r) (hne : r ≠ some g) : Blk w' g cs t := (h.next hb).grown hg hne
theorem push_all {B : Nat} {w w2 w3 wx w' : World} {pb c : Nat} {lv lv' : Value} {room n : Nat} {ms : List (M × Value)} (h : PostIs B w pb c lv room n ms) (hz : B ≤ w.heap.size) (hb : Below w.heap.size w w2) (m : M) (bv : Value)
    (ho : Own 32 3 w' lv' (ms.length + 1) (mcells ms ++ m.vals bv)) (hg : w2.grownBy w' lv.ownBlock) (hn : ∀ b, lv'.ownBlock = some b → lv.ownBlock = some b ∨ w2.heap.size ≤ b)
    (hm : Mine8 5 wx w3 bv m.body) (hx : B ≤ wx.heap.size) (hb3 : Below w3.heap.size w3 w2) (hlen : m.body.length ≤ 1048576) :
    PostIs B (w'.setCell ⟨pb, 1, none⟩ lv') pb c lv' room n (ms ++ [(m, bv)]) ∧ Calm w (w'.setCell ⟨pb, 1, none⟩ lv') ∧ Below B w (w'.setCell ⟨pb, 1, none⟩ lv') := by
  obtain ⟨h1, h2, h3⟩ := (h.below hb).push (Nat.le_trans hz hb.size) m bv ho hg hn (hm.1.below hb3) (fun b hb => Nat.le_trans hx (hm.2 b hb)) hlen
  exact ⟨h1, (Calm.of hb).trans h2, (hb.mono hz).trans h3⟩
theorem post_snoc {B : Nat} {w : World} {pb c : Nat} {lv : Value} {room k : Nat} {ms : List (M × Value)} {m : M} {bv : Value} (h : PostIs B w pb c lv room k (ms ++ [(m, bv)])) (hk : k = ms.length + 1) (hr : ms.length < room) : PostAt B w pb room (ms.map (·.1) ++ [m]) := by
  subst hk
  exact ⟨c, lv, ms ++ [(m, bv)], by simpa using h, by simp; omega, by simp⟩
def Sent (code : Int) (B pb room : Nat) (l : List M) (w : World) (e : Ending) (w' : World) : Prop := e = .returned (.int .i64 code) ∧ PostAt B w' pb room l ∧ Calm w w' ∧ Below B w w'
theorem send_nil (f t : Int) (v : Value) (l : List UInt8) (w : World) (hv : Rd8 w v l) : Calls Try.prog 9 #[.pointer none, .agg #[.int .i64 f, .int .i64 t, v]] w fun e w' => e = .returned (.int .i64 2) ∧ Below w.heap.size w w' := by
  obtain ⟨a, cap, rfl, h1, h2, h3, h4⟩ := hv.open
  clear h3 h4 hv
  go_enter Try.func9, Try.ntmps9
  go_wp2_with fail
  go_ret
  exact ⟨rfl, below_alloc w _⟩
set_option maxHeartbeats 1000000 in
theorem send_long (B pb room : Nat) (L : List M) (f t : Int) (v : Value) (l : List UInt8) (w : World) (h : PostAt B w pb room L) (hB : B ≤ w.heap.size) (hv : Rd8 w v l) (hl : 1048576 < l.length) :
    Calls Try.prog 9 #[.pointer (some ⟨pb, 0, none⟩), .agg #[.int .i64 f, .int .i64 t, v]] w (Sent 8 B pb room L w) := by
  have H := Lib.hid h
  obtain ⟨a, cap, rfl, h1, h2, h3, h4⟩ := hv.open
  have d : decide (1048576 < (l.length : Int)) = true := by simp only [decide_eq_true_eq]; omega
  clear h3 h4 hv h
  go_enter Try.func9, Try.ntmps9
  go_wp2_with fail
  go_ret
  exact ⟨rfl, H.out.below (below_alloc w _), Calm.of (below_alloc w _), (below_alloc w _).mono hB⟩
set_option maxHeartbeats 1000000 in
theorem send_full (B pb room : Nat) (L : List M) (f t : Int) (v : Value) (l : List UInt8) (w : World) (h : PostAt B w pb room L) (hB : B ≤ w.heap.size) (hv : Rd8 w v l) (hl : l.length ≤ 1048576) (hf : room ≤ L.length) :
    Calls Try.prog 9 #[.pointer (some ⟨pb, 0, none⟩), .agg #[.int .i64 f, .int .i64 t, v]] w (Sent 4 B pb room L w) := by
  have H := Lib.hid h
  obtain ⟨c, lv, ms, hp, hle, rfl⟩ := h
  rw [List.length_map] at hf
  obtain ⟨buf, s, r, hc, hn⟩ := hp.ch
  have hb := hp.blk
  have HE := Lib.hid (fun (o : Obj) => enter_no pb c room s r lv buf (w.alloc o) (hb.next (below_alloc w o)) (((below_alloc w o).block c hp.clt).trans hc) (by omega))
  obtain ⟨a, cap, rfl, h1, h2, h3, h4⟩ := hv.open
  have d : decide (1048576 < (l.length : Int)) = false := by simp only [decide_eq_false_iff_not]; omega
  clear h3 h4 hv hp hc hn hb
  go_enter Try.func9, Try.ntmps9
  go_wp2_with fail
  refine (HE.out _).mono ?_
  rintro e w1 ⟨rfl, rfl⟩
  go_wp2_with fail
  go_ret
  exact ⟨rfl, H.out.below (below_alloc w _), Calm.of (below_alloc w _), (below_alloc w _).mono hB⟩
set_option maxHeartbeats 2000000 in
theorem send_ok (B pb room : Nat) (L : List M) (m : M) (v : Value) (w : World) (h : PostAt B w pb room L) (hB : B ≤ w.heap.size) (hv : Rd8 w v m.body) (hl : m.body.length ≤ 1048576) (hf : L.length < room) :
    Calls Try.prog 9 #[.pointer (some ⟨pb, 0, none⟩), .agg #[.int .i64 m.frm, .int .i64 m.dst, v]] w (Sent 0 B pb room (L ++ [m]) w) := by
  obtain ⟨c, lv, ms, hp, hle, rfl⟩ := h
  rw [List.length_map] at hf
  obtain ⟨buf, s, r, hc, hn⟩ := hp.ch
  have hb := hp.blk
  have HE := Lib.hid (fun (o : Obj) => enter_yes pb c room s r lv buf (w.alloc o) (hb.next (below_alloc w o)) (((below_alloc w o).block c hp.clt).trans hc) (by omega))
  have HV := Lib.hid hv
  obtain ⟨a, cap, rfl, h1, h2, h3, h4⟩ := hv.open
  have HX := Lib.hid (Blk.new w #[.int .i64 m.frm, .int .i64 m.dst, .slice a m.body.length cap] 32)
  have d : decide (1048576 < (m.body.length : Int)) = false := by simp only [decide_eq_false_iff_not]; omega
  have HP := Lib.hid hp
  have Hn := Lib.hid hn
  have hpl := hb.lt
  clear h3 h4 hv hp hc hn hb
  go_enter Try.func9, Try.ntmps9
  go_wp2_with fail
  refine (HE.out _).mono ?_
  rintro e w1 ⟨rfl, hw1⟩
  have HQ := Lib.hid ((HP.out.below (below_alloc w (.cells #[.int .i64 m.frm, .int .i64 m.dst, .slice a m.body.length cap] 32))).chan (buf.push (.agg #[])) (s + 1) r)
  have HX1 : Hid (Blk w1 w.heap.size #[.int .i64 m.frm, .int .i64 m.dst, .slice a m.body.length cap] 32) := Lib.hid (by
    rw [hw1]
    exact (heap_setChan_other _ _ _ _ _ _ _ _ _ (by have := HP.out.clt; omega)).trans HX.out)
  have HS : Hid (Below w.heap.size w (w.alloc (.cells #[.int .i64 m.frm, .int .i64 m.dst, .slice a m.body.length cap] 32))) := Lib.hid (below_alloc w _)
  rw [← hw1] at HQ
  have HV1 : Hid (Rd8 w1 (.slice a m.body.length cap) m.body) := Lib.hid (by
    rw [hw1]
    obtain ⟨buf0, s0, r0, hc0, _⟩ := (HP.out.below (below_alloc w (.cells #[.int .i64 m.frm, .int .i64 m.dst, .slice a m.body.length cap] 32))).ch
    exact rd_chan (HV.out.below (below_alloc w _)) hc0)
  clear hw1
  have k0 : w1.cell? ⟨pb, 0, none⟩ = some (.chan (some c)) := HQ.out.1.blk.cell 0
  have k1 : w1.cell? ⟨pb, 1, none⟩ = some lv := HQ.out.1.blk.cell 1
  have f1 : w1.frozen? ⟨pb, 1, none⟩ = false := HQ.out.1.blk.free 1
  have x0 : w1.cell? ⟨w.heap.size, 0, none⟩ = some (.int .i64 m.frm) := HX1.out.cell 0
  have x1 : w1.cell? ⟨w.heap.size, 1, none⟩ = some (.int .i64 m.dst) := HX1.out.cell 1
  have x2 : w1.cell? ⟨w.heap.size, 2, none⟩ = some (.slice a m.body.length cap) := HX1.out.cell 2
  have hx1 := bel_refl w1
  have hpl1 := HQ.out.1.blk.lt
  have hxl1 := HX1.out.lt
  obtain ⟨_, la, lcap, rfl, _⟩ := HQ.out.1.own.rd
  have Hne : Hid ((Value.slice la ms.length lcap).ownBlock ≠ some w.heap.size) := Lib.hid (fun e => by have := HP.out.own.lt _ e; omega)
  have hB1 : B ≤ w1.heap.size := by have := HX1.out.lt; omega
  have HK : Hid (∀ w', Below w1.heap.size w1 w' → w'.cell? ⟨pb, 1, none⟩ = some (.slice la ms.length lcap) ∧ w'.cell? ⟨w.heap.size, 0, none⟩ = some (.int .i64 m.frm) ∧ w'.cell? ⟨w.heap.size, 1, none⟩ = some (.int .i64 m.dst) ∧ w'.cell? ⟨w.heap.size, 2, none⟩ = some (.slice a m.body.length cap)) := Lib.hid (fun w' h => by
    have q := HQ.out.1.blk.next h
    have r := HX1.out.next h
    exact ⟨q.cell 1, r.cell 0, r.cell 1, r.cell 2⟩)
  go_wp2_with fail
  go_region_law
    (first
      | (refine step_app (by rfl) _ _ 53 (by rfl) ok53 (by rfl) (by rfl) (HQ.out.1.own.below' (by repeat (first | assumption | apply bel_alloc | apply bel_drew))) (own_lit_at (g := _) 32 3 #[.int .i64 m.frm, .int .i64 m.dst, .slice ta m.body.length tcap] 1 (by simp [maxLen]) rfl (by simp)).rd (vals_one m _ rfl) (by simp only [maxLen]; have := HQ.out.1.le; omega) (by have := HQ.out.1.le; omega) ?_; intro v7 w7 ho7 hg7 hn7; obtain ⟨_, va, vcap, rfl, _⟩ := ho7.rd; have hB7 := push_blk HQ.out.1 (by repeat (first | assumption | apply bel_alloc | apply bel_drew)) hg7; have hX7 := push_box HX1.out (by repeat (first | assumption | apply bel_alloc | apply bel_drew)) hg7 Hne.out; have k7 : w7.cell? ⟨pb, 1, none⟩ = some (.slice la ms.length lcap) := hB7.cell 1; have f7 : w7.frozen? ⟨pb, 1, none⟩ = false := hB7.free 1; have x70 : w7.cell? ⟨w.heap.size, 0, none⟩ = some (.int .i64 m.frm) := hX7.cell 0; have x71 : w7.cell? ⟨w.heap.size, 1, none⟩ = some (.int .i64 m.dst) := hX7.cell 1; have x72 : w7.cell? ⟨w.heap.size, 2, none⟩ = some (.slice a m.body.length cap) := hX7.cell 2; have HF := Lib.hid (push_all HQ.out.1 hB1 (by repeat (first | assumption | apply bel_alloc | apply bel_drew)) m _ ho7 hg7 hn7 Htv.out (by simp; omega) (by have := bel_refl w3; repeat (first | assumption | apply bel_alloc | apply bel_drew)) hl); clear ho7 hg7 hn7 hB7 hX7)
      | (go_simp; go_at_call 22; refine (twin_any m.frm m.dst _ m.body _ (HV1.out.below (by repeat (first | assumption | apply bel_alloc | apply bel_drew))) (by omega)).mono ?_; intro e w3 h3; obtain ⟨tv, rfl, htv, hb3⟩ := h3; obtain ⟨ta, tcap, rfl, h31, h32, h33, h34⟩ := htv.rd.open; have hx3 : Below w1.heap.size w1 w3 := bel_trans (by repeat (first | assumption | apply bel_alloc | apply bel_drew)) hb3; have Htv := Lib.hid htv; obtain ⟨k3, x30, x31, x32⟩ := HK.out _ hx3; have hpl3 : pb < w3.heap.size := Nat.lt_of_lt_of_le hpl1 hx3.size; have hxl3 : w.heap.size < w3.heap.size := Nat.lt_of_lt_of_le hxl1 hx3.size; clear htv hb3 h33 h34))
  all_goals (go_wp2_with fail)
  all_goals go_ret
  all_goals (exact ⟨rfl, post_snoc HF.out.1 (by rw [Array.size_push, Hn.out]) hf, ((Calm.of HS.out).trans HQ.out.2.1).trans HF.out.2.1, ((HS.out.mono hB).trans HQ.out.2.2).trans HF.out.2.2⟩)
end Go.Proofs.Ytjhjbgdekpegdaa
