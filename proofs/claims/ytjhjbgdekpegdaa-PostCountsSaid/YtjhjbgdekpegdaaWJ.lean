/- Send and Copy once more: a box of the caller's stands. -/
import Derived.Test.YtjhjbgdekpegdaaWI
import Derived.Deep.RegionLaw
namespace Go.Proofs.Ytjhjbgdekpegdaa
open Go.RowKit Go.Kt Go.Conc
def SentB (g : Nat) (cs : Array Value) (code : Int) (B pb room : Nat) (l : List M) (w : World) (e : Ending) (w' : World) : Prop := e = .returned (.int .i64 code) ∧ PostAt B w' pb room l ∧ Calm w w' ∧ Below B w w' ∧ Blk w' g cs 32
set_option maxHeartbeats 2000000 in
theorem send_box (g : Nat) (cs : Array Value) (B pb room : Nat) (L : List M) (m : M) (v : Value) (w : World) (h : PostL g B w pb room L) (hg : Blk w g cs 32) (hB : B ≤ w.heap.size) (hv : Rd8 w v m.body) (hl : m.body.length ≤ 1048576) (hf : L.length < room) :
    Calls Try.prog 9 #[.pointer (some ⟨pb, 0, none⟩), .agg #[.int .i64 m.frm, .int .i64 m.dst, v]] w (SentB g cs 0 B pb room (L ++ [m]) w) := by
  obtain ⟨c, lv, ms, hp, hle, rfl, hgne⟩ := h
  have Hgne := Lib.hid hgne
  have HG := Lib.hid hg
  have Hgp : Hid (g ≠ pb) := Lib.hid (by
    rintro rfl
    have := hp.blk
    unfold Blk at this hg
    rw [hg] at this
    injection this with this
    injection this with _ this
    exact absurd this (by decide))
  rw [List.length_map] at hf
  obtain ⟨buf, s, r, hc, hn⟩ := hp.ch
  have hb := hp.blk
  have Hcg := Lib.hid (no_chan hg hc)
  clear hg hgne
  have HE := Lib.hid (fun (o : Obj) => enter_yes pb c room s r lv buf (w.alloc o) (hb.next (below_alloc w o)) (((below_alloc w o).block c hp.clt).trans hc) (by omega))
  have HV := Lib.hid hv
  obtain ⟨a, cap, rfl, h1, h2, h3, h4⟩ := hv.open
  have HX := Lib.hid (Blk.new w #[.int .i64 m.frm, .int .i64 m.dst, .slice a m.body.length cap] 32)
  have d : decide (1048576 < (m.body.length : Int)) = false := by simp only [decide_eq_false_iff_not]; omega
  have HP := Lib.hid hp
  have Hn := Lib.hid hn
  have hpl := hb.lt
  clear h3 h4 hv hp hc hn hb
  go_enter Try.func9, Try.ntmps9
  go_wp2_with fail
  refine (HE.out _).mono ?_
  rintro e w1 ⟨rfl, hw1⟩
  have HQ := Lib.hid ((HP.out.below (below_alloc w (.cells #[.int .i64 m.frm, .int .i64 m.dst, .slice a m.body.length cap] 32))).chan (buf.push (.agg #[])) (s + 1) r)
  have HX1 : Hid (Blk w1 w.heap.size #[.int .i64 m.frm, .int .i64 m.dst, .slice a m.body.length cap] 32) := Lib.hid (by
    rw [hw1]
    exact (heap_setChan_other _ _ _ _ _ _ _ _ _ (by have := HP.out.clt; omega)).trans HX.out)
  have HS : Hid (Below w.heap.size w (w.alloc (.cells #[.int .i64 m.frm, .int .i64 m.dst, .slice a m.body.length cap] 32))) := Lib.hid (below_alloc w _)
  have HG1 : Hid (Blk w1 g cs 32) := Lib.hid (by
    rw [hw1]
    exact (heap_setChan_other _ _ _ _ _ _ _ _ _ Hcg.out).trans (HG.out.next (below_alloc w _)))
  rw [← hw1] at HQ
  have HV1 : Hid (Rd8 w1 (.slice a m.body.length cap) m.body) := Lib.hid (by
    rw [hw1]
    obtain ⟨buf0, s0, r0, hc0, _⟩ := (HP.out.below (below_alloc w (.cells #[.int .i64 m.frm, .int .i64 m.dst, .slice a m.body.length cap] 32))).ch
    exact rd_chan (HV.out.below (below_alloc w _)) hc0)
  clear hw1
  have k0 : w1.cell? ⟨pb, 0, none⟩ = some (.chan (some c)) := HQ.out.1.blk.cell 0
  have k1 : w1.cell? ⟨pb, 1, none⟩ = some lv := HQ.out.1.blk.cell 1
  have f1 : w1.frozen? ⟨pb, 1, none⟩ = false := HQ.out.1.blk.free 1
  have x0 : w1.cell? ⟨w.heap.size, 0, none⟩ = some (.int .i64 m.frm) := HX1.out.cell 0
  have x1 : w1.cell? ⟨w.heap.size, 1, none⟩ = some (.int .i64 m.dst) := HX1.out.cell 1
  have x2 : w1.cell? ⟨w.heap.size, 2, none⟩ = some (.slice a m.body.length cap) := HX1.out.cell 2
  have hx1 := bel_refl w1
  have hpl1 := HQ.out.1.blk.lt
  have hxl1 := HX1.out.lt
  obtain ⟨_, la, lcap, rfl, _⟩ := HQ.out.1.own.rd
  have Hne : Hid ((Value.slice la ms.length lcap).ownBlock ≠ some w.heap.size) := Lib.hid (fun e => by have := HP.out.own.lt _ e; omega)
  have hB1 : B ≤ w1.heap.size := by have := HX1.out.lt; omega
  have HK : Hid (∀ w', Below w1.heap.size w1 w' → w'.cell? ⟨pb, 1, none⟩ = some (.slice la ms.length lcap) ∧ w'.cell? ⟨w.heap.size, 0, none⟩ = some (.int .i64 m.frm) ∧ w'.cell? ⟨w.heap.size, 1, none⟩ = some (.int .i64 m.dst) ∧ w'.cell? ⟨w.heap.size, 2, none⟩ = some (.slice a m.body.length cap)) := Lib.hid (fun w' h => by
    have q := HQ.out.1.blk.next h
    have r := HX1.out.next h
    exact ⟨q.cell 1, r.cell 0, r.cell 1, r.cell 2⟩)
  go_wp2_with fail
  go_region_law
    (first
      | (refine step_app (by rfl) _ _ 53 (by rfl) ok53 (by rfl) (by rfl) (HQ.out.1.own.below' (by repeat (first | assumption | apply bel_alloc | apply bel_drew))) (own_lit_at (g := _) 32 3 #[.int .i64 m.frm, .int .i64 m.dst, .slice ta m.body.length tcap] 1 (by simp [maxLen]) rfl (by simp)).rd (vals_one m _ rfl) (by simp only [maxLen]; have := HQ.out.1.le; omega) (by have := HQ.out.1.le; omega) ?_; intro v7 w7 ho7 hg7 hn7; obtain ⟨_, va, vcap, rfl, _⟩ := ho7.rd; have hB7 := push_blk HQ.out.1 (by repeat (first | assumption | apply bel_alloc | apply bel_drew)) hg7; have HG7 := Lib.hid (push_box HG1.out (by repeat (first | assumption | apply bel_alloc | apply bel_drew)) hg7 Hgne.out); have hX7 := push_box HX1.out (by repeat (first | assumption | apply bel_alloc | apply bel_drew)) hg7 Hne.out; have k7 : w7.cell? ⟨pb, 1, none⟩ = some (.slice la ms.length lcap) := hB7.cell 1; have f7 : w7.frozen? ⟨pb, 1, none⟩ = false := hB7.free 1; have x70 : w7.cell? ⟨w.heap.size, 0, none⟩ = some (.int .i64 m.frm) := hX7.cell 0; have x71 : w7.cell? ⟨w.heap.size, 1, none⟩ = some (.int .i64 m.dst) := hX7.cell 1; have x72 : w7.cell? ⟨w.heap.size, 2, none⟩ = some (.slice a m.body.length cap) := hX7.cell 2; have HF := Lib.hid (push_all HQ.out.1 hB1 (by repeat (first | assumption | apply bel_alloc | apply bel_drew)) m _ ho7 hg7 hn7 Htv.out (by simp; omega) (by have := bel_refl w3; repeat (first | assumption | apply bel_alloc | apply bel_drew)) hl); clear ho7 hg7 hn7 hB7 hX7)
      | (go_simp; go_at_call 22; refine (twin_any m.frm m.dst _ m.body _ (HV1.out.below (by repeat (first | assumption | apply bel_alloc | apply bel_drew))) (by omega)).mono ?_; intro e w3 h3; obtain ⟨tv, rfl, htv, hb3⟩ := h3; obtain ⟨ta, tcap, rfl, h31, h32, h33, h34⟩ := htv.rd.open; have hx3 : Below w1.heap.size w1 w3 := bel_trans (by repeat (first | assumption | apply bel_alloc | apply bel_drew)) hb3; have Htv := Lib.hid htv; obtain ⟨k3, x30, x31, x32⟩ := HK.out _ hx3; have hpl3 : pb < w3.heap.size := Nat.lt_of_lt_of_le hpl1 hx3.size; have hxl3 : w.heap.size < w3.heap.size := Nat.lt_of_lt_of_le hxl1 hx3.size; clear htv hb3 h33 h34))
  all_goals (go_wp2_with fail)
  all_goals go_ret
  all_goals (exact ⟨rfl, post_snoc HF.out.1 (by rw [Array.size_push, Hn.out]) hf, ((Calm.of HS.out).trans HQ.out.2.1).trans HF.out.2.1, ((HS.out.mono hB).trans HQ.out.2.2).trans HF.out.2.2, HG7.out.other (p := ⟨pb, 1, none⟩) Hgp.out _⟩)
set_option maxHeartbeats 1000000 in
theorem copy_box (g : Nat) (cs : Array Value) (B pb room : Nat) (l : List M) (i : Nat) (m : M) (w : World) (h : PostL g B w pb room l) (hg : Blk w g cs 32) (hB : B ≤ w.heap.size) (hi : l[i]? = some m) (hlt : l.length < room) :
    Calls Try.prog 18 #[.pointer (some ⟨pb, 0, none⟩), .int .i64 i] w (SentB g cs 0 B pb room (l ++ [m]) w) := by
  have H := Lib.hid h
  have HG := Lib.hid hg
  have hml : m.body.length ≤ 1048576 := h.at.short hi
  have Hi := Lib.hid hi
  clear h hi hg
  go_enter Try.func18, Try.ntmps18
  go_wp2_with fail
  refine (look_yes B pb room l i m _ H.out.at Hi.out).mono ?_
  intro e w1 h1
  obtain ⟨tv, rfl, htv, hb1⟩ := h1
  obtain ⟨ta, tcap, rfl, _⟩ := htv.rd.open
  have Htv := Lib.hid htv.rd
  have HB1 := Lib.hid hb1
  clear htv hb1
  go_wp2_with fail
  have hb2 := bel_alloc (o := .cells #[.int .i64 m.frm, .int .i64 m.dst, .slice ta m.body.length tcap] 32) HB1.out
  have Hb2 := Lib.hid hb2
  refine (send_box g cs B pb room l m _ _ (H.out.below hb2) (HG.out.next hb2) (Nat.le_trans hB hb2.size) (Htv.out.below (below_alloc w1 _)) hml hlt).mono ?_
  rintro e w2 ⟨rfl, hp2, hc2, hbl2, hg2⟩
  have HA : Hid (PostAt B w2 pb room (l ++ [m]) ∧ Calm w w2 ∧ Below B w w2 ∧ Blk w2 g cs 32) := Lib.hid ⟨hp2, (Calm.of Hb2.out).trans hc2, (Hb2.out.mono hB).trans hbl2, hg2⟩
  clear hp2 hc2 hbl2 hg2 hb2
  go_wp2_with fail
  go_ret
  exact ⟨rfl, HA.out⟩
end Go.Proofs.Ytjhjbgdekpegdaa
