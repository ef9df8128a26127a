/- Look (15), Copy (18). -/
import Derived.Test.YtjhjbgdekpegdaaW4
namespace Go.Proofs.Ytjhjbgdekpegdaa
open Go.RowKit Go.Kt Go.Conc

def Looked (m : M) (w : World) (e : Ending) (w' : World) : Prop :=
  ∃ v, e = .returned (.tuple #[.agg #[.int .i64 m.frm, .int .i64 m.dst, v], .int .i64 0]) ∧ Mine8 5 w w' v m.body ∧ Below w.heap.size w w'
def noMsg (c : Int) : Value := .tuple #[.agg #[.int .i64 0, .int .i64 0, .slice none 0 0], .int .i64 c]
theorem look_nil (i : Int) (w : World) : Calls Try.prog 15 #[.pointer none, .int .i64 i] w fun e w' => e = .returned (noMsg 2) ∧ Below w.heap.size w w' := by
  go_enter Try.func15, Try.ntmps15
  go_wp2_with fail
  exact bodyPost_ret (v := noMsg 2) (by simp [results, Try.results15, go_sem, noMsg]) rfl ⟨rfl, below_alloc w _⟩
set_option maxHeartbeats 1000000 in
theorem look_no (B pb room : Nat) (l : List M) (i : Int) (w : World) (h : PostAt B w pb room l) (hi : i < 0 ∨ (l.length : Int) ≤ i) :
    Calls Try.prog 15 #[.pointer (some ⟨pb, 0, none⟩), .int .i64 i] w fun e w' => e = .returned (noMsg 1) ∧ Below w.heap.size w w' := by
  obtain ⟨c, lv, ms, hp, hle, rfl⟩ := h
  rw [List.length_map] at hi
  have k1 : w.cell? ⟨pb, 1, none⟩ = some lv := hp.blk.cell 1
  have hpl := hp.blk.lt
  obtain ⟨_, a, cap, rfl, _⟩ := hp.own.rd
  clear hp
  by_cases h1 : i < 0
  · clear hi
    go_enter Try.func15, Try.ntmps15
    go_wp2_with fail
    exact bodyPost_ret (v := noMsg 1) (by simp [results, Try.results15, go_sem, noMsg]) rfl ⟨rfl, below_alloc w _⟩
  · have h2 : (ms.length : Int) ≤ i := by omega
    have d1 : decide (i < 0) = false := by simp only [decide_eq_false_iff_not]; omega
    have d2 : decide ((ms.length : Int) ≤ i) = true := by simp only [decide_eq_true_eq]; omega
    clear hi
    go_enter Try.func15, Try.ntmps15
    go_wp2_with fail
    exact bodyPost_ret (v := noMsg 1) (by simp [results, Try.results15, go_sem, noMsg]) rfl ⟨rfl, below_alloc w _⟩
theorem PostIs.msg {B : Nat} {w : World} {pb c : Nat} {lv : Value} {room n : Nat} {ms : List (M × Value)} (h : PostIs B w pb c lv room n ms) {i : Nat} {m : M} (hi : (ms.map (·.1))[i]? = some m) :
    ∃ g cap bv, lv = .slice (some ⟨g, 0, none⟩) ms.length cap ∧ w.cell? ⟨g, i * 3, none⟩ = some (.int .i64 m.frm) ∧ w.cell? ⟨g, i * 3 + 1, none⟩ = some (.int .i64 m.dst) ∧ w.cell? ⟨g, i * 3 + 2, none⟩ = some bv ∧ Rd8 w bv m.body ∧ i < ms.length ∧ m.body.length ≤ 1048576 := by
  rw [List.getElem?_map] at hi
  obtain ⟨x, hx, rfl⟩ := Option.map_eq_some_iff.1 hi
  have hlt := (List.getElem?_eq_some_iff.1 hx).1
  have hown := h.own
  have hb := h.bod x (List.mem_of_getElem? hx)
  rcases hown.2 with ⟨rfl, h0⟩ | ⟨g, cap, cur, rfl, _, hg, hn, hm, hcs, ht⟩
  · omega
  · refine ⟨g, cap, x.2, rfl, ?_, ?_, ?_, hb.1.rd, hlt, hb.2.2⟩
    · rw [hown.cellAt (i * 3) (by omega), show i * 3 = i * 3 + 0 from rfl, mcells_get ms i 0 x hx (by omega)]; rfl
    · rw [hown.cellAt (i * 3 + 1) (by omega), mcells_get ms i 1 x hx (by omega)]; rfl
    · rw [hown.cellAt (i * 3 + 2) (by omega), mcells_get ms i 2 x hx (by omega)]; rfl
set_option maxHeartbeats 1000000 in
theorem look_yes (B pb room : Nat) (l : List M) (i : Nat) (m : M) (w : World) (h : PostAt B w pb room l) (hi : l[i]? = some m) :
    Calls Try.prog 15 #[.pointer (some ⟨pb, 0, none⟩), .int .i64 i] w (Looked m w) := by
  obtain ⟨c, lv, ms, hp, hle, rfl⟩ := h
  have k1 : w.cell? ⟨pb, 1, none⟩ = some lv := hp.blk.cell 1
  have hpl := hp.blk.lt
  obtain ⟨g, cap, bv, rfl, c0, c1, c2, hrd, hlt, hbl⟩ := hp.msg hi
  have hgl := World.block_lt_of_cell? w _ c0
  obtain ⟨a, bcap, rfl, _⟩ := hrd.open
  have HR := Lib.hid hrd
  have HZ : Hid (Blk (w.alloc (.cells #[.int .i64 0, .int .i64 0, .slice none 0 0] 32)) w.heap.size #[.int .i64 0, .int .i64 0, .slice none 0 0] 32) := Lib.hid (Blk.new w _ 32)
  have d1 : decide ((i : Int) < 0) = false := by simp only [decide_eq_false_iff_not]; omega
  have d2 : decide ((ms.length : Int) ≤ (i : Int)) = false := by simp only [decide_eq_false_iff_not]; omega
  clear hp hrd hi
  go_enter Try.func15, Try.ntmps15
  go_wp2_with fail
  refine (twin_any m.frm m.dst _ m.body _ (HR.out.below (below_alloc w _)) (by omega)).mono ?_
  intro e w1 h1
  obtain ⟨tv, rfl, htv, hb1⟩ := h1
  obtain ⟨ta, tcap, rfl, _⟩ := htv.rd.open
  have hz := HZ.out.next hb1
  have z0 : w1.cell? ⟨w.heap.size, 0, none⟩ = some (.int .i64 0) := hz.cell 0
  have z1 : w1.cell? ⟨w.heap.size, 1, none⟩ = some (.int .i64 0) := hz.cell 1
  have z2 : w1.cell? ⟨w.heap.size, 2, none⟩ = some (.slice none 0 0) := hz.cell 2
  have y0 := hz.free 0
  have y1 := hz.free 1
  have y2 := hz.free 2
  have Htv := Lib.hid htv
  have HB1 := Lib.hid (bel_trans (below_alloc w _) hb1)
  clear htv hb1 hz
  go_wp2_with fail
  refine bodyPost_ret (v := .tuple #[.agg #[.int .i64 m.frm, .int .i64 m.dst, .slice ta m.body.length tcap], .int .i64 0]) (by simp [results, Try.results15, go_sem, *]) rfl ⟨_, rfl, ?_, bel_set (bel_set (bel_set HB1.out (Nat.le_refl _)) (Nat.le_refl _)) (Nat.le_refl _)⟩
  exact (mine8_set (mine8_set (mine8_set Htv.out (p := ⟨w.heap.size, 0, none⟩) (by simp) _) (p := ⟨w.heap.size, 1, none⟩) (by simp) _) (p := ⟨w.heap.size, 2, none⟩) (by simp) _).since (by simp)
theorem copy_nil (i : Int) (w : World) : Calls Try.prog 18 #[.pointer none, .int .i64 i] w fun e w' => e = .returned (.int .i64 2) ∧ Below w.heap.size w w' := by
  go_enter Try.func18, Try.ntmps18
  go_wp2_with fail
  refine (look_nil i _).mono ?_
  unfold noMsg
  rintro e w1 ⟨rfl, hb⟩
  have Hb := Lib.hid hb
  clear hb
  go_wp2_with fail
  go_ret
  exact ⟨rfl, bel_alloc Hb.out⟩
set_option maxHeartbeats 1000000 in
theorem copy_no (B pb room : Nat) (l : List M) (i : Int) (w : World) (h : PostAt B w pb room l) (hB : B ≤ w.heap.size) (hi : i < 0 ∨ (l.length : Int) ≤ i) :
    Calls Try.prog 18 #[.pointer (some ⟨pb, 0, none⟩), .int .i64 i] w (Sent 1 B pb room l w) := by
  have H := Lib.hid h
  clear h
  go_enter Try.func18, Try.ntmps18
  go_wp2_with fail
  refine (look_no B pb room l i _ H.out hi).mono ?_
  unfold noMsg
  rintro e w1 ⟨rfl, hb⟩
  have Hb := Lib.hid (hb : Below w.heap.size w w1)
  clear hb
  go_wp2_with fail
  go_ret
  have hb := bel_alloc (o := .cells #[.int .i64 0, .int .i64 0, .slice none 0 0] 32) Hb.out
  exact ⟨rfl, H.out.below hb, Calm.of hb, hb.mono hB⟩
set_option maxHeartbeats 1000000 in
theorem copy_yes (B pb room : Nat) (l : List M) (i : Nat) (m : M) (w : World) (h : PostAt B w pb room l) (hB : B ≤ w.heap.size) (hi : l[i]? = some m) :
    Calls Try.prog 18 #[.pointer (some ⟨pb, 0, none⟩), .int .i64 i] w (if l.length < room then Sent 0 B pb room (l ++ [m]) w else Sent 4 B pb room l w) := by
  have H := Lib.hid h
  have hml : m.body.length ≤ 1048576 := by
    obtain ⟨c, lv, ms, hp, hle, rfl⟩ := h
    obtain ⟨g, cap, bv, rfl, c0, c1, c2, hrd, hlt, hbl⟩ := hp.msg hi
    exact hbl
  have Hi := Lib.hid hi
  have key : ∀ (tv : Value) (w1 : World), Below w.heap.size w w1 → Rd8 w1 tv m.body → Calls Try.prog 9 #[.pointer (some ⟨pb, 0, none⟩), .agg #[.int .i64 m.frm, .int .i64 m.dst, tv]] w1 (fun e w' => ∃ code, e = .returned (.int .i64 code) ∧ (if l.length < room then Sent 0 B pb room (l ++ [m]) w else Sent 4 B pb room l w) e w') := by
    intro tv w1 hb hr
    have hB1 : B ≤ w1.heap.size := Nat.le_trans hB hb.size
    by_cases hlt : l.length < room
    · rw [if_pos hlt]
      exact (send_ok B pb room l m tv w1 (H.out.below hb) hB1 hr hml hlt).mono fun e w' h => ⟨_, h.1, h.1, h.2.1, (Calm.of hb).trans h.2.2.1, (hb.mono hB).trans h.2.2.2⟩
    · rw [if_neg hlt]
      exact (send_full B pb room l m.frm m.dst tv m.body w1 (H.out.below hb) hB1 hr hml (by omega)).mono fun e w' h => ⟨_, h.1, h.1, h.2.1, (Calm.of hb).trans h.2.2.1, (hb.mono hB).trans h.2.2.2⟩
  have HKey := Lib.hid key
  clear h hi key
  generalize (if l.length < room then Sent 0 B pb room (l ++ [m]) w else Sent 4 B pb room l w) = R at *
  go_enter Try.func18, Try.ntmps18
  go_wp2_with fail
  refine (look_yes B pb room l i m _ H.out Hi.out).mono ?_
  intro e w1 h1
  obtain ⟨tv, rfl, htv, hb1⟩ := h1
  obtain ⟨ta, tcap, rfl, _⟩ := htv.rd.open
  have Htv := Lib.hid htv.rd
  have HB1 := Lib.hid hb1
  clear htv hb1
  go_wp2_with fail
  refine (HKey.out _ _ (bel_alloc HB1.out) (Htv.out.below (below_alloc w1 _))).mono ?_
  rintro e w2 ⟨code, rfl, h2⟩
  have H2 := Lib.hid h2
  clear h2
  go_wp2_with fail
  exact H2.out
end Go.Proofs.Ytjhjbgdekpegdaa
