/- The document's post: Send (14), Has (16), Without (17). -/
import Derived.Test.YtjhjbgdekpegdaaWA
namespace Go.Proofs.Ytjhjbgdekpegdaa
open Go.RowKit Go.Kt Go.Conc

/-- the document's list of messages in memory -/
structure RefIs (w : World) (lv : Value) (ms : List (M × Value)) : Prop where
  own : Own 30 3 w lv ms.length (mcells ms)
  bod : ∀ x ∈ ms, Own8 5 w x.2 x.1.body
def RefAt (w : World) (lv : Value) (l : List M) : Prop := ∃ ms, RefIs w lv ms ∧ ms.map (·.1) = l
theorem RefIs.below {w w' : World} {lv : Value} {ms : List (M × Value)} (h : RefIs w lv ms) (hb : Below w.heap.size w w') : RefIs w' lv ms := ⟨h.own.below' hb, fun x hx => (h.bod x hx).below hb⟩
theorem RefAt.below {w w' : World} {lv : Value} {l : List M} (h : RefAt w lv l) (hb : Below w.heap.size w w') : RefAt w' lv l := by
  obtain ⟨ms, h1, h2⟩ := h
  exact ⟨ms, h1.below hb, h2⟩
theorem RefAt.calm {w w' : World} {lv : Value} {l : List M} (h : RefAt w lv l) (hc : Calm w w') : RefAt w' lv l := by
  obtain ⟨ms, h1, h2⟩ := h
  exact ⟨ms, ⟨Own.calm h1.own hc (by decide) (by decide), fun x hx => Own8.calm (h1.bod x hx) hc⟩, h2⟩
theorem RefAt.form {w : World} {lv : Value} {l : List M} (h : RefAt w lv l) : ∃ a cap, lv = .slice a l.length cap := by
  obtain ⟨ms, h1, rfl⟩ := h
  obtain ⟨_, a, cap, rfl, _⟩ := h1.own.rd
  exact ⟨a, cap, by rw [List.length_map]⟩
theorem RefIs.msg {w : World} {lv : Value} {ms : List (M × Value)} (h : RefIs w lv ms) {i : Nat} {x : M × Value} (hx : ms[i]? = some x) :
    ∃ g cap, lv = .slice (some ⟨g, 0, none⟩) ms.length cap ∧ w.cell? ⟨g, i * 3, none⟩ = some (.int .i64 x.1.frm) ∧ w.cell? ⟨g, i * 3 + 1, none⟩ = some (.int .i64 x.1.dst) ∧ w.cell? ⟨g, i * 3 + 2, none⟩ = some x.2 := by
  have hlt := (List.getElem?_eq_some_iff.1 hx).1
  have hown := h.own
  rcases hown.2 with ⟨rfl, h0⟩ | ⟨g, cap, cur, rfl, _, hg, hn, hm, hcs, ht⟩
  · omega
  · refine ⟨g, cap, rfl, ?_, ?_, ?_⟩
    · rw [hown.cellAt (i * 3) (by omega), show i * 3 = i * 3 + 0 from rfl, mcells_get ms i 0 x hx (by omega)]; rfl
    · rw [hown.cellAt (i * 3 + 1) (by omega), mcells_get ms i 1 x hx (by omega)]; rfl
    · rw [hown.cellAt (i * 3 + 2) (by omega), mcells_get ms i 2 x hx (by omega)]; rfl
def refv (room : Nat) (lv : Value) : Value := .agg #[.int .i64 room, lv]
set_option maxHeartbeats 1000000 in
theorem has_yes (room : Nat) (lv : Value) (l : List M) (i : Int) (w : World) (h : RefAt w lv l) (h0 : 0 ≤ i) (h1 : i < l.length) : Calls Try.prog 16 #[refv room lv, .int .i64 i] w fun e w' => e = .returned (.bool true) ∧ Below w.heap.size w w' := by
  obtain ⟨a, cap, rfl⟩ := h.form
  unfold refv
  clear h
  go_enter Try.func16, Try.ntmps16
  go_wp2_with fail
  go_ret
  exact ⟨rfl, below_alloc w _⟩
set_option maxHeartbeats 1000000 in
theorem has_no (room : Nat) (lv : Value) (l : List M) (i : Int) (w : World) (h : RefAt w lv l) (hi : i < 0 ∨ (l.length : Int) ≤ i) : Calls Try.prog 16 #[refv room lv, .int .i64 i] w fun e w' => e = .returned (.bool false) ∧ Below w.heap.size w w' := by
  obtain ⟨a, cap, rfl⟩ := h.form
  unfold refv
  clear h
  by_cases h0 : 0 ≤ i
  · have h1 : (l.length : Int) ≤ i := by omega
    have d : decide (i < (l.length : Int)) = false := by simp only [decide_eq_false_iff_not]; omega
    clear hi
    go_enter Try.func16, Try.ntmps16
    go_wp2_with fail
    go_ret
    exact ⟨rfl, below_alloc w _⟩
  · have d : decide (0 ≤ i) = false := by simpa using h0
    clear hi
    go_enter Try.func16, Try.ntmps16
    go_wp2_with fail
    go_ret
    exact ⟨rfl, below_alloc w _⟩
def RSent (code : Int) (room : Nat) (l : List M) (w : World) (e : Ending) (w' : World) : Prop := ∃ lv, e = .returned (.tuple #[.int .i64 code, refv room lv]) ∧ RefAt w' lv l ∧ Below w.heap.size w w'
set_option maxHeartbeats 2000000 in
theorem refsend_full (room : Nat) (lv : Value) (l : List M) (m : M) (v : Value) (w : World) (h : RefAt w lv l) (hv : Rd8 w v m.body) (hl : m.body.length ≤ 1048576) (hf : room ≤ l.length) :
    Calls Try.prog 14 #[refv room lv, .agg #[.int .i64 m.frm, .int .i64 m.dst, v]] w (RSent 4 room l w) := by
  have H := Lib.hid h
  obtain ⟨a, cap, rfl⟩ := h.form
  obtain ⟨ba, bcap, rfl, _⟩ := hv.open
  unfold refv
  have d1 : decide (1048576 < (m.body.length : Int)) = false := by simp only [decide_eq_false_iff_not]; omega
  have d2 : decide ((room : Int) ≤ (l.length : Int)) = true := by simp only [decide_eq_true_eq]; omega
  have d3 : decide (room ≤ l.length) = true := by simp only [decide_eq_true_eq]; omega
  clear h hv
  go_enter Try.func14, Try.ntmps14
  go_wp2_with fail
  go_region
  all_goals (go_wp2_with fail)
  all_goals (exact bodyPost_ret (v := .tuple #[.int .i64 4, refv room (.slice a l.length cap)]) (by simp [results, Try.results14, go_sem, refv, *]) rfl ⟨_, rfl, H.out.below (by have := bel_refl w; repeat (first | assumption | apply bel_drew | apply bel_alloc)), (by have := bel_refl w; repeat (first | assumption | apply bel_drew | apply bel_alloc))⟩)
theorem refis_snoc {W w' : World} {out v8 : Value} {n : Nat} {xs : List Value} {ms : List (M × Value)} {m : M} {bv : Value} (hb : ∀ x ∈ ms, Own8 5 W x.2 x.1.body) (hm : Own8 5 W bv m.body) (hout : Own 30 3 W out n xs)
    (ho : Own 30 3 w' v8 (ms.length + 1) (mcells ms ++ m.vals bv)) (hg : W.grownBy w' out.ownBlock) : RefIs w' v8 (ms ++ [(m, bv)]) := by
  have ko : ∀ {v : Value} {l : List UInt8}, Own8 5 W v l → Own8 5 w' v l := fun hv => Own.keep hv fun b hb' => by
    obtain ⟨cs, k, hgb⟩ := own_block hv hb'
    refine hg.block b (Array.getElem?_eq_some_iff.1 hgb).1 (fun e => ?_)
    obtain ⟨cs', k', hgb'⟩ := own_block hout e.symm
    rw [hgb] at hgb'
    injection hgb' with hgb'
    injection hgb' with _ hgb'
    exact absurd hgb' (by decide)
  refine ⟨?_, fun x hx => ?_⟩
  · rw [List.length_append, mcells_app]
    simpa [mcells] using ho
  · rcases List.mem_append.1 hx with hx | hx
    · exact ko (hb x hx)
    · simp at hx
      subst hx
      exact ko hm
theorem RefIs.set {w : World} {lv : Value} {ms : List (M × Value)} (h : RefIs w lv ms) {g : Nat} {cs : Array Value} (hx : Blk w g cs 41) (j : Nat) (u : Value) : RefIs (w.setCell ⟨g, j, none⟩ u) lv ms := by
  have ne : ∀ {e : TypeId} {size n : Nat} {v : Value} {xs : List Value}, Own e size w v n xs → e ≠ 41 → ∀ b, v.ownBlock = some b → b ≠ g := by
    intro e size n v xs ho he b hb e'
    obtain ⟨cs', k, hb'⟩ := own_block ho hb
    unfold Blk at hx
    rw [e', hx] at hb'
    injection hb' with hb'
    injection hb' with _ hb'
    exact he hb'.symm
  exact ⟨own_set h.own (ne h.own (by decide)) u, fun x hx' => own_set (h.bod x hx') (ne (h.bod x hx') (by decide)) u⟩
/-- one more element behind a copy of the first k -/
theorem mcells_snoc (ms : List (M × Value)) (k : Nat) (m : M) (bv : Value) (h : ms[k]? = some (m, bv)) : mcells (ms.take (k + 1)) = mcells (ms.take k) ++ m.vals bv := by
  obtain ⟨hk, he⟩ := List.getElem?_eq_some_iff.1 h
  rw [List.take_succ_eq_append_getElem hk, mcells_app, he]
  simp [mcells]
set_option maxRecDepth 100000 in
set_option maxHeartbeats 4000000 in
theorem refsend_ok (room : Nat) (lv : Value) (l : List M) (m : M) (v : Value) (w : World) (h : RefAt w lv l) (hv : Rd8 w v m.body) (hl : m.body.length ≤ 1048576) (hf : l.length < room) (hroom : room ≤ 4096) :
    Calls Try.prog 14 #[refv room lv, .agg #[.int .i64 m.frm, .int .i64 m.dst, v]] w (RSent 0 room (l ++ [m]) w) := by
  obtain ⟨ms, hr, rfl⟩ := h
  rw [List.length_map] at hf
  have HR := Lib.hid hr
  obtain ⟨_, a, cap, rfl, _⟩ := hr.own.rd
  have HV := Lib.hid hv
  obtain ⟨ba, bcap, rfl, _⟩ := hv.open
  unfold refv
  have d1 : decide (1048576 < (m.body.length : Int)) = false := by simp only [decide_eq_false_iff_not]; omega
  have d2 : decide ((room : Int) ≤ (ms.length : Int)) = false := by simp only [decide_eq_false_iff_not]; omega
  have d3 : decide (room ≤ ms.length) = false := by simp only [decide_eq_false_iff_not]; omega
  clear hr hv
  generalize hW : ((w.alloc (.cells #[.int .i64 room, .slice a ms.length cap] 41)).alloc (.cells #[.int .i64 m.frm, .int .i64 m.dst, .slice ba m.body.length bcap] 30)).alloc (.cells #[.int .i64 0, .slice none 0 0] 41) = W0
  have HB0 : Hid (Below w.heap.size w W0) := Lib.hid (by rw [← hW]; exact bel_alloc (bel_alloc (below_alloc w _)))
  have hs0 : W0.heap.size = w.heap.size + 3 := by rw [← hW]; simp
  have HX2 : Hid (Blk W0 w.heap.size #[.int .i64 room, .slice a ms.length cap] 41) := Lib.hid (by rw [← hW]; exact ((Blk.new w _ 41).next (below_alloc _ _)).next (below_alloc _ _))
  have HX3 : Hid (Blk W0 (w.heap.size + 1) #[.int .i64 m.frm, .int .i64 m.dst, .slice ba m.body.length bcap] 30) := Lib.hid (by
    rw [← hW]
    have hb := Blk.new (w.alloc (.cells #[.int .i64 room, .slice a ms.length cap] 41)) #[.int .i64 m.frm, .int .i64 m.dst, .slice ba m.body.length bcap] 30
    simp only [World.size_alloc] at hb
    exact hb.next (below_alloc _ _))
  have HX5 : Hid (Blk W0 (w.heap.size + 2) #[.int .i64 0, .slice none 0 0] 41) := Lib.hid (by
    rw [← hW]
    have hb := Blk.new ((w.alloc (.cells #[.int .i64 room, .slice a ms.length cap] 41)).alloc (.cells #[.int .i64 m.frm, .int .i64 m.dst, .slice ba m.body.length bcap] 30)) #[.int .i64 0, .slice none 0 0] 41
    simp only [World.size_alloc] at hb
    exact hb)
  have HW := Lib.hid hW
  have Hs0 := Lib.hid hs0
  clear hW hs0
  go_enter Try.func14, Try.ntmps14
  go_wp2_with fail
  rw [HW.out]
  go_loopw [6, 7] (fun ov iv wr => ∃ k : Nat, k ≤ ms.length ∧ iv = .int .i64 k ∧ Hid (Own 30 3 wr ov k (mcells (ms.take k))) ∧ Hid (∀ b, ov.ownBlock = some b → W0.heap.size ≤ b) ∧ Hid (Below W0.heap.size W0 wr)) (fun _ iv _ => ms.length - (intOf iv).toNat)
  case atStart => exact ⟨0, by omega, rfl, Lib.hid (by simpa [mcells] using own_nil W0 30 3), Lib.hid (fun b hb => (by cases hb)), Lib.hid (bel_refl W0)⟩
  case round =>
    obtain ⟨k, hk, rfl, Ho, Hob, Hb⟩ := hrel
    have hx2 := HX2.out.next Hb.out
    have q0 : wr.cell? ⟨w.heap.size, 0, none⟩ = some (.int .i64 room) := hx2.cell 0
    have q1 : wr.cell? ⟨w.heap.size, 1, none⟩ = some (.slice a ms.length cap) := hx2.cell 1
    have hq := hx2.lt
    by_cases hlt : k < ms.length
    · obtain ⟨⟨m0, bv⟩, hx⟩ : ∃ x, ms[k]? = some x := ⟨ms[k], List.getElem?_eq_getElem hlt⟩
      obtain ⟨g, cap', hg, c0, c1, c2⟩ := (HR.out.below (bel_trans HB0.out Hb.out)).msg hx
      cases hg
      obtain ⟨a0, cp0, e0, _⟩ := (HR.out.bod _ (List.mem_of_getElem? hx)).rd.open
      simp only at e0 c0 c1 c2
      subst e0
      have Hsn := Lib.hid (mcells_snoc ms k m0 _ hx)
      have hgl := World.block_lt_of_cell? wr _ c0
      have hk1 : (0 : Int) ≤ (k : Int) := by omega
      have hk2 : (k : Int) < (ms.length : Int) := by omega
      clear hx hx2
      go_wp2_with (at_builtin; apply Hold.mk)
      unfold Hold
      refine wpList_app rfl _ _ 22 rfl ok22 (by rfl) (by rfl) (Ho.out.below' (below_alloc wr _)) (own_lit_at (g := _) 30 3 #[.int .i64 m0.frm, .int .i64 m0.dst, .slice a0 m0.body.length cp0] 1 (by simp [maxLen]) rfl (by simp)).rd (vals_one m0 _ rfl) (by simp only [maxLen]; omega) (by omega) ?_
      intro v7 w7 ho7 hg7 hn7
      have Ho7 : Hid (Own 30 3 w7 v7 (k + 1) (mcells (ms.take (k + 1)))) := Lib.hid (by rw [Hsn.out]; exact ho7)
      have Hob7 : Hid (∀ b, v7.ownBlock = some b → W0.heap.size ≤ b) := Lib.hid (fun b hb => (hn7 b hb).elim (Hob.out b) (fun h => by have := Hb.out.size; simp at h; omega))
      have Hb7 : Hid (Below W0.heap.size W0 w7) := Lib.hid ((bel_alloc Hb.out).grown hg7 (bel_alloc Hb.out).size Hob.out)
      clear ho7 hg7 hn7
      go_wp2_with fail
      go_roundw
      case rel => exact ⟨k + 1, by omega, by go_num, Ho7, Hob7, Hb7⟩
      case measure => simp [intOf]; omega
    · obtain rfl : k = ms.length := by omega
      rw [List.take_length] at Ho
      clear hx2
      have hx3 := HX3.out.next Hb.out
      have x0 : wr.cell? ⟨w.heap.size + 1, 0, none⟩ = some (.int .i64 m.frm) := hx3.cell 0
      have x1 : wr.cell? ⟨w.heap.size + 1, 1, none⟩ = some (.int .i64 m.dst) := hx3.cell 1
      have x2 : wr.cell? ⟨w.heap.size + 1, 2, none⟩ = some (.slice ba m.body.length bcap) := hx3.cell 2
      have hx3l := hx3.lt
      have hxr := bel_refl wr
      have HK : Hid (∀ w', Below wr.heap.size wr w' → w'.cell? ⟨w.heap.size + 1, 0, none⟩ = some (.int .i64 m.frm) ∧ w'.cell? ⟨w.heap.size + 1, 1, none⟩ = some (.int .i64 m.dst) ∧ w'.cell? ⟨w.heap.size + 1, 2, none⟩ = some (.slice ba m.body.length bcap)) := Lib.hid (fun w' h => by
        have q := (HX3.out.next Hb.out).next h
        exact ⟨q.cell 0, q.cell 1, q.cell 2⟩)
      have Hne : Hid (∀ g, g < w.heap.size + 3 → u6.ownBlock ≠ some g) := Lib.hid (fun g hg e => by have := Hob.out g e; have := Hs0.out; omega)
      have HBr := Lib.hid (bel_trans HB0.out Hb.out)
      clear hx3
      go_wp2_with fail
      go_region_held3 (fun w' => w'.cell? ⟨w.heap.size + 1, 0, none⟩ = some (.int .i64 m.frm) ∧ w'.cell? ⟨w.heap.size + 1, 1, none⟩ = some (.int .i64 m.dst) ∧ w'.cell? ⟨w.heap.size + 1, 2, none⟩ = some (.slice ba m.body.length bcap))
        (first | (exact ⟨x80, x81, x82⟩) | go_keep | (exact HK.out _ (by repeat (first | assumption | apply bel_alloc | apply bel_drew))))
        (first
          | (refine step_app8_mine (by rfl) _ _ 28 (by rfl) ok28 [] m.body (by rfl) (by rfl) wr (by repeat (first | assumption | apply bel_alloc | apply bel_drew)) (by exact mine8_at [] (by simp [maxLen]) rfl rfl (by simp) rfl) (HV.out.below (bel_trans HBr.out (by repeat (first | assumption | apply bel_alloc | apply bel_drew)))) (by simp; omega) ?_; intro v7 w7 hm7 hb7 hg7 hz7; obtain ⟨va, vcap, rfl, _⟩ := hm7.rd.open; have Hm7 := Lib.hid hm7; clear hm7 hg7)
          | (refine step_app (by rfl) _ _ 22 (by rfl) ok22 (by rfl) (by rfl) (Ho.out.below' (by repeat (first | assumption | apply bel_alloc | apply bel_drew))) (own_lit_at (g := _) 30 3 #[.int .i64 m.frm, .int .i64 m.dst, .slice va m.body.length vcap] 1 (by simp [maxLen]) rfl (by simp)).rd (vals_one m _ rfl) (by simp only [maxLen]; omega) (by omega) ?_; intro v8 w8 ho8 hg8 hn8; obtain ⟨_, vb, vcapb, rfl, _⟩ := ho8.rd; have hB28 := push_box (HX2.out.next Hb.out) (by repeat (first | assumption | apply bel_alloc | apply bel_drew)) hg8 (Hne.out _ (by omega)); have hB38 := push_box (HX3.out.next Hb.out) (by repeat (first | assumption | apply bel_alloc | apply bel_drew)) hg8 (Hne.out _ (by omega)); have hB58 := push_box (HX5.out.next Hb.out) (by repeat (first | assumption | apply bel_alloc | apply bel_drew)) hg8 (Hne.out _ (by omega)); have k80 : w8.cell? ⟨w.heap.size, 0, none⟩ = some (.int .i64 room) := hB28.cell 0; have k81 : w8.cell? ⟨w.heap.size, 1, none⟩ = some (.slice a ms.length cap) := hB28.cell 1; have f81 : w8.frozen? ⟨w.heap.size, 1, none⟩ = false := hB28.free 1; have x80 : w8.cell? ⟨w.heap.size + 1, 0, none⟩ = some (.int .i64 m.frm) := hB38.cell 0; have x81 : w8.cell? ⟨w.heap.size + 1, 1, none⟩ = some (.int .i64 m.dst) := hB38.cell 1; have x82 : w8.cell? ⟨w.heap.size + 1, 2, none⟩ = some (.slice ba m.body.length bcap) := hB38.cell 2; have r80 : w8.cell? ⟨w.heap.size + 1 + 1, 0, none⟩ = some (.int .i64 0) := hB58.cell 0; have r81 : w8.cell? ⟨w.heap.size + 1 + 1, 1, none⟩ = some (.slice none 0 0) := hB58.cell 1; have s80 : w8.frozen? ⟨w.heap.size + 1 + 1, 0, none⟩ = false := hB58.free 0; have s81 : w8.frozen? ⟨w.heap.size + 1 + 1, 1, none⟩ = false := hB58.free 1; have h8l : w.heap.size + 1 + 1 < w8.heap.size := hB58.lt; have HB28 := Lib.hid hB28; have HB58 := Lib.hid hB58; have HF := Lib.hid (refis_snoc (fun x hx => ((HR.out.bod x hx).below (bel_trans HBr.out (by repeat (first | assumption | apply bel_alloc | apply bel_drew))))) (Hm7.out.1.below (by have := bel_refl w7; repeat (first | assumption | apply bel_alloc | apply bel_drew))) (Ho.out.below' (by repeat (first | assumption | apply bel_alloc | apply bel_drew))) ho8 hg8); have HB8 : Hid (Below W0.heap.size W0 w8) := Lib.hid ((bel_trans Hb.out (by repeat (first | assumption | apply bel_alloc | apply bel_drew))).grown hg8 (bel_trans Hb.out (by repeat (first | assumption | apply bel_alloc | apply bel_drew))).size Hob.out); clear ho8 hg8 hn8 hB28 hB38 hB58))
      all_goals (go_wp2_with fail)
      go_region
      all_goals (go_wp2_with fail)
      refine bodyPost_ret (v := .tuple #[.int .i64 0, refv room (.slice vb (ms.length + 1) vcapb)]) (by simp [results, Try.results14, go_sem, refv, *]) rfl ⟨_, rfl, ⟨ms ++ [(m, .slice va m.body.length vcap)], ?_, by simp⟩, ?_⟩
      · have p1 := HF.out.set HB28.out 1 (.slice vb (ms.length + 1) vcapb)
        have q1 := HB58.out.other (p := ⟨w.heap.size, 1, none⟩) (by show w.heap.size + 2 ≠ w.heap.size; omega) (.slice vb (ms.length + 1) vcapb)
        have p2 := p1.set q1 0 (.int .i64 room)
        have p3 := p2.set (q1.set 0 (.int .i64 room)) 1 (.slice vb (ms.length + 1) vcapb)
        exact p3.below (bel_drew (bel_refl _))
      · exact bel_drew (bel_set (bel_set (bel_set (bel_trans HB0.out HB8.out) (Nat.le_refl _)) (by show w.heap.size ≤ w.heap.size + 1 + 1; omega)) (by show w.heap.size ≤ w.heap.size + 1 + 1; omega))
end Go.Proofs.Ytjhjbgdekpegdaa
