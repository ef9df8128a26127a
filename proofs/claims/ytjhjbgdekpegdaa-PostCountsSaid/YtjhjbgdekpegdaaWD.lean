/- The document's post: Without (17). -/
import Derived.Test.YtjhjbgdekpegdaaWC
namespace Go.Proofs.Ytjhjbgdekpegdaa
open Go.RowKit Go.Kt Go.Conc

theorem erase_snoc {α : Type} (l : List α) (i k : Nat) (x : α) (h : l[k]? = some x) : (l.take (k + 1)).eraseIdx i = if k = i then (l.take k).eraseIdx i else (l.take k).eraseIdx i ++ [x] := by
  obtain ⟨hk, rfl⟩ := List.getElem?_eq_some_iff.1 h
  rw [List.take_succ_eq_append_getElem hk]
  have hl : (l.take k).length = k := by simp; omega
  by_cases h1 : i < k
  · rw [List.eraseIdx_append_of_lt_length (by omega), if_neg (by omega)]
  · by_cases h2 : k = i
    · subst h2
      rw [if_pos rfl, List.eraseIdx_append_of_length_le (by omega), hl, Nat.sub_self]
      have : (l.take k).eraseIdx k = l.take k := List.eraseIdx_of_length_le (by omega)
      rw [this]
      simp
    · rw [if_neg h2, List.eraseIdx_of_length_le (by simp; omega), List.eraseIdx_of_length_le (by omega)]
def RWithout (room : Nat) (l : List M) (w : World) (e : Ending) (w' : World) : Prop := ∃ lv, e = .returned (refv room lv) ∧ RefAt w' lv l ∧ Below w.heap.size w w'
set_option maxRecDepth 100000 in
set_option maxHeartbeats 4000000 in
theorem without_any (room : Nat) (lv : Value) (l : List M) (i : Nat) (w : World) (h : RefAt w lv l) (hlen : l.length ≤ 4096) :
    Calls Try.prog 17 #[refv room lv, .int .i64 i] w (RWithout room (l.eraseIdx i) w) := by
  obtain ⟨ms, hr, rfl⟩ := h
  rw [List.length_map] at hlen
  have HR := Lib.hid hr
  obtain ⟨_, a, cap, rfl, _⟩ := hr.own.rd
  unfold refv
  clear hr
  generalize hW : (w.alloc (.cells #[.int .i64 room, .slice a ms.length cap] 41)).alloc (.cells #[.int .i64 0, .slice none 0 0] 41) = W0
  have HB0 : Hid (Below w.heap.size w W0) := Lib.hid (by rw [← hW]; exact bel_alloc (below_alloc w _))
  have hs0 : W0.heap.size = w.heap.size + 2 := by rw [← hW]; simp
  have HX2 : Hid (Blk W0 w.heap.size #[.int .i64 room, .slice a ms.length cap] 41) := Lib.hid (by rw [← hW]; exact (Blk.new w _ 41).next (below_alloc _ _))
  have HX5 : Hid (Blk W0 (w.heap.size + 1) #[.int .i64 0, .slice none 0 0] 41) := Lib.hid (by
    rw [← hW]
    have hb := Blk.new (w.alloc (.cells #[.int .i64 room, .slice a ms.length cap] 41)) #[.int .i64 0, .slice none 0 0] 41
    simp only [World.size_alloc] at hb
    exact hb)
  have HW := Lib.hid hW
  have Hs0 := Lib.hid hs0
  clear hW hs0
  go_enter Try.func17, Try.ntmps17
  go_wp2_with fail
  rw [HW.out]
  go_loopw [5, 6] (fun ov iv wr => ∃ k : Nat, k ≤ ms.length ∧ iv = .int .i64 k ∧ Hid (Own 30 3 wr ov ((ms.take k).eraseIdx i).length (mcells ((ms.take k).eraseIdx i))) ∧ Hid (∀ b, ov.ownBlock = some b → W0.heap.size ≤ b) ∧ Hid (Below W0.heap.size W0 wr) ∧ Hid (∀ x ∈ (ms.take k).eraseIdx i, Own8 5 wr x.2 x.1.body)) (fun _ iv _ => ms.length - (intOf iv).toNat)
  case atStart => exact ⟨0, by omega, rfl, Lib.hid (by simpa [mcells] using own_nil W0 30 3), Lib.hid (fun b hb => (by cases hb)), Lib.hid (bel_refl W0), Lib.hid (by simp)⟩
  case round =>
    obtain ⟨k, hk, rfl, Ho, Hob, Hb, Hbd⟩ := hrel
    have hx2 := HX2.out.next Hb.out
    have q0 : wr.cell? ⟨w.heap.size, 0, none⟩ = some (.int .i64 room) := hx2.cell 0
    have q1 : wr.cell? ⟨w.heap.size, 1, none⟩ = some (.slice a ms.length cap) := hx2.cell 1
    have y1 : wr.frozen? ⟨w.heap.size, 1, none⟩ = false := hx2.free 1
    have hq := hx2.lt
    by_cases hlt : k < ms.length
    · obtain ⟨⟨m0, bv⟩, hx⟩ : ∃ x, ms[k]? = some x := ⟨ms[k], List.getElem?_eq_getElem hlt⟩
      have Hsn := Lib.hid (erase_snoc ms i k _ hx)
      by_cases hki : k = i
      · have d : ((k : Int) == (i : Int)) = true := by rw [beq_iff_eq]; omega
        have HS : Hid ((ms.take (k + 1)).eraseIdx i = (ms.take k).eraseIdx i) := Lib.hid (by rw [Hsn.out, if_pos hki])
        clear hki hx hx2
        go_wp2_with fail
        go_roundw
        case rel => exact ⟨k + 1, by omega, by go_num, by rw [HS.out]; exact Ho, Hob, Hb, by rw [HS.out]; exact Hbd⟩
        case measure => simp [intOf]; omega
      · have d : ((k : Int) == (i : Int)) = false := by rw [beq_eq_false_iff_ne]; omega
        have HS : Hid ((ms.take (k + 1)).eraseIdx i = (ms.take k).eraseIdx i ++ [(m0, bv)]) := Lib.hid (by rw [Hsn.out, if_neg hki])
        have hl1 : ((ms.take k).eraseIdx i).length ≤ 4096 := by
          have := List.length_eraseIdx_le (ms.take k) i
          simp at this
          omega
        generalize (ms.take k).eraseIdx i = es at *
        have HRr := Lib.hid (HR.out.below (bel_trans HB0.out Hb.out))
        obtain ⟨g, cap', hg, c0, c1, c2⟩ := HRr.out.msg hx
        cases hg
        have hbo := HRr.out.bod _ (List.mem_of_getElem? hx)
        obtain ⟨a0, cp0, e0, _⟩ := hbo.rd.open
        simp only at e0 c0 c1 c2 hbo
        subst e0
        have Hbo := Lib.hid hbo
        have hgl := World.block_lt_of_cell? wr _ c0
        have hk1 : (0 : Int) ≤ (k : Int) := by omega
        have hk2 : (k : Int) < (ms.length : Int) := by omega
        clear hx hx2 hki hbo
        go_wp2_with (at_builtin; apply Hold.mk)
        unfold Hold
        refine wpList_app rfl _ _ 22 rfl ok22 (by rfl) (by rfl) (Ho.out.below' (below_alloc wr _)) (own_lit_at (g := _) 30 3 #[.int .i64 m0.frm, .int .i64 m0.dst, .slice a0 m0.body.length cp0] 1 (by simp [maxLen]) rfl (by simp)).rd (vals_one m0 _ rfl) (by simp only [maxLen]; omega) (by omega) ?_
        intro v7 w7 ho7 hg7 hn7
        have HF := Lib.hid (refis_snoc (m := m0) (bv := .slice a0 m0.body.length cp0) (fun x hx => (Hbd.out x hx).below (below_alloc wr _)) (Hbo.out.below (below_alloc wr _)) (Ho.out.below' (below_alloc wr _)) ho7 hg7)
        have Hob7 : Hid (∀ b, v7.ownBlock = some b → W0.heap.size ≤ b) := Lib.hid (fun b hb => (hn7 b hb).elim (Hob.out b) (fun h => by have := Hb.out.size; simp at h; omega))
        have Hb7 : Hid (Below W0.heap.size W0 w7) := Lib.hid ((bel_alloc Hb.out).grown hg7 (bel_alloc Hb.out).size Hob.out)
        clear ho7 hg7 hn7
        go_wp2_with fail
        go_roundw
        case rel => exact ⟨k + 1, by omega, by go_num, by rw [HS.out]; exact Lib.hid HF.out.own, Hob7, Hb7, by rw [HS.out]; exact Lib.hid HF.out.bod⟩
        case measure => simp [intOf]; omega
    · obtain rfl : k = ms.length := by omega
      rw [List.take_length] at Ho Hbd
      have HX := Lib.hid hx2
      have hx5 := HX5.out.next Hb.out
      have z0 : wr.cell? ⟨w.heap.size + 1, 0, none⟩ = some (.int .i64 0) := hx5.cell 0
      have z1 : wr.cell? ⟨w.heap.size + 1, 1, none⟩ = some (.slice none 0 0) := hx5.cell 1
      have y50 : wr.frozen? ⟨w.heap.size + 1, 0, none⟩ = false := hx5.free 0
      have y51 : wr.frozen? ⟨w.heap.size + 1, 1, none⟩ = false := hx5.free 1
      have h5l := hx5.lt
      have HX5' := Lib.hid hx5
      obtain ⟨_, va, vcap, rfl, _⟩ := Ho.out.rd
      have HF : Hid (RefIs wr (.slice va (ms.eraseIdx i).length vcap) (ms.eraseIdx i)) := Lib.hid ⟨Ho.out, Hbd.out⟩
      generalize (ms.eraseIdx i).length = n at *
      clear hx2 hx5
      go_wp2_with fail
      refine bodyPost_ret (v := refv room (.slice va n vcap)) (by simp [results, Try.results17, go_sem, refv, *]) rfl ⟨_, rfl, ⟨ms.eraseIdx i, ?_, by simp [List.eraseIdx_eq_take_drop_succ, List.map_append, List.map_take, List.map_drop]⟩, ?_⟩
      · have p1 := HF.out.set HX.out 1 (.slice va n vcap)
        have q1 := HX5'.out.other (p := ⟨w.heap.size, 1, none⟩) (by show w.heap.size + 1 ≠ w.heap.size; omega) (.slice va n vcap)
        have p2 := p1.set q1 0 (.int .i64 room)
        exact p2.set (q1.set 0 (.int .i64 room)) 1 (.slice va n vcap)
      · exact (bel_set (bel_set (bel_set (bel_trans HB0.out Hb.out) (Nat.le_refl _)) (by show w.heap.size ≤ w.heap.size + 1; omega)) (by show w.heap.size ≤ w.heap.size + 1; omega))
end Go.Proofs.Ytjhjbgdekpegdaa
