/- All (20), the document's example: awake (8). -/
import Derived.Test.YtjhjbgdekpegdaaW7
namespace Go.Proofs.Ytjhjbgdekpegdaa
open Go.RowKit Go.Kt Go.Conc

/-- a list of messages in new memory, their bodies apart -/
structure Copied (w wr : World) (out : Value) (ms : List (M × Value)) : Prop where
  own : Own 32 3 wr out ms.length (mcells ms)
  ge : ∀ b, out.ownBlock = some b → w.heap.size ≤ b
  bod : ∀ x ∈ ms, Mine8 5 w wr x.2 x.1.body
  dis : ms.Pairwise fun x y => ∀ b, x.2.ownBlock = some b → y.2.ownBlock ≠ some b
  bel : Below w.heap.size w wr
theorem all_nil (w : World) : Calls Try.prog 20 #[.pointer none] w fun e w' => e = .returned (.slice none 0 0) ∧ w = w' := by
  go_enter Try.func20, Try.ntmps20
  go_wp2_with fail
  refine (len_nil w).mono ?_
  rintro e w1 ⟨rfl, rfl⟩
  go_wp2_with fail
  go_loop [3, 7] (fun ov iv => iv = .int .i64 0 ∧ ov = .slice none 0 0) (fun _ _ => 0)
  case atStart => exact ⟨rfl, rfl⟩
  case round =>
    obtain ⟨rfl, rfl⟩ := hrel
    go_wp2_with fail
    go_ret
    exact ⟨rfl, rfl⟩
def Alled (l : List M) (w : World) (e : Ending) (w' : World) : Prop := ∃ v ms, e = .returned v ∧ ms.map (·.1) = l ∧ Copied w w' v ms
theorem Copied.snoc {w wr w2 w3 w' : World} {out out' : Value} {ms : List (M × Value)} (h : Copied w wr out ms) (hb : Below wr.heap.size wr w2) (m : M) (bv : Value) (hm : Mine8 5 wr w3 bv m.body) (hb3 : Below w3.heap.size w3 w2)
    (ho : Own 32 3 w' out' (ms.length + 1) (mcells ms ++ m.vals bv)) (hg : w2.grownBy w' out.ownBlock) (hn : ∀ b, out'.ownBlock = some b → out.ownBlock = some b ∨ w2.heap.size ≤ b) : Copied w w' out' (ms ++ [(m, bv)]) := by
  have hz : w.heap.size ≤ w2.heap.size := Nat.le_trans h.bel.size hb.size
  have ko : ∀ {v : Value} {l : List UInt8}, Own8 5 w2 v l → Own8 5 w' v l := fun hv => Own.keep hv fun b hb' => by
    obtain ⟨cs, k, hgb⟩ := own_block hv hb'
    refine hg.block b (Array.getElem?_eq_some_iff.1 hgb).1 (fun e => ?_)
    obtain ⟨cs', k', hgb'⟩ := own_block (h.own.below' hb) e.symm
    rw [hgb] at hgb'
    injection hgb' with hgb'
    injection hgb' with _ hgb'
    exact absurd hgb' (by decide)
  refine ⟨?_, fun b hb' => (hn b hb').elim (h.ge b) (fun hh => Nat.le_trans hz hh), fun x hx => ?_, ?_, (bel_trans h.bel hb).grown hg hz h.ge⟩
  · rw [List.length_append, mcells_app]
    simpa [mcells] using ho
  · rcases List.mem_append.1 hx with hx | hx
    · exact ⟨ko ((h.bod x hx).1.below hb), (h.bod x hx).2⟩
    · simp at hx
      subst hx
      exact ⟨ko (hm.1.below hb3), fun b hb' => Nat.le_trans h.bel.size (hm.2 b hb')⟩
  · rw [List.pairwise_append]
    refine ⟨h.dis, List.pairwise_singleton _ _, fun x hx y hy b hb' e => ?_⟩
    simp at hy
    subst hy
    have h1 := (h.bod x hx).1.lt b hb'
    have h2 := hm.2 b e
    omega
set_option maxHeartbeats 2000000 in
theorem all_any (B pb room : Nat) (l : List M) (w : World) (h : PostAt B w pb room l) : Calls Try.prog 20 #[.pointer (some ⟨pb, 0, none⟩)] w (Alled l w) := by
  have H := Lib.hid h
  have hll : l.length ≤ 4096 := by
    obtain ⟨c, lv, ms, hp, hle, rfl⟩ := h
    rw [List.length_map]
    exact Nat.le_trans hle hp.le
  clear h
  go_enter Try.func20, Try.ntmps20
  go_wp2_with fail
  refine (len_any B pb room l w H.out).mono ?_
  rintro e w1 ⟨rfl, rfl⟩
  go_wp2_with fail
  go_loopw [3, 4, 7] (fun ov _ iv wr => ∃ (k : Nat) (ms : List (M × Value)), k ≤ l.length ∧ iv = .int .i64 k ∧ Hid (ms.map (·.1) = l.take k) ∧ Hid (Copied w wr ov ms)) (fun _ _ iv _ => l.length - (intOf iv).toNat)
  case atStart => exact ⟨0, [], by omega, rfl, Lib.hid rfl, Lib.hid ⟨own_nil w 32 3, fun b hb => (by cases hb), fun x hx => (by cases hx), List.Pairwise.nil, bel_refl w⟩⟩
  case round =>
    obtain ⟨k, ms, hk, rfl, Hms, HC⟩ := hrel
    by_cases hlt : k < l.length
    · obtain ⟨m, hm⟩ : ∃ x, l[k]? = some x := ⟨l[k], List.getElem?_eq_getElem hlt⟩
      have Htk : Hid ((ms.map (·.1)) ++ [m] = l.take (k + 1)) := Lib.hid (by
        obtain ⟨hk', rfl⟩ := List.getElem?_eq_some_iff.1 hm
        rw [List.take_succ_eq_append_getElem hk', Hms.out])
      have hmk : ms.length = k := by
        have := congrArg List.length Hms.out
        simp at this
        omega
      obtain ⟨c, lv, pms, hp, hle, he⟩ := H.out.below HC.out.bel
      have k1 : wr.cell? ⟨pb, 1, none⟩ = some lv := hp.blk.cell 1
      obtain ⟨g, cap, bv, rfl, c0, c1, c2, hrd, hplt, hbl⟩ := hp.msg (by rw [he]; exact hm)
      obtain ⟨a, bcap, rfl, _⟩ := hrd.open
      have HR := Lib.hid hrd
      have Hmk := Lib.hid hmk
      have hk1 : (0 : Int) ≤ (k : Int) := by omega
      have hk2 : (k : Int) < (pms.length : Int) := by omega
      have hmk' : ms.length ≤ 4096 := by omega
      clear hm hp he hrd hmk
      go_wp2_with fail
      refine (twin_any m.frm m.dst _ m.body _ HR.out (by omega)).mono ?_
      intro e w3 h3
      obtain ⟨tv, rfl, htv, hb3⟩ := h3
      obtain ⟨ta, tcap, rfl, _⟩ := htv.rd.open
      have Htv := Lib.hid htv
      have Hb3 := Lib.hid hb3
      clear htv hb3
      go_wp2_with (at_builtin; apply Hold.mk)
      unfold Hold
      refine wpList_app rfl _ _ 53 rfl ok53 (by rfl) (by rfl) (HC.out.own.below' (bel_alloc Hb3.out)) (own_lit_at (g := _) 32 3 #[.int .i64 m.frm, .int .i64 m.dst, .slice ta m.body.length tcap] 1 (by simp [maxLen]) rfl (by simp)).rd (vals_one m _ rfl) (by simp only [maxLen]; omega) (by omega) ?_
      intro v7 w7 ho7 hg7 hn7
      have HC7 := Lib.hid (HC.out.snoc (bel_alloc Hb3.out) m _ Htv.out (below_alloc w3 _) ho7 hg7 hn7)
      clear ho7 hg7 hn7
      go_wp2_with fail
      go_roundw
      case rel => exact ⟨k + 1, _, by omega, by go_num, Lib.hid (by rw [List.map_append]; exact Htk.out), HC7⟩
      case measure => simp [intOf]; omega
    · obtain rfl : k = l.length := by omega
      rw [List.take_length] at Hms
      go_wp2_with fail
      go_ret
      exact ⟨_, ms, rfl, Hms.out, HC.out⟩
theorem rd_nil (w : World) : Rd8 w (.slice none 0 0) [] := (own_nil w 5 1).rd
set_option maxRecDepth 100000 in
set_option maxHeartbeats 2000000 in
theorem awake_any (w : World) : Calls Try.prog 8 #[] w fun e w' => e = .returned (.bool true) ∧ Below w.heap.size w w' := by
  go_enter Try.func8, Try.ntmps8
  go_wp2_with fail
  refine (new_yes 1 w (by omega)).mono ?_
  intro e w1 h1
  obtain ⟨pb, rfl, hp1, hb1⟩ := h1
  have HP1 := Lib.hid hp1
  have HB1 := Lib.hid hb1
  clear hp1 hb1
  go_wp2_with fail
  refine (send_ok w.heap.size pb 1 [] ⟨0, 1, []⟩ _ w1 HP1.out HB1.out.size (rd_nil w1) (by simp) (by simp)).mono ?_
  rintro e w2 ⟨rfl, hp2, _, hb2⟩
  have HP2 := Lib.hid hp2
  have HB2 := Lib.hid (HB1.out.trans hb2)
  clear hp2 hb2
  go_wp2_with fail
  refine (send_full w.heap.size pb 1 _ 0 2 _ [] w2 HP2.out HB2.out.size (rd_nil w2) (by simp) (by simp)).mono ?_
  rintro e w3 ⟨rfl, hp3, _, hb3⟩
  have HP3 := Lib.hid hp3
  have HB3 := Lib.hid (HB2.out.trans hb3)
  clear hp3 hb3
  go_wp2_with fail
  refine (take_yes w.heap.size pb 1 _ 0 ⟨0, 1, []⟩ w3 HP3.out HB3.out.size rfl).mono ?_
  intro e w4 h4
  obtain ⟨v, rfl, hv, hp4, _, hb4⟩ := h4
  obtain ⟨va, vcap, rfl, _⟩ := hv.rd.open
  have HP4 : Hid (PostAt w.heap.size w4 pb 1 []) := Lib.hid hp4
  have HB4 := Lib.hid (HB3.out.trans hb4)
  clear hp4 hb4 hv
  go_wp2_with fail
  refine (len_any w.heap.size pb 1 [] _ (HP4.out.below (below_alloc w4 _))).mono ?_
  rintro e w5 ⟨rfl, rfl⟩
  go_wp2_with fail
  refine (send_ok w.heap.size pb 1 [] ⟨0, 2, []⟩ _ _ (HP4.out.below (below_alloc w4 _)) (Nat.le_trans HB4.out.size (below_alloc w4 _).size) (rd_nil _) (by simp) (by simp)).mono ?_
  rintro e w6 ⟨rfl, hp6, _, hb6⟩
  have HB6 := Lib.hid ((bel_alloc HB4.out).trans hb6)
  clear hp6 hb6
  go_wp2_with fail
  go_ret
  exact ⟨rfl, HB6.out⟩
end Go.Proofs.Ytjhjbgdekpegdaa
