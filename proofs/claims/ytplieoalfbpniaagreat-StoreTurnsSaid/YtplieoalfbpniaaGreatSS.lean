/- A nil store: Cut (20), Retain (23), Kept (32); StoreNil (7). -/
import Derived.Test.YtplieoalfbpniaaGreatSR
set_option linter.unusedVariables false
set_option linter.unusedSimpArgs false
namespace Go.Proofs.YtplieoalfbpniaaGreat
open Go.RowKit Go.Kt Go.Ix Go.Sx
set_option maxRecDepth 100000
theorem trim_nil (f : Value) (w : World) : Calls Tryz.prog 44 #[.pointer none, f] w fun e w' => e = .returned (.tuple #[]) ∧ w' = w := by
  go_enter Tryz.func44, Tryz.ntmps44
  go_wp2_with fail
  (try simp only [Exit.inBlock, Exit.then])
  refine bodyPost_ret (results_none rfl _ _ _) rfl ?_
  exact ⟨rfl, rfl⟩
theorem cut_nil (t : Tm) (w : World) : Calls Tryz.prog 20 #[.pointer none, t.val] w fun e w' => e = .returned (.tuple #[]) ∧ Below w.heap.size w w' := by
  unfold Tm.val
  go_enter Tryz.func20, Tryz.ntmps20
  go_wp2_with (first | (go_at_call 44; refine (trim_nil _ _).mono ?_; rintro e w2 ⟨rfl, rfl⟩) | fail)
  go_end0
  exact ⟨rfl, bel_alloc (bel_refl w)⟩
theorem ret_nil (z : Int) (w : World) : Calls Tryz.prog 23 #[.pointer none, .int .i64 z] w fun e w' => e = .returned (.tuple #[]) ∧ Below w.heap.size w w' := by
  go_enter Tryz.func23, Tryz.ntmps23
  go_wp2_with (first | (go_at_call 44; refine (trim_nil _ _).mono ?_; rintro e w2 ⟨rfl, rfl⟩) | fail)
  go_end0
  exact ⟨rfl, bel_alloc (bel_refl w)⟩
theorem kept_nil (w : World) : Calls Tryz.prog 32 #[.pointer none] w fun e w' => e = .returned (.tuple #[.slice none 0 0, .slice none 0 0]) ∧ w' = w := by
  go_enter Tryz.func32, Tryz.ntmps32
  go_wp2_with (first | (go_at_call 33; refine (all_nil _).mono ?_; rintro e w2 ⟨rfl, rfl⟩) | fail)
  refine wp_loop_rounds 1 ?_
  rw [rounds_succ]
  go_wp2_with fail
  go_ret2
  exact ⟨rfl, rfl⟩

set_option maxHeartbeats 8000000 in
theorem nil_any (m : Wr) (t : Tm) (w : World) (hm : WrR w m) (hg : Glob w) :
    Calls Tryz.prog 7 #[wagg m, t.val] w fun e w' => e = .returned (.bool true) ∧ Below w.heap.size w w' := by
  obtain ⟨st, mt, mk, mn, mx, sv⟩ := m
  obtain ⟨sa, sc, hsv, -⟩ := hm.set.open
  simp only at hsv
  subst hsv
  obtain ⟨tw, tt, tm⟩ := t
  have HM := Lib.hid hm
  have HG := Lib.hid hg
  clear hm hg
  unfold wagg Tm.val
  simp only
  have HB0 := Lib.hid (bel_alloc (o := .cells #[.int .i64 tw, .int .u32 tt, .int .u32 tm] 25) (below_alloc w (.cells #[.slice sa st.length sc, .int .i64 mt, .int .i64 mk, .int .i64 mn, .string mx] 43)))
  have HX := Lib.hid ((Blk.new w #[.slice sa st.length sc, .int .i64 mt, .int .i64 mk, .int .i64 mn, .string mx] 43).next (below_alloc _ (.cells #[.int .i64 tw, .int .u32 tt, .int .u32 tm] 25)))
  have HT := Lib.hid (Blk.new (w.alloc (.cells #[.slice sa st.length sc, .int .i64 mt, .int .i64 mk, .int .i64 mn, .string mx] 43)) #[.int .i64 tw, .int .u32 tt, .int .u32 tm] 25)
  rw [World.size_alloc] at HT
  go_enter Tryz.func7, Tryz.ntmps7
  go_upto_region 2 with fail
  generalize (w.alloc (.cells #[.slice sa st.length sc, .int .i64 mt, .int .i64 mk, .int .i64 mn, .string mx] 43)).alloc (.cells #[.int .i64 tw, .int .u32 tt, .int .u32 tm] 25) = w0 at HX HT HB0 ⊢
  have c0 : w0.cell? ⟨w.heap.size + 1, 0, none⟩ = some (.int .i64 tw) := HT.out.cell 0
  have c1 : w0.cell? ⟨w.heap.size + 1, 1, none⟩ = some (.int .u32 tt) := HT.out.cell 1
  have c2 : w0.cell? ⟨w.heap.size + 1, 2, none⟩ = some (.int .u32 tm) := HT.out.cell 2
  go_upto_region 5 with (first
    | (go_at_call 11; refine (to_any1 ⟨tw, tt, tm⟩ _).mono ?_; rintro e w1 ⟨rfl, hb1⟩; have HB1 := Lib.hid hb1; clear hb1)
    | (go_at_call 20; refine (cut_nil ⟨tw, tt, tm⟩ _).mono ?_; rintro e w2 ⟨rfl, hb2⟩; have HB2 := Lib.hid (bel_trans HB1.out hb2); have d1 : w2.cell? ⟨w.heap.size, 1, none⟩ = some (.int .i64 mt) := (HX.out.next HB2.out).cell 1; clear hb2)
    | (go_at_call 23; refine (ret_nil mt _).mono ?_; rintro e w3 ⟨rfl, hb3⟩; have HB3 := Lib.hid (bel_trans HB2.out hb3); clear hb3)
    | (go_at_call 32; refine (kept_nil _).mono ?_; rintro e w4 ⟨rfl, rfl⟩)
    | fail)
  have HKs : Hid (∀ W, Below w4.heap.size w4 W → W.cell? ⟨w.heap.size, 0, none⟩ = some (.slice sa st.length sc) ∧ W.cell? ⟨w.heap.size, 1, none⟩ = some (.int .i64 mt) ∧ W.cell? ⟨w.heap.size, 2, none⟩ = some (.int .i64 mk) ∧ W.cell? ⟨w.heap.size, 3, none⟩ = some (.int .i64 mn) ∧ W.cell? ⟨w.heap.size, 4, none⟩ = some (.string mx) ∧ W.cell? ⟨w.heap.size + 1, 0, none⟩ = some (.int .i64 tw) ∧ W.cell? ⟨w.heap.size + 1, 1, none⟩ = some (.int .u32 tt) ∧ W.cell? ⟨w.heap.size + 1, 2, none⟩ = some (.int .u32 tm)) :=
    Lib.hid (fun W hW => ⟨(HX.out.next (bel_trans HB3.out hW)).cell 0, (HX.out.next (bel_trans HB3.out hW)).cell 1, (HX.out.next (bel_trans HB3.out hW)).cell 2, (HX.out.next (bel_trans HB3.out hW)).cell 3, (HX.out.next (bel_trans HB3.out hW)).cell 4, (HT.out.next (bel_trans HB3.out hW)).cell 0, (HT.out.next (bel_trans HB3.out hW)).cell 1, (HT.out.next (bel_trans HB3.out hW)).cell 2⟩)
  have HM3 : Hid (RdP w4 (.slice sa st.length sc) st) := Lib.hid (HM.out.set.below (bel_trans HB0.out HB3.out))
  have HL := Lib.hid HM.out.len
  have HW := Lib.hid (fun (W : World) (hW : Below w4.heap.size w4 W) => awake_any W (HG.out.below (bel_trans HB0.out (bel_trans HB3.out hW))))
  have hx3 := bel_refl w4
  obtain ⟨q0, q1, q2, q3, q4, q5, q6, q7⟩ := HKs.out _ hx3
  clear c0 c1 c2 d1
  go_region_held3 (fun W => W.cell? ⟨w.heap.size, 0, none⟩ = some (.slice sa st.length sc) ∧ W.cell? ⟨w.heap.size, 1, none⟩ = some (.int .i64 mt) ∧ W.cell? ⟨w.heap.size, 2, none⟩ = some (.int .i64 mk) ∧ W.cell? ⟨w.heap.size, 3, none⟩ = some (.int .i64 mn) ∧ W.cell? ⟨w.heap.size, 4, none⟩ = some (.string mx) ∧ W.cell? ⟨w.heap.size + 1, 0, none⟩ = some (.int .i64 tw) ∧ W.cell? ⟨w.heap.size + 1, 1, none⟩ = some (.int .u32 tt) ∧ W.cell? ⟨w.heap.size + 1, 2, none⟩ = some (.int .u32 tm))
    (first | (with_reducible exact ⟨q0, q1, q2, q3, q4, q5, q6, q7⟩) | (with_reducible refine HKs.out _ ?_; (repeat (first | assumption | apply bel_alloc | apply bel_drew)); done) | go_keep)
    (first
      | (go_simp; go_at_call 9; refine (HW.out _ (by repeat (first | exact bel_refl _ | assumption | apply bel_alloc | apply bel_drew))).mono ?_; rintro e w5 ⟨rfl, hb5⟩; have hx5 : Below w4.heap.size w4 w5 := bel_trans (by repeat (first | exact bel_refl _ | assumption | apply bel_alloc | apply bel_drew)) hb5; clear hb5)
      | (go_simp; go_at_call 16; refine (wto_any ⟨st, mt, mk, mn, mx, .slice sa st.length sc⟩ _ (HM3.out.below (by repeat (first | exact bel_refl _ | assumption | apply bel_alloc | apply bel_drew))) HL.out).mono ?_; rintro e w6 ⟨v6, rfl, -, hb6⟩; have hx6 : Below w4.heap.size w4 w6 := bel_trans (by repeat (first | exact bel_refl _ | assumption | apply bel_alloc | apply bel_drew)) hb6; clear hb6)
      | (go_simp; go_at_call 11; refine (to_any1 ⟨tw, tt, tm⟩ _).mono ?_; rintro e w7 ⟨rfl, hb7⟩; have hx7 : Below w4.heap.size w4 w7 := bel_trans (by repeat (first | exact bel_refl _ | assumption | apply bel_alloc | apply bel_drew)) hb7; clear hb7)
      | (go_simp; go_at_call 15; refine (put_nil _ ⟨tw, tt, tm⟩ _).mono ?_; rintro e w8 ⟨rfl, hb8⟩; have hx8 : Below w4.heap.size w4 w8 := bel_trans (by repeat (first | exact bel_refl _ | assumption | apply bel_alloc | apply bel_drew)) hb8; clear hb8)
      | (go_simp; go_at_call 19; refine (len_nil _).mono ?_; rintro e w9 ⟨rfl, rfl⟩)
      | (go_simp; go_at_call 10; refine (scan_nil _ 0 9 ⟨tw, tt, tm⟩ _).mono ?_; rintro e wa ⟨rfl, hba⟩; have hxa : Below w4.heap.size w4 wa := bel_trans (by repeat (first | exact bel_refl _ | assumption | apply bel_alloc | apply bel_drew)) hba; clear hba))
  go_wp2_with fail
  go_ret
  exact ⟨rfl, bel_trans HB0.out (bel_trans HB3.out hxa)⟩
section
open Go.ChangeShapes Go.WideShapes
variable {H : Type} {enc : TypeId × Value → H}
theorem array5 {α : Type} {cs : Array α} (h : cs.size = 5) : ∃ c0 c1 c2 c3 c4, cs = #[c0, c1, c2, c3, c4] := by
  obtain ⟨l⟩ := cs
  match l, h with
  | [c0, c1, c2, c3, c4], _ => exact ⟨c0, c1, c2, c3, c4, rfl⟩
/-- a write that came in -/
theorem open_wrv {w : World} {base : Nat} {v : Value} {d : DataW H} {ps : List MemPlace} (hval : Value.okWide Tryz.prog w .any base 43 v) (h : DataW.Trod enc Tryz.prog w 0 (fun _ => true) true 43 v d ps) (hs : Small 43 d) :
    ∃ m : Wr, v = wagg m ∧ WrR w m := by
  obtain ⟨cs, rfl, hsz⟩ := okWide_struct Tryz.underlying43 hval
  obtain ⟨c0, c1, c2, c3, c4, rfl⟩ := array5 (hsz.trans cells43)
  obtain ⟨fuel, hf⟩ := h
  have hf' : DataW.trod enc Tryz.prog w 0 (fun _ => true) true fuel 43 [c0, c1, c2, c3, c4] = some (d, ps) := by simpa [Value.cells] using hf
  obtain ⟨m, e, hm⟩ := open_write1 hf' hs
  unfold wcells at e
  cases e
  exact ⟨m, rfl, hm⟩
end
end Go.Proofs.YtplieoalfbpniaaGreat
