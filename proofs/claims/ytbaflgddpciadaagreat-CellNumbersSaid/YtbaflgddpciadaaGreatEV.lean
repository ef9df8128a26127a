/- CellNumbers (8). -/
import Derived.Test.YtbaflgddpciadaaGreatET
set_option linter.unusedVariables false
set_option linter.unusedSimpArgs false
namespace Go.Proofs.YtbaflgddpciadaaGreat
open Go.RowKit Go.Kt Go.Ix Go.Sx Go.Cx
set_option maxRecDepth 100000
variable {S : Nat → Prop} {w wr w' : World} {c N : Nat} {C : Cl} {f : Lit → Option Value}
/-- the numbers that were seen: those of cells of ids below i, and some up to a last one of the cell i -/
def SeenTo (f : Lit → Option Value) (i : Nat) (last : Int) : Prop := ∀ d v, f (litD d) = some v → (d - 1) % 4 < i ∨ ((d - 1) % 4 = i ∧ d ≤ last)
theorem seen_new (i : Nat) (l : Int) : SeenTo (fun _ => none) i l := fun d v e => by cases e
theorem SeenTo.up {i : Nat} {l l' : Int} (h : SeenTo f i l) : SeenTo f (i + 1) l' := fun d v e => .inl (by have := h d v e; omega)
theorem SeenTo.lacks {i j : Nat} {l : Int} (h : SeenTo f i l) (hl : l ≤ (j : Int) * 4 + i) (hi : i < 4) : f (litD ((j : Int) * 4 + i + 1)) = none := by
  cases hf : f (litD ((j : Int) * 4 + i + 1)) with
  | none => rfl
  | some v => have := h _ _ hf; omega
theorem SeenTo.put {i j : Nat} {l : Int} (h : SeenTo f i l) (hl : l ≤ (j : Int) * 4 + i) (hi : i < 4) (v : Value) : SeenTo (upd f (litD ((j : Int) * 4 + i + 1)) v) i ((j : Int) * 4 + i + 1) := fun d u e => by
  unfold upd at e
  split at e
  · rename_i hk; have := litD_inj hk; omega
  · have := h d u e; omega
/-- the map of the numbers -/
structure Nm (w wr : World) (sb : Nat) (f : Lit → Option Value) (i : Nat) (n : Nat) (last : Int) : Prop where
  map : MapIs Tryz.prog 24 wr sb f n
  ge : w.heap.size ≤ sb
  seen : SeenTo f i last
  bel : Below w.heap.size w wr
theorem Nm.next {sb i n : Nat} {l : Int} (h : Nm w wr sb f i n l) (hb : Below wr.heap.size wr w') : Nm w w' sb f i n l := ⟨h.map.below hb, h.ge, h.seen, bel_trans h.bel hb⟩
/-- the cell that is being made beside it -/
structure Rm (w wr : World) (S : Nat → Prop) (c : Nat) (C : Cl) (k sb : Nat) (f : Lit → Option Value) (i n : Nat) (last : Int) : Prop where
  nm : Nm w wr sb f i n last
  cel : Cel S wr c C (64 * k)
  ticks : C.ticks ≤ k
  ge : ∀ x, S x → w.heap.size ≤ x
  far : ¬ S sb
  id : C.id = i
theorem Rm.next {k sb i n : Nat} {l : Int} (h : Rm w wr S c C k sb f i n l) (hb : Below wr.heap.size wr w') : Rm w w' S c C k sb f i n l := ⟨h.nm.next hb, h.cel.next hb, h.ticks, h.ge, h.far, h.id⟩
theorem Rm.bel {k sb i n : Nat} {l : Int} (h : Rm w wr S c C k sb f i n l) : Below w.heap.size w wr := h.nm.bel
theorem do_id (C : Cl) (m : Cmd) : (doC C m).2.id = C.id := by
  unfold doC
  split
  · obtain ⟨b, e⟩ := begin_frame C m; rw [e]
  split
  · obtain ⟨b, e⟩ := decide_frame C m; rw [e]
  split
  · obtain ⟨b, e⟩ := prepare_frame C m; rw [e]
  split
  · obtain ⟨b, M, e⟩ := resolve_frame C m; rw [e]
  split
  · split <;> rfl
  split
  · unfold cutCl; repeat (first | rfl | split)
  split
  · split <;> rfl
  split
  · unfold pinC; repeat (first | rfl | split)
  split <;> rfl
theorem Rm.done {W W' : World} {S' : Nat → Prop} {k sb i n : Nat} {l : Int} (h : Rm w wr S c C k sb f i n l) (hb : Below wr.heap.size wr W) {m : Cmd} (hc : Cel S' W' c (doC C m).2 (64 * k + 64)) (hS : ∀ x, S' x → S x ∨ W.heap.size ≤ x) (ht : Turn S W W') : Rm w W' S' c (doC C m).2 (k + 1) sb f i n l := by
  have hW := h.next hb
  have hlt := hW.nm.map.lt
  refine ⟨⟨map_keep ht hW.nm.map h.far, h.nm.ge, h.nm.seen, ?_⟩, hc.more (by omega), ?_, fun x hx => ?_, fun e => ?_, by rw [do_id]; exact h.id⟩
  · have hT : Turn (fun x => w.heap.size ≤ x) w W' := (Turn.of hW.nm.bel).trans ht (fun x hx => .inl (h.ge x hx))
    exact hT.bel (Nat.le_refl _) (fun x hx => hx)
  · have h1 := (do_rises C m).2.2.2; have h2 := h.ticks; omega
  · rcases hS x hx with h1 | h1
    · exact h.ge x h1
    · exact Nat.le_trans hW.nm.bel.size h1
  · rcases hS _ e with h1 | h1
    · exact h.far h1
    · omega
theorem book_cells {v : Value} {B : List (En × Value)} (h : Kt.Own 93 7 w v B.length (flatE B)) : ∃ a c, v = .slice a B.length c ∧ ∀ (i : Nat) q, B[i]? = some q → ∃ g, a = some ⟨g, 0, none⟩ ∧ g < w.heap.size ∧
    w.cell? ⟨g, i * 7, none⟩ = some (.string q.1.token) ∧ w.cell? ⟨g, i * 7 + 1, none⟩ = some (.int .u32 q.1.deed) ∧ w.cell? ⟨g, i * 7 + 2, none⟩ = some (.int .i64 q.1.state) ∧ w.cell? ⟨g, i * 7 + 3, none⟩ = some (.int .i64 q.1.at_.wall) ∧
    w.cell? ⟨g, i * 7 + 4, none⟩ = some (.int .u32 q.1.at_.tick) ∧ w.cell? ⟨g, i * 7 + 5, none⟩ = some (.int .u32 q.1.at_.mark) ∧ w.cell? ⟨g, i * 7 + 6, none⟩ = some q.2 := by
  obtain ⟨-, a, c, e, h1, h2, -, -⟩ := h.rd
  refine ⟨a, c, e, fun i q hq => ?_⟩
  have hil := (List.getElem?_eq_some_iff.1 hq).1
  have key : ∀ j, j < 7 → ∃ g, a = some ⟨g, 0, none⟩ ∧ w.cell? ⟨g, i * 7 + j, none⟩ = (ecells q.1 q.2)[j]? := fun j hj => by
    obtain ⟨g, c', e', hc, -⟩ := own_place h (j := i * 7 + j) (by omega)
    rw [e] at e'
    injection e' with e' _ _
    exact ⟨g, e', by rw [hc, flatE_get B i q hq j hj]⟩
  obtain ⟨g, e0, k0⟩ := key 0 (by omega)
  have kk : ∀ j, j < 7 → w.cell? ⟨g, i * 7 + j, none⟩ = (ecells q.1 q.2)[j]? := fun j hj => by
    obtain ⟨g', e', k⟩ := key j hj
    rw [e0] at e'
    injection e' with e'
    injection e' with e'
    subst e'
    exact k
  exact ⟨g, e0, World.block_lt_of_cell? w ⟨g, i * 7, none⟩ (u := .string q.1.token) k0, k0, kk 1 (by omega), kk 2 (by omega), kk 3 (by omega), kk 4 (by omega), kk 5 (by omega), kk 6 (by omega)⟩
theorem zero3 (w : World) : (zeroValue 3).run Tryz.prog w = .ok (.int .i64 0) w := by kernel_rfl
theorem Nm.look {sb i n j : Nat} {l : Int} (h : Nm w wr sb f i n l) (hl : l ≤ (j : Int) * 4 + i) (hi : i < 4) (hj : j < 1024) : (Instr.lookup 89 (.map (some sb)) (.int .u32 ((j : Int) * 4 + i + 1)) false).run Tryz.prog wr = .ok (.int .i64 0) wr := by
  have h1 := h.map.look1 key24 Tryz.underlying89 (zero3 wr) (keyOf24 (n := (j : Int) * 4 + i + 1) (by omega))
  rw [h.seen.lacks hl hi] at h1
  exact h1
theorem Nm.put {sb i n j : Nat} {l : Int} (h : Nm w wr sb f i n l) (hl : l ≤ (j : Int) * 4 + i) (hi : i < 4) (hj : j < 1024) (hn : n ≤ 5000) : ∃ w' n', (Instr.mapUpdate 89 (.map (some sb)) (.int .u32 ((j : Int) * 4 + i + 1)) (.int .i64 1)).run Tryz.prog wr = .ok () w' ∧ Nm w w' sb (upd f (litD ((j : Int) * 4 + i + 1)) (.int .i64 1)) i n' ((j : Int) * 4 + i + 1) ∧ n' = n + 1 ∧ wr.grownBy w' (some sb) := by
  obtain ⟨w', h1, h2, h3⟩ := h.map.put key24 Tryz.underlying89 (by simp only [maxLen]; omega) (.int .i64 1) (keyOf24 (n := (j : Int) * 4 + i + 1) (by omega)) trivial
  rw [h.seen.lacks hl hi] at h2
  exact ⟨w', _, h1, ⟨h2, h.ge, h.seen.put hl hi _, h.bel.grown h3 h.bel.size (fun b e => by injection e with e; have := h.ge; omega)⟩, rfl, h3⟩
set_option maxHeartbeats 16000000 in
theorem numbers_any (v : Value) (L : List Cw) (w : World) (hv : RdC w v L) (hg : Glob w) : Calls Tryz.prog 8 #[v] w fun e w' => e = .returned (.bool true) ∧ Below w.heap.size w w' := by
  have hmm := @run_makeMap Tryz.prog
  obtain ⟨la, lc, rfl, hcap, hbig, hcell⟩ := hv.open
  have Hcell := Lib.hid hcell
  have HG := Lib.hid hg
  clear hcell hv hg
  go_enter Tryz.func8, Tryz.ntmps8
  go_upto_region 3 with fail
  have HM0 : Hid (Nm w (w.alloc (.map #[] 0)) w.heap.size (fun _ => none) 0 0 0) := Lib.hid ⟨MapIs.made w Tryz.prog 24, Nat.le_refl _, seen_new _ _, below_alloc _ _⟩
  generalize w.alloc (.map #[] 0) = w1 at HM0 ⊢
  generalize hsb : w.heap.size = sb at HM0 ⊢
  go_loopw [13] (fun iv wr => ∃ (i n : Nat) (f : Lit → Option Value), i ≤ 4 ∧ iv = .int .i64 i ∧ n ≤ 1024 * i ∧ Hid (Nm w wr sb f i n 0)) (fun iv _ => 4 - (intOf iv).toNat)
  case atStart => exact ⟨0, 0, _, by omega, rfl, by omega, by first | exact HM0 | (rw [← hsb] at HM0 ⊢; exact HM0)⟩
  case round =>
    clear HM0
    obtain ⟨i, n, f, hi, rfl, hn, HM⟩ := hrel
    obtain ⟨wq, rfl⟩ : ∃ wq, wq = wr := ⟨_, rfl⟩
    by_cases hi4 : i < 4
    · have Hi4 := Lib.hid hi4
      have Hn := Lib.hid hn
      have hi5 : (i : Int) < 4 := by omega
      have HNw := Lib.hid (new_cel (i : Int) ⟨by omega, by omega⟩ wq)
      clear hn hi4
      go_upto_block 2 with (first
        | (go_at_call 14; refine HNw.out.mono ?_; rintro e w2 ⟨c, S0, rfl, hc, hS, hb⟩; have HC0 := Lib.hid hc; have HS0 := Lib.hid hS; have HB1 := Lib.hid hb; clear hc hS hb)
        | (go_at_call 15; refine (awake_any _ (HG.out.below (bel_trans HM.out.bel HB1.out))).mono ?_; rintro e w3 ⟨rfl, hb2⟩; have HB2 := Lib.hid hb2; clear hb2)
        | fail)
      have HR0 : Hid (Rm w w3 S0 c (newC (i : Int)) 0 sb f i n 0) := Lib.hid (by
        have hb := bel_trans HB1.out HB2.out
        have hlt := HM.out.map.lt
        exact ⟨HM.out.next hb, HC0.out.next HB2.out, (by show (0 : Int) ≤ 0; decide), fun x hx => Nat.le_trans HM.out.bel.size (HS0.out x hx), fun e => by have := HS0.out _ e; omega, rfl⟩)
      clear HNw
      go_cut [] (fun wc => ∃ (S : Nat → Prop) (C : Cl) (k : Nat), Hid (Rm w wc S c C k sb f i n 0))
      case first =>
        go_wp2_with fail
        go_loopw [33] (fun iv wr => ∃ (k : Nat) (S : Nat → Prop) (C : Cl), k ≤ L.length ∧ iv = .int .i64 k ∧ k ≤ 40 ∧ Hid (Rm w wr S c C k sb f i n 0)) (fun iv _ => L.length - (intOf iv).toNat)
        case atStart => exact ⟨0, _, _, by omega, rfl, by omega, HR0⟩
        case round =>
          clear HR0
          obtain ⟨k, S, C, hk, rfl, hk60, HR⟩ := hrel
          obtain ⟨wo, rfl⟩ : ∃ wo, wo = wr := ⟨_, rfl⟩
          by_cases hlt : k < L.length
          · obtain ⟨o, ho⟩ : ∃ o, L[k]? = some o := ⟨L[k], List.getElem?_eq_getElem hlt⟩
            obtain ⟨hcw, b, off, rfl, hbl, c0, c1, c2, c3, c4, c5, c6, c7, c8, c9⟩ := Hcell.out k o ho
            obtain ⟨ova, ovc, hov, -⟩ := hcw.rd.open
            have HCw := Lib.hid hcw
            obtain ⟨⟨kd, dd, ⟨aw, at1, am⟩, ys, tk, nn, id, ws⟩, ov, OT⟩ := o
            simp only at c0 c1 c2 c3 c4 c5 c6 c7 c8 c9 hov
            subst hov
            have d0 : wo.cell? ⟨b, off + k * 10, none⟩ = some (.int .i64 kd) := (HR.out.bel.cell (p := ⟨b, _, none⟩) hbl).trans c0
            have d1 : wo.cell? ⟨b, off + k * 10 + 1, none⟩ = some (.int .u32 dd) := (HR.out.bel.cell (p := ⟨b, _, none⟩) hbl).trans c1
            have d2 : wo.cell? ⟨b, off + k * 10 + 2, none⟩ = some (.int .i64 aw) := (HR.out.bel.cell (p := ⟨b, _, none⟩) hbl).trans c2
            have d3 : wo.cell? ⟨b, off + k * 10 + 3, none⟩ = some (.int .u32 at1) := (HR.out.bel.cell (p := ⟨b, _, none⟩) hbl).trans c3
            have d4 : wo.cell? ⟨b, off + k * 10 + 4, none⟩ = some (.int .u32 am) := (HR.out.bel.cell (p := ⟨b, _, none⟩) hbl).trans c4
            have d5 : wo.cell? ⟨b, off + k * 10 + 5, none⟩ = some (.bool ys) := (HR.out.bel.cell (p := ⟨b, _, none⟩) hbl).trans c5
            have d6 : wo.cell? ⟨b, off + k * 10 + 6, none⟩ = some (.string tk) := (HR.out.bel.cell (p := ⟨b, _, none⟩) hbl).trans c6
            have d7 : wo.cell? ⟨b, off + k * 10 + 7, none⟩ = some (.int .i64 nn) := (HR.out.bel.cell (p := ⟨b, _, none⟩) hbl).trans c7
            have d8 : wo.cell? ⟨b, off + k * 10 + 8, none⟩ = some (.int .i64 id) := (HR.out.bel.cell (p := ⟨b, _, none⟩) hbl).trans c8
            have d9 : wo.cell? ⟨b, off + k * 10 + 9, none⟩ = some (.slice ova OT.length ovc) := (HR.out.bel.cell (p := ⟨b, _, none⟩) hbl).trans c9
            have hk1 : (0 : Int) ≤ (k : Int) := by omega
            have hk2 : (k : Int) < (L.length : Int) := by omega
            have HX3 := Lib.hid (Blk.new wo #[.int .i64 kd, .int .u32 dd, .int .i64 aw, .int .u32 at1, .int .u32 am, .bool ys, .string tk, .int .i64 nn, .int .i64 id, .slice ova OT.length ovc] 42)
            have HBx3 := Lib.hid (below_alloc wo (.cells #[.int .i64 kd, .int .u32 dd, .int .i64 aw, .int .u32 at1, .int .u32 am, .bool ys, .string tk, .int .i64 nn, .int .i64 id, .slice ova OT.length ovc] 42))
            have Hlt := Lib.hid hlt
            have Hng : Hid (¬ S wo.heap.size) := Lib.hid (fun e => by have := HR.out.cel.lt _ e; omega)
            clear c0 c1 c2 c3 c4 c5 c6 c7 c8 c9 ho hcw
            go_upto_region 12 with fail
            clear d0 d1 d2 d3 d4 d5 d6 d7 d8 d9
            generalize wo.alloc (.cells #[.int .i64 kd, .int .u32 dd, .int .i64 aw, .int .u32 at1, .int .u32 am, .bool ys, .string tk, .int .i64 nn, .int .i64 id, .slice ova OT.length ovc] 42) = w3 at HX3 HBx3 ⊢
            generalize wo.heap.size = g7 at HX3 Hng ⊢
            have HR3 := Lib.hid (HR.out.next HBx3.out)
            by_cases h60 : 40 ≤ k
            · have e1 : decide ((40 : Int) ≤ (k : Int)) = true := by simp; omega
              clear h60
              go_wp2_with fail
              go_meet
              exact ⟨_, _, _, HR3⟩
            have e1 : decide ((40 : Int) ≤ (k : Int)) = false := by simp; omega
            have H60 : Hid (k < 40) := Lib.hid (by omega)
            clear h60
            have x0 : w3.cell? ⟨g7, 0, none⟩ = some (.int .i64 kd) := HX3.out.cell 0
            have x1 : w3.cell? ⟨g7, 1, none⟩ = some (.int .u32 dd) := HX3.out.cell 1
            have x2 : w3.cell? ⟨g7, 2, none⟩ = some (.int .i64 aw) := HX3.out.cell 2
            have x3 : w3.cell? ⟨g7, 3, none⟩ = some (.int .u32 at1) := HX3.out.cell 3
            have x4 : w3.cell? ⟨g7, 4, none⟩ = some (.int .u32 am) := HX3.out.cell 4
            have x5 : w3.cell? ⟨g7, 5, none⟩ = some (.bool ys) := HX3.out.cell 5
            have x6 : w3.cell? ⟨g7, 6, none⟩ = some (.string tk) := HX3.out.cell 6
            have x7 : w3.cell? ⟨g7, 7, none⟩ = some (.int .i64 nn) := HX3.out.cell 7
            have x8 : w3.cell? ⟨g7, 8, none⟩ = some (.int .i64 id) := HX3.out.cell 8
            have x9 : w3.cell? ⟨g7, 9, none⟩ = some (.slice ova OT.length ovc) := HX3.out.cell 9
            have HLt := Lib.hid (fun W (hW : Below w3.heap.size w3 W) => light_any ⟨kd, dd, ⟨aw, at1, am⟩, ys, tk, nn, id, ws⟩ (.slice ova OT.length ovc) OT W (HCw.out.rd.below (bel_trans HR3.out.bel hW)))
            unfold cmdV at HLt
            simp only at HLt
            by_cases hl : LightW tk OT
            · have HL := Lib.hid hl
              clear hl
              go_upto_region 13 with (first
                | (go_at_call 16; refine (HLt.out _ (bel_refl _)).mono ?_; rintro e w4 ⟨hs4, hb4⟩; obtain ⟨z, rfl, hz⟩ := says_out hs4; obtain rfl : z = true := hz.2 HL.out; have HB4 := Lib.hid hb4; clear hs4 hz hb4)
                | fail)
              clear x0 x1 x2 x3 x4 x5 x6 x7 x8 x9
              have HR8 := Lib.hid (HR3.out.next HB4.out)
              have HTo := Lib.hid (fun W (hW : Below w4.heap.size w4 W) => tocmd_any ⟨kd, dd, ⟨aw, at1, am⟩, ys, tk, nn, id, ws⟩ (.slice ova OT.length ovc) OT W (HCw.out.rd.below (bel_trans (bel_trans HR3.out.bel HB4.out) hW)) (by have := HL.out.1; omega) (fun x hx => (HCw.out.wr x hx).len))
              unfold cmdV at HTo
              simp only at HTo
              obtain ⟨z, hz⟩ : ∃ z, doC C ⟨kd, dd, ⟨aw, at1, am⟩, ys, tk, nn, id, ws⟩ = z := ⟨_, rfl⟩
              have Hz := Lib.hid hz
              have HDo : Hid (∀ W v' Q, Below w4.heap.size w4 W → CmdR W ⟨kd, dd, ⟨aw, at1, am⟩, ys, tk, nn, id, ws⟩ v' Q → Calls Tryz.prog 17 #[.pointer (some ⟨c, 0, none⟩), cmdV ⟨kd, dd, ⟨aw, at1, am⟩, ys, tk, nn, id, ws⟩ v'] W fun e w' => e = .returned (replyV z.1) ∧ ∃ S', Cel S' w' c z.2 (64 * k + 64) ∧ (∀ x, S' x → S x ∨ W.heap.size ≤ x) ∧ Turn S W w') := Lib.hid (fun W v' Q hW hm => by
                have := do_any ⟨kd, dd, ⟨aw, at1, am⟩, ys, tk, nn, id, ws⟩ v' Q W (HR8.out.cel.next hW) hm (by have := H60.out; omega) (by have := HR8.out.ticks; have := H60.out; omega) HCw.out.id
                rw [hz] at this
                exact this)
              obtain ⟨⟨ze, zd, zs, ⟨zw, zt, zm⟩⟩, C2⟩ := z
              unfold cmdV replyV replyA at HDo
              simp only at HDo
              clear hz
              have x0 : w4.cell? ⟨g7, 0, none⟩ = some (.int .i64 kd) := (HX3.out.next HB4.out).cell 0
              have x1 : w4.cell? ⟨g7, 1, none⟩ = some (.int .u32 dd) := (HX3.out.next HB4.out).cell 1
              have x2 : w4.cell? ⟨g7, 2, none⟩ = some (.int .i64 aw) := (HX3.out.next HB4.out).cell 2
              have x3 : w4.cell? ⟨g7, 3, none⟩ = some (.int .u32 at1) := (HX3.out.next HB4.out).cell 3
              have x4 : w4.cell? ⟨g7, 4, none⟩ = some (.int .u32 am) := (HX3.out.next HB4.out).cell 4
              have x5 : w4.cell? ⟨g7, 5, none⟩ = some (.bool ys) := (HX3.out.next HB4.out).cell 5
              have x6 : w4.cell? ⟨g7, 6, none⟩ = some (.string tk) := (HX3.out.next HB4.out).cell 6
              have x7 : w4.cell? ⟨g7, 7, none⟩ = some (.int .i64 nn) := (HX3.out.next HB4.out).cell 7
              have x8 : w4.cell? ⟨g7, 8, none⟩ = some (.int .i64 id) := (HX3.out.next HB4.out).cell 8
              have x9 : w4.cell? ⟨g7, 9, none⟩ = some (.slice ova OT.length ovc) := (HX3.out.next HB4.out).cell 9
              go_upto_region 14 with (first
                | (go_at_call 18; refine (HTo.out _ (bel_refl _)).mono ?_; rintro e w9 ⟨v', Q, rfl, hq, hpl, hb9⟩; obtain ⟨qa, qc, hqv, -⟩ := hq.open; subst hqv; have HB9 := Lib.hid hb9; have HCm := Lib.hid (to_cmdr (HCw.out.below (bel_trans HR8.out.bel hb9)) HL.out hq hpl); clear hq hpl hb9)
                | (go_at_call 17; refine (HDo.out _ _ _ HB9.out HCm.out).mono ?_; rintro e w10 ⟨rfl, S2, hc10, hS10, ht10⟩; have HC10 := Lib.hid hc10; have HS10 := Lib.hid hS10; have HT10 := Lib.hid ht10; clear hc10 hS10 ht10)
                | fail)
              clear x0 x1 x2 x3 x4 x5 x6 x7 x8 x9
              clear HLt HTo HDo
              have HR10 : Hid (Rm w w10 S2 c C2 (k + 1) sb f i n 0) := Lib.hid (by
                have h1 := HR8.out.done HB9.out (m := ⟨kd, dd, ⟨aw, at1, am⟩, ys, tk, nn, id, ws⟩) (S' := S2) (W' := w10) (by rw [Hz.out]; exact HC10.out) HS10.out HT10.out
                rw [Hz.out] at h1
                exact h1)
              go_wp2_with fail
              go_roundw
              case rel => exact ⟨k + 1, S2, C2, by have := Hlt.out; omega, by go_num, by have := H60.out; omega, HR10⟩
              case measure => have := Hlt.out; simp [intOf]; omega
            · go_wp2_with (first
                | (go_at_call 16; refine (HLt.out _ (bel_refl _)).mono ?_; rintro e w4 ⟨hs4, hb4⟩; obtain ⟨z, rfl, hz⟩ := says_out hs4; have hzf : z = false := (by cases z with | false => rfl | true => exact absurd (hz.1 rfl) hl); subst hzf; have HB4 := Lib.hid hb4; clear hs4 hz hb4)
                | fail)
              go_meet
              exact ⟨_, _, _, Lib.hid (HR3.out.next HB4.out)⟩
          · obtain rfl : k = L.length := by omega
            go_wp2_with fail
            go_meet
            exact ⟨_, _, _, HR⟩
      case rest =>
        obtain ⟨S, C, k, HR⟩ := hcut
        obtain ⟨wd, rfl⟩ : ∃ wd, wd = wc := ⟨_, rfl⟩
        have HBk := Lib.hid (book_any HR.out.cel)
        go_upto_region 16 with (first
          | (go_at_call 31; refine HBk.out.mono ?_; rintro e w4 ⟨v4, Q, rfl, hq, hqm⟩; have HQ4 := Lib.hid hq; have HQm := Lib.hid hqm; obtain ⟨a4, c4, hv4, -⟩ := book_cells hq.row; subst hv4; clear hq hqm)
          | fail)
        have HN4 : Hid (Nm w w4 sb f i n 0) := Lib.hid (HR.out.nm.next HQ4.out.bel)
        have HQo := Lib.hid HQ4.out.row
        have HI := Lib.hid HR.out.cel.inv
        have HId := Lib.hid HR.out.id
        have HQl : Hid (Q.length ≤ 1024) := Lib.hid (by have h1 := congrArg List.length HQm.out; rw [List.length_map] at h1; have := HI.out.nbook; omega)
        clear HBk
        go_loopw [7, 53] (fun lv jv wr => ∃ (j : Nat) (f : Lit → Option Value) (l : Int), j ≤ Q.length ∧ jv = .int .i64 j ∧ lv = .int .u32 l ∧ (0 ≤ l ∧ l ≤ (j : Int) * 4 + i) ∧ Hid (Nm w wr sb f i (n + j) l) ∧ Hid (Kt.Own 93 7 wr (.slice a4 Q.length c4) Q.length (flatE Q))) (fun _ jv _ => Q.length - (intOf jv).toNat)
        case atStart => exact ⟨0, _, 0, by omega, rfl, rfl, by omega, HN4, HQo⟩
        case round =>
          clear HN4 HQo
          obtain ⟨j, f, l, hj, rfl, rfl, hl, HN, HO⟩ := hrel
          by_cases hjl : j < Q.length
          · obtain ⟨q, hq⟩ : ∃ q, Q[j]? = some q := ⟨Q[j], List.getElem?_eq_getElem hjl⟩
            obtain ⟨a5, c5, e5, hcell⟩ := book_cells HO.out
            injection e5 with e5 _ e6
            subst e5 e6
            obtain ⟨b, rfl, hbl, k0, k1, k2, k3, k4, k5, k6⟩ := hcell j q hq
            obtain ⟨T, hT, -⟩ := HQ4.out.ws q (List.mem_of_getElem? hq)
            obtain ⟨ba, bc, hbv, -⟩ := hT.rd.open
            have hdd : q.1.deed = (j : Int) * 4 + i + 1 := by
              have h1 : C.book[j]? = some q.1 := by rw [← HQm.out, List.getElem?_map, hq]; rfl
              have h2 := (HI.out.entry j q.1 h1).1
              rw [HId.out] at h2
              exact h2
            obtain ⟨⟨tok, ed, es, ⟨ew, et, em⟩, ews⟩, sl⟩ := q
            simp only at k0 k1 k2 k3 k4 k5 k6 hbv hdd
            subst hbv hdd
            generalize T.length = bn at k6
            have Hjl := Lib.hid hjl
            have Hl := Lib.hid hl
            have hj1 : (0 : Int) ≤ (j : Int) := by omega
            have hj2 : (j : Int) < (Q.length : Int) := by omega
            have hj100 : (j : Int) < 1024 := by have := HQl.out; omega
            have HX5 := Lib.hid (Blk.new wr #[.string tok, .int .u32 ((j : Int) * 4 + i + 1), .int .i64 es, .int .i64 ew, .int .u32 et, .int .u32 em, .slice ba bn bc] 93)
            have HBx := Lib.hid (below_alloc wr (.cells #[.string tok, .int .u32 ((j : Int) * 4 + i + 1), .int .i64 es, .int .i64 ew, .int .u32 et, .int .u32 em, .slice ba bn bc] 93))
            clear hq hcell hT hl
            go_upto_region 18 with fail
            clear k0 k1 k2 k3 k4 k5 k6
            generalize wr.alloc (.cells #[.string tok, .int .u32 ((j : Int) * 4 + i + 1), .int .i64 es, .int .i64 ew, .int .u32 et, .int .u32 em, .slice ba bn bc] 93) = w5 at HX5 HBx ⊢
            generalize wr.heap.size = g5 at HX5 ⊢
            have HN5 := Lib.hid (HN.out.next HBx.out)
            have hlk := HN5.out.look Hl.out.2 Hi4.out (by have := HQl.out; have := Hjl.out; omega)
            obtain ⟨w6, n6, hr6, hm6, hn6, hg6⟩ := HN5.out.put Hl.out.2 Hi4.out (by have := HQl.out; have := Hjl.out; omega) (by have := Hn.out; have := HQl.out; have := Hjl.out; have := Hi4.out; omega)
            subst hn6
            have HN6 := Lib.hid hm6
            have HO6 : Hid (Kt.Own 93 7 w6 (.slice (some ⟨b, 0, none⟩) Q.length c4) Q.length (flatE Q)) := Lib.hid (Own.grown (HO.out.below' HBx.out) hg6 (fun x hx e => own_no_map (HO.out.below' HBx.out) HN5.out.map (by rw [hx, e])))
            have x1 : w5.cell? ⟨g5, 1, none⟩ = some (.int .u32 ((j : Int) * 4 + i + 1)) := HX5.out.cell 1
            have q1 : decide ((j : Int) * 4 + i + 1 ≤ l) = false := by have := Hl.out; simp only [decide_eq_false_iff_not]; omega
            clear hm6 hg6
            go_wp2_with fail
            go_roundw
            case rel => exact ⟨j + 1, _, _, by have := Hjl.out; omega, by go_num, rfl, by omega, by first | exact HN6 | (rw [Nat.add_assoc] at HN6; exact HN6), HO6⟩
            case measure => have := Hjl.out; simp [intOf]; omega
          · obtain rfl : j = Q.length := by omega
            have HQl2 := HQl
            go_wp2_with fail
            go_roundw
            case rel => exact ⟨i + 1, n + Q.length, f, by have := Hi4.out; omega, by go_num, by have := Hn.out; have := HQl2.out; omega, Lib.hid ⟨HN.out.map, HN.out.ge, HN.out.seen.up, HN.out.bel⟩⟩
            case measure => have := Hi4.out; simp [intOf]; omega
    · obtain rfl : i = 4 := by omega
      go_wp2_with fail
      go_ret
      exact ⟨rfl, HM.out.bel⟩
end Go.Proofs.YtbaflgddpciadaaGreat
