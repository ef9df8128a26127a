/- CellRises (10). -/
import Derived.Test.YtbaflgddpciadaaGreatEO
set_option linter.unusedVariables false
set_option linter.unusedSimpArgs false
namespace Go.Proofs.YtbaflgddpciadaaGreat
open Go.RowKit Go.Kt Go.Ix Go.Sx Go.Cx
set_option maxRecDepth 100000
/-! ### what was pinned -/
def hcells (q : Tm × Int) : List Value := [.int .i64 q.1.wall, .int .u32 q.1.tick, .int .u32 q.1.mark, .int .i64 q.2]
def flatH : List (Tm × Int) → List Value
  | [] => []
  | x :: t => hcells x ++ flatH t
theorem flatH_append (A B : List (Tm × Int)) : flatH (A ++ B) = flatH A ++ flatH B := by
  induction A with
  | nil => rfl
  | cons x t ih => simp only [List.cons_append, flatH, ih, List.append_assoc]
theorem flatH_get (T : List (Tm × Int)) : ∀ (i : Nat) (x : Tm × Int), T[i]? = some x → ∀ j, j < 4 → (flatH T)[i * 4 + j]? = (hcells x)[j]? := by
  induction T with
  | nil => intro i x h; simp at h
  | cons y t ih =>
    intro i x h j hj
    have hl : (hcells y).length = 4 := rfl
    match i with
    | 0 =>
      simp at h; subst h
      rw [flatH, Nat.zero_mul, Nat.zero_add, List.getElem?_append_left (by omega)]
    | i + 1 =>
      simp only [List.getElem?_cons_succ] at h
      have := ih i x h j hj
      rw [flatH, List.getElem?_append_right (by omega), hl, show (i + 1) * 4 + j - 4 = i * 4 + j by omega]
      exact this
theorem okH : ElemOk Tryz.prog 96 99 (.agg #[.int .i64 0, .int .u32 0, .int .u32 0, .int .i64 0]) 4 24 := ⟨Tryz.underlying96, info_parts (by kernel_rfl), rfl, by decide⟩
theorem h_one (a b c d : Int) : ∀ u ∈ (#[.int .i64 a, .int .u32 b, .int .u32 c, .int .i64 d] : Array Value).toList, u.oneCell' = true := by
  intro u hu
  simp only [List.mem_cons, List.not_mem_nil, or_false] at hu
  rcases hu with rfl | rfl | rfl | rfl <;> rfl
variable {S : Nat → Prop} {w w' : World} {c N : Nat} {C : Cl}
/-- between two commands -/
structure Rs (w wr : World) (S : Nat → Prop) (c : Nat) (C : Cl) (k : Nat) (v : Value) (H : List (Tm × Int)) : Prop where
  cel : Cel S wr c C (64 * k)
  ticks : C.ticks ≤ k
  pin : Go.Cx.Pinned C H
  row : Kt.Own 99 4 wr v H.length (flatH H)
  far : ∀ b, v.ownBlock = some b → ¬ S b ∧ w.heap.size ≤ b
  ge : ∀ x, S x → w.heap.size ≤ x
  len : H.length ≤ k
  bel : Below w.heap.size w wr
theorem Rs.next {wr wr' : World} {k : Nat} {v : Value} {H : List (Tm × Int)} (h : Rs w wr S c C k v H) (hb : Below wr.heap.size wr wr') : Rs w wr' S c C k v H :=
  ⟨h.cel.next hb, h.ticks, h.pin, h.row.below' hb, h.far, h.ge, h.len, bel_trans h.bel hb⟩
/-- a command was done -/
theorem Rs.done {wr W W' : World} {S' : Nat → Prop} {k : Nat} {v : Value} {H : List (Tm × Int)} (h : Rs w wr S c C k v H) (hb : Below wr.heap.size wr W) {m : Cmd} (hc : Cel S' W' c (doC C m).2 (64 * k + 64)) (hS : ∀ x, S' x → S x ∨ W.heap.size ≤ x) (ht : Turn S W W') : Rs w W' S' c (doC C m).2 (k + 1) v H := by
  have hW := h.next hb
  refine ⟨hc.more (by omega), ?_, (pinned_do h.cel.inv m h.pin).1, own_keep ht hW.row (fun b e hs => (h.far b e).1 hs), fun b e => ⟨fun hs => ?_, (h.far b e).2⟩, fun x hx => ?_, Nat.le_succ_of_le h.len, ?_⟩
  · have h1 := (do_rises C m).2.2.2; have h2 := h.ticks; omega
  · rcases hS b hs with h1 | h1
    · exact (h.far b e).1 h1
    · have := hW.row.lt b e; omega
  · rcases hS x hx with h1 | h1
    · exact h.ge x h1
    · exact Nat.le_trans hW.bel.size h1
  · have hT : Turn (fun x => w.heap.size ≤ x) w W' := (Turn.of hW.bel).trans ht (fun x hx => .inl (h.ge x hx))
    exact hT.bel (Nat.le_refl _) (fun x hx => hx)
/-- a pin noted -/
theorem Rs.push {wr W w7 : World} {k : Nat} {v v7 : Value} {H : List (Tm × Int)} {q : Tm × Int} (h : Rs w wr S c C k v H) (hk : H.length + 1 ≤ k) (hp : Go.Cx.Pinned C (H ++ [q])) (hb : Below wr.heap.size wr W) (ho7 : Kt.Own 99 4 w7 v7 (H.length + 1) (flatH H ++ hcells q)) (hg7 : W.grownBy w7 v.ownBlock) (hn7 : ∀ b, v7.ownBlock = some b → v.ownBlock = some b ∨ W.heap.size ≤ b) : Rs w w7 S c C k v7 (H ++ [q]) := by
  have hW := h.next hb
  have ht : Turn (fun x => v.ownBlock = some x) W w7 := Turn.grown (F := fun x => v.ownBlock = some x) hg7 (fun b e => e)
  refine ⟨hW.cel.keep ht (fun x hx => (h.far x hx).1), h.ticks, hp, ?_, fun b e => ?_, h.ge, by rw [List.length_append]; exact hk, ?_⟩
  · rw [flatH_append, List.length_append]
    exact cast (congrArg _ (by simp [flatH])) ho7
  · rcases hn7 b e with h1 | h1
    · exact h.far b h1
    · exact ⟨fun hs => by have := hW.cel.lt b hs; omega, Nat.le_trans hW.bel.size h1⟩
  · have hT : Turn (fun x => w.heap.size ≤ x) w w7 := (Turn.of hW.bel).trans ht (fun x hx => .inl (h.far x hx).2)
    exact hT.bel (Nat.le_refl _) (fun x hx => hx)
theorem pin_n {m : Cmd} (hk : m.kind = 8) (h : (doC C m).1.err = 0) : 1 ≤ m.n ∧ m.n ≤ 1048576 := by
  have e : doC C m = pinC C m := by unfold doC; simp [hk]
  rw [e] at h
  unfold pinC at h
  split at h
  · cases h
  · omega
set_option maxHeartbeats 16000000 in
theorem rises_any (v : Value) (L : List Cw) (w : World) (hv : RdC w v L) (hg : Glob w) : Calls Tryz.prog 10 #[v] w fun e w' => e = .returned (.bool true) ∧ Below w.heap.size w w' := by
  obtain ⟨la, lc, rfl, hcap, hbig, hcell⟩ := hv.open
  have Hcell := Lib.hid hcell
  have HG := Lib.hid hg
  have HNw := Lib.hid (new_cel 0 ⟨by decide, by decide⟩ w)
  clear hcell hv hg
  go_enter Tryz.func10, Tryz.ntmps10
  go_upto_region 6 with (first
    | (go_at_call 14; refine HNw.out.mono ?_; rintro e w1 ⟨c, S0, rfl, hc, hS, hb⟩; have HC0 := Lib.hid hc; have HS0 := Lib.hid hS; have HB1 := Lib.hid hb; clear hc hS hb)
    | (go_at_call 15; refine (awake_any _ (HG.out.below HB1.out)).mono ?_; rintro e w2 ⟨rfl, hb2⟩; have HB2 := Lib.hid hb2; clear hb2)
    | fail)
  have HR0 : Hid (Rs w w2 S0 c (newC 0) 0 (.slice none 0 0) []) := Lib.hid ⟨HC0.out.next HB2.out, (by decide), (fun p hp => by cases hp), own_nil _ _ _, (fun b e => by cases e), HS0.out, Nat.le_refl _, bel_trans HB1.out HB2.out⟩
  go_loopw [5, 26] (fun pv iv wr => ∃ (k : Nat) (S : Nat → Prop) (C : Cl) (H : List (Tm × Int)), k ≤ L.length ∧ iv = .int .i64 k ∧ k ≤ 60 ∧ Hid (Rs w wr S c C k pv H)) (fun _ iv _ => L.length - (intOf iv).toNat)
  case atStart => exact ⟨0, _, _, _, by omega, rfl, by omega, HR0⟩
  case round =>
    clear HR0
    obtain ⟨k, S, C, H, hk, rfl, hk60, HR⟩ := hrel
    obtain ⟨wo, rfl⟩ : ∃ wo, wo = wr := ⟨_, rfl⟩
    obtain ⟨-, pa, pc, rfl, -⟩ := HR.out.row.rd
    by_cases hlt : k < L.length
    · obtain ⟨o, ho⟩ : ∃ o, L[k]? = some o := ⟨L[k], List.getElem?_eq_getElem hlt⟩
      obtain ⟨hcw, b, off, rfl, hbl, c0, c1, c2, c3, c4, c5, c6, c7, c8, c9⟩ := Hcell.out k o ho
      obtain ⟨ova, ovc, hov, -⟩ := hcw.rd.open
      have HCw := Lib.hid hcw
      obtain ⟨⟨kd, dd, ⟨aw, at1, am⟩, ys, tk, nn, id, ws⟩, ov, OT⟩ := o
      simp only at c0 c1 c2 c3 c4 c5 c6 c7 c8 c9 hov
      subst hov
      have d0 : wo.cell? ⟨b, off + k * 10, none⟩ = some (.int .i64 kd) := (HR.out.bel.cell (p := ⟨b, _, none⟩) hbl).trans c0
      have d1 : wo.cell? ⟨b, off + k * 10 + 1, none⟩ = some (.int .u32 dd) := (HR.out.bel.cell (p := ⟨b, _, none⟩) hbl).trans c1
      have d2 : wo.cell? ⟨b, off + k * 10 + 2, none⟩ = some (.int .i64 aw) := (HR.out.bel.cell (p := ⟨b, _, none⟩) hbl).trans c2
      have d3 : wo.cell? ⟨b, off + k * 10 + 3, none⟩ = some (.int .u32 at1) := (HR.out.bel.cell (p := ⟨b, _, none⟩) hbl).trans c3
      have d4 : wo.cell? ⟨b, off + k * 10 + 4, none⟩ = some (.int .u32 am) := (HR.out.bel.cell (p := ⟨b, _, none⟩) hbl).trans c4
      have d5 : wo.cell? ⟨b, off + k * 10 + 5, none⟩ = some (.bool ys) := (HR.out.bel.cell (p := ⟨b, _, none⟩) hbl).trans c5
      have d6 : wo.cell? ⟨b, off + k * 10 + 6, none⟩ = some (.string tk) := (HR.out.bel.cell (p := ⟨b, _, none⟩) hbl).trans c6
      have d7 : wo.cell? ⟨b, off + k * 10 + 7, none⟩ = some (.int .i64 nn) := (HR.out.bel.cell (p := ⟨b, _, none⟩) hbl).trans c7
      have d8 : wo.cell? ⟨b, off + k * 10 + 8, none⟩ = some (.int .i64 id) := (HR.out.bel.cell (p := ⟨b, _, none⟩) hbl).trans c8
      have d9 : wo.cell? ⟨b, off + k * 10 + 9, none⟩ = some (.slice ova OT.length ovc) := (HR.out.bel.cell (p := ⟨b, _, none⟩) hbl).trans c9
      have hk1 : (0 : Int) ≤ (k : Int) := by omega
      have hk2 : (k : Int) < (L.length : Int) := by omega
      have HX3 := Lib.hid (Blk.new wo #[.int .i64 kd, .int .u32 dd, .int .i64 aw, .int .u32 at1, .int .u32 am, .bool ys, .string tk, .int .i64 nn, .int .i64 id, .slice ova OT.length ovc] 42)
      have HBx3 := Lib.hid (below_alloc wo (.cells #[.int .i64 kd, .int .u32 dd, .int .i64 aw, .int .u32 at1, .int .u32 am, .bool ys, .string tk, .int .i64 nn, .int .i64 id, .slice ova OT.length ovc] 42))
      have Hlt := Lib.hid hlt
      have Hng : Hid (¬ S wo.heap.size) := Lib.hid (fun e => by have := HR.out.cel.lt _ e; omega)
      clear c0 c1 c2 c3 c4 c5 c6 c7 c8 c9 ho hcw
      go_upto_region 8 with fail
      clear d0 d1 d2 d3 d4 d5 d6 d7 d8 d9
      generalize wo.alloc (.cells #[.int .i64 kd, .int .u32 dd, .int .i64 aw, .int .u32 at1, .int .u32 am, .bool ys, .string tk, .int .i64 nn, .int .i64 id, .slice ova OT.length ovc] 42) = w3 at HX3 HBx3 ⊢
      generalize wo.heap.size = g7 at HX3 Hng ⊢
      have HR3 := Lib.hid (HR.out.next HBx3.out)
      by_cases h60 : 60 ≤ k
      · have e1 : decide ((60 : Int) ≤ (k : Int)) = true := by simp; omega
        clear h60
        go_wp2_with fail
        go_ret
        exact ⟨rfl, HR3.out.bel⟩
      have e1 : decide ((60 : Int) ≤ (k : Int)) = false := by simp; omega
      have H60 : Hid (k < 60) := Lib.hid (by omega)
      clear h60
      have x0 : w3.cell? ⟨g7, 0, none⟩ = some (.int .i64 kd) := HX3.out.cell 0
      have x1 : w3.cell? ⟨g7, 1, none⟩ = some (.int .u32 dd) := HX3.out.cell 1
      have x2 : w3.cell? ⟨g7, 2, none⟩ = some (.int .i64 aw) := HX3.out.cell 2
      have x3 : w3.cell? ⟨g7, 3, none⟩ = some (.int .u32 at1) := HX3.out.cell 3
      have x4 : w3.cell? ⟨g7, 4, none⟩ = some (.int .u32 am) := HX3.out.cell 4
      have x5 : w3.cell? ⟨g7, 5, none⟩ = some (.bool ys) := HX3.out.cell 5
      have x6 : w3.cell? ⟨g7, 6, none⟩ = some (.string tk) := HX3.out.cell 6
      have x7 : w3.cell? ⟨g7, 7, none⟩ = some (.int .i64 nn) := HX3.out.cell 7
      have x8 : w3.cell? ⟨g7, 8, none⟩ = some (.int .i64 id) := HX3.out.cell 8
      have x9 : w3.cell? ⟨g7, 9, none⟩ = some (.slice ova OT.length ovc) := HX3.out.cell 9
      have HLt := Lib.hid (fun W (hW : Below w3.heap.size w3 W) => light_any ⟨kd, dd, ⟨aw, at1, am⟩, ys, tk, nn, id, ws⟩ (.slice ova OT.length ovc) OT W (HCw.out.rd.below (bel_trans HR3.out.bel hW)))
      unfold cmdV at HLt
      simp only at HLt
      by_cases hl : LightW tk OT
      · have HL := Lib.hid hl
        have HCl := Lib.hid (fun W (hW : Below w3.heap.size w3 W) => cel_closed (HR3.out.cel.next hW))
        have HSf := Lib.hid (fun W (hW : Below w3.heap.size w3 W) => cel_safe (HR3.out.cel.next hW))
        have HTi := Lib.hid (fun W (hW : Below w3.heap.size w3 W) => cel_ticks (HR3.out.cel.next hW))
        unfold Tm.val at HCl HSf
        clear hl
        go_upto_region 10 with (first
          | (go_at_call 16; refine (HLt.out _ (bel_refl _)).mono ?_; rintro e w4 ⟨hs4, hb4⟩; obtain ⟨z, rfl, hz⟩ := says_out hs4; obtain rfl : z = true := hz.2 HL.out; have HB4 := Lib.hid hb4; clear hs4 hz hb4)
          | (go_at_call 33; refine (HCl.out _ HB4.out).mono ?_; rintro e w5 ⟨rfl, hb5⟩; have HB5 := Lib.hid (bel_trans HB4.out hb5); clear hb5)
          | (go_at_call 34; refine (HSf.out _ HB5.out).mono ?_; rintro e w6 ⟨rfl, hb6⟩; have HB6 := Lib.hid (bel_trans HB5.out hb6); clear hb6)
          | (go_at_call 35; refine (HTi.out _ HB6.out).mono ?_; rintro e w7 ⟨rfl, hb7⟩; have HB7 := Lib.hid (bel_trans HB6.out hb7); clear hb7)
          | fail)
        have HA8 := Lib.hid ((Blk.new w7 #[.int .i64 C.closed.wall, .int .u32 C.closed.tick, .int .u32 C.closed.mark] 44).next (below_alloc _ (.cells #[.int .i64 C.safe.wall, .int .u32 C.safe.tick, .int .u32 C.safe.mark] 44)))
        have HS8 := Lib.hid (Blk.new (w7.alloc (.cells #[.int .i64 C.closed.wall, .int .u32 C.closed.tick, .int .u32 C.closed.mark] 44)) #[.int .i64 C.safe.wall, .int .u32 C.safe.tick, .int .u32 C.safe.mark] 44)
        rw [World.size_alloc] at HS8
        have HB8 := Lib.hid (bel_alloc (o := .cells #[.int .i64 C.safe.wall, .int .u32 C.safe.tick, .int .u32 C.safe.mark] 44) (bel_alloc (o := .cells #[.int .i64 C.closed.wall, .int .u32 C.closed.tick, .int .u32 C.closed.mark] 44) HB7.out))
        have HnS : Hid (¬ S w7.heap.size ∧ ¬ S (w7.heap.size + 1)) := Lib.hid ⟨fun e => by have := HR3.out.cel.lt _ e; have := HB7.out.size; omega, fun e => by have := HR3.out.cel.lt _ e; have := HB7.out.size; omega⟩
        clear x0 x1 x2 x3 x4 x5 x6 x7 x8 x9
        generalize (w7.alloc (.cells #[.int .i64 C.closed.wall, .int .u32 C.closed.tick, .int .u32 C.closed.mark] 44)).alloc (.cells #[.int .i64 C.safe.wall, .int .u32 C.safe.tick, .int .u32 C.safe.mark] 44) = w8 at HA8 HS8 HB8 ⊢
        generalize w7.heap.size = ga at HA8 HS8 HnS ⊢
        have HTo := Lib.hid (fun W (hW : Below w8.heap.size w8 W) => tocmd_any ⟨kd, dd, ⟨aw, at1, am⟩, ys, tk, nn, id, ws⟩ (.slice ova OT.length ovc) OT W (HCw.out.rd.below (bel_trans (bel_trans HR3.out.bel HB8.out) hW)) (by have := HL.out.1; omega) (fun x hx => (HCw.out.wr x hx).len))
        unfold cmdV at HTo
        simp only at HTo
        have HR8 := Lib.hid (HR3.out.next HB8.out)
        obtain ⟨z, hz⟩ : ∃ z, doC C ⟨kd, dd, ⟨aw, at1, am⟩, ys, tk, nn, id, ws⟩ = z := ⟨_, rfl⟩
        have Hz := Lib.hid hz
        have HDo : Hid (∀ W v' Q, Below w8.heap.size w8 W → CmdR W ⟨kd, dd, ⟨aw, at1, am⟩, ys, tk, nn, id, ws⟩ v' Q → Calls Tryz.prog 17 #[.pointer (some ⟨c, 0, none⟩), cmdV ⟨kd, dd, ⟨aw, at1, am⟩, ys, tk, nn, id, ws⟩ v'] W fun e w' => e = .returned (replyV z.1) ∧ ∃ S', Cel S' w' c z.2 (64 * k + 64) ∧ (∀ x, S' x → S x ∨ W.heap.size ≤ x) ∧ Turn S W w') := Lib.hid (fun W v' Q hW hm => by
          have := do_any ⟨kd, dd, ⟨aw, at1, am⟩, ys, tk, nn, id, ws⟩ v' Q W (HR8.out.cel.next hW) hm (by have := H60.out; omega) (by have := HR8.out.ticks; have := H60.out; omega) HCw.out.id
          rw [hz] at this
          exact this)
        obtain ⟨⟨ze, zd, zs, ⟨zw, zt, zm⟩⟩, C2⟩ := z
        unfold cmdV replyV replyA at HDo
        simp only at HDo
        clear hz
        have x0 : w8.cell? ⟨g7, 0, none⟩ = some (.int .i64 kd) := (HX3.out.next HB8.out).cell 0
        have x1 : w8.cell? ⟨g7, 1, none⟩ = some (.int .u32 dd) := (HX3.out.next HB8.out).cell 1
        have x2 : w8.cell? ⟨g7, 2, none⟩ = some (.int .i64 aw) := (HX3.out.next HB8.out).cell 2
        have x3 : w8.cell? ⟨g7, 3, none⟩ = some (.int .u32 at1) := (HX3.out.next HB8.out).cell 3
        have x4 : w8.cell? ⟨g7, 4, none⟩ = some (.int .u32 am) := (HX3.out.next HB8.out).cell 4
        have x5 : w8.cell? ⟨g7, 5, none⟩ = some (.bool ys) := (HX3.out.next HB8.out).cell 5
        have x6 : w8.cell? ⟨g7, 6, none⟩ = some (.string tk) := (HX3.out.next HB8.out).cell 6
        have x7 : w8.cell? ⟨g7, 7, none⟩ = some (.int .i64 nn) := (HX3.out.next HB8.out).cell 7
        have x8 : w8.cell? ⟨g7, 8, none⟩ = some (.int .i64 id) := (HX3.out.next HB8.out).cell 8
        have x9 : w8.cell? ⟨g7, 9, none⟩ = some (.slice ova OT.length ovc) := (HX3.out.next HB8.out).cell 9
        go_upto_region 11 with (first
          | (go_at_call 18; refine (HTo.out _ (bel_refl _)).mono ?_; rintro e w9 ⟨v', Q, rfl, hq, hpl, hb9⟩; obtain ⟨qa, qc, hqv, -⟩ := hq.open; subst hqv; have HB9 := Lib.hid hb9; have HCm := Lib.hid (to_cmdr (HCw.out.below (bel_trans HR8.out.bel hb9)) HL.out hq hpl); clear hq hpl hb9)
          | (go_at_call 17; refine (HDo.out _ _ _ HB9.out HCm.out).mono ?_; rintro e w10 ⟨rfl, S2, hc10, hS10, ht10⟩; have HC10 := Lib.hid hc10; have HS10 := Lib.hid hS10; have HT10 := Lib.hid ht10; clear hc10 hS10 ht10)
          | fail)
        clear x0 x1 x2 x3 x4 x5 x6 x7 x8 x9 HLt HCl HSf HTi HTo HDo
        have HR10 : Hid (Rs w w10 S2 c C2 (k + 1) (.slice pa H.length pc) H) := Lib.hid (by
          have h1 := HR8.out.done HB9.out (m := ⟨kd, dd, ⟨aw, at1, am⟩, ys, tk, nn, id, ws⟩) (S' := S2) (W' := w10) (by rw [Hz.out]; exact HC10.out) HS10.out HT10.out
          rw [Hz.out] at h1
          exact h1)
        have HGa : Hid (ga < w9.heap.size ∧ ga + 1 < w9.heap.size ∧ g7 < w9.heap.size) := Lib.hid ⟨(HA8.out.next HB9.out).lt, (HS8.out.next HB9.out).lt, ((HX3.out.next HB8.out).next HB9.out).lt⟩
        have HA10 := Lib.hid (blk_keep HT10.out (HA8.out.next HB9.out) HnS.out.1)
        have HS10b := Lib.hid (blk_keep HT10.out (HS8.out.next HB9.out) HnS.out.2)
        have HX10 := Lib.hid (blk_keep HT10.out ((HX3.out.next HB8.out).next HB9.out) Hng.out)
        have HY11 := Lib.hid (Blk.new w10 #[.int .i64 ze, .int .u32 zd, .int .i64 zs, .int .i64 zw, .int .u32 zt, .int .u32 zm] 46)
        have HB11 := Lib.hid (below_alloc w10 (.cells #[.int .i64 ze, .int .u32 zd, .int .i64 zs, .int .i64 zw, .int .u32 zt, .int .u32 zm] 46))
        generalize w10.alloc (.cells #[.int .i64 ze, .int .u32 zd, .int .i64 zs, .int .i64 zw, .int .u32 zt, .int .u32 zm] 46) = w11 at HY11 HB11 ⊢
        generalize w10.heap.size = gr at HY11 ⊢
        have HR11 := Lib.hid (HR10.out.next HB11.out)
        have HA11 := Lib.hid (HA10.out.next HB11.out)
        have HS11 := Lib.hid (HS10b.out.next HB11.out)
        have HX11 := Lib.hid (HX10.out.next HB11.out)
        have HCl := Lib.hid (fun q : GrownOf w11 => cel_closed (HR11.out.cel.next q.b))
        have HSf := Lib.hid (fun q : GrownOf w11 => cel_safe (HR11.out.cel.next q.b))
        have HTi := Lib.hid (fun q : GrownOf w11 => cel_ticks (HR11.out.cel.next q.b))
        have HRi : Hid (¬ C2.closed.lt C.closed ∧ ¬ C2.safe.lt C.safe ∧ C.ticks ≤ C2.ticks) := Lib.hid (by have := do_rises C ⟨kd, dd, ⟨aw, at1, am⟩, ys, tk, nn, id, ws⟩; rw [Hz.out] at this; exact ⟨this.1, this.2.1, this.2.2.1⟩)
        have HCm1 := Lib.hid (fun W => compare_any C2.closed C.closed W)
        have HCm2 := Lib.hid (fun W => compare_any C2.safe C.safe W)
        unfold Tm.val at HCm1 HCm2 HCl HSf
        have hz1 : decide (cmpT C2.closed C.closed < 0) = false := by simp only [decide_eq_false_iff_not]; exact fun h => HRi.out.1 (cmpT_lt.1 h)
        have hz2 : decide (cmpT C2.safe C.safe < 0) = false := by simp only [decide_eq_false_iff_not]; exact fun h => HRi.out.2.1 (cmpT_lt.1 h)
        have hz3 : decide (C2.ticks < C.ticks) = false := by simp only [decide_eq_false_iff_not]; have := HRi.out.2.2; omega
        generalize cmpT C2.closed C.closed = z1 at HCm1 hz1
        generalize cmpT C2.safe C.safe = z2 at HCm2 hz2
        have a0 : ∀ q : GrownOf w11, q.W.cell? ⟨ga, 0, none⟩ = some (.int .i64 C.closed.wall) := fun q => (HA11.out.next q.b).cell 0
        have a1 : ∀ q : GrownOf w11, q.W.cell? ⟨ga, 1, none⟩ = some (.int .u32 C.closed.tick) := fun q => (HA11.out.next q.b).cell 1
        have a2 : ∀ q : GrownOf w11, q.W.cell? ⟨ga, 2, none⟩ = some (.int .u32 C.closed.mark) := fun q => (HA11.out.next q.b).cell 2
        have s0 : ∀ q : GrownOf w11, q.W.cell? ⟨ga + 1, 0, none⟩ = some (.int .i64 C.safe.wall) := fun q => (HS11.out.next q.b).cell 0
        have s1 : ∀ q : GrownOf w11, q.W.cell? ⟨ga + 1, 1, none⟩ = some (.int .u32 C.safe.tick) := fun q => (HS11.out.next q.b).cell 1
        have s2 : ∀ q : GrownOf w11, q.W.cell? ⟨ga + 1, 2, none⟩ = some (.int .u32 C.safe.mark) := fun q => (HS11.out.next q.b).cell 2
        refine wp_region_grown (by kernel_rfl) (by kernel_rfl) ?_
        repeat (go_big_quiet_step (first
          | (go_at_call 33; refine (HCl.out _).mono ?_; rintro e w9 ⟨rfl, hb9⟩; exact ⟨rfl, ⟨w9, bel_trans (GrownOf.b _) hb9⟩, rfl⟩)
          | (go_at_call 34; refine (HSf.out _).mono ?_; rintro e w9 ⟨rfl, hb9⟩; exact ⟨rfl, ⟨w9, bel_trans (GrownOf.b _) hb9⟩, rfl⟩)
          | (go_at_call 35; refine (HTi.out _).mono ?_; rintro e w9 ⟨rfl, hb9⟩; exact ⟨rfl, ⟨w9, bel_trans (GrownOf.b _) hb9⟩, rfl⟩)
          | (go_at_call 26; first | ((with_reducible refine (HCm1.out _).mono ?_); rintro e w9 ⟨rfl, hb9⟩; exact ⟨rfl, ⟨w9, bel_trans (GrownOf.b _) hb9⟩, rfl⟩) | ((with_reducible refine (HCm2.out _).mono ?_); rintro e w9 ⟨rfl, hb9⟩; exact ⟨rfl, ⟨w9, bel_trans (GrownOf.b _) hb9⟩, rfl⟩))))
        refine wpQuiet_nil ?_
        rintro w12 ⟨⟨_, hb12⟩, rfl⟩
        have HB12 := Lib.hid hb12
        clear hb12 a0 a1 a2 s0 s1 s2 HCl HSf HTi
        have HR12 := Lib.hid (HR11.out.next HB12.out)
        have HX12 := Lib.hid (HX11.out.next HB12.out)
        have HY12 := Lib.hid (HY11.out.next HB12.out)
        go_upto_region 13 with fail
        clear hz1 hz2 hz3 HCm1 HCm2
        have x0 : w12.cell? ⟨g7, 0, none⟩ = some (.int .i64 kd) := HX12.out.cell 0
        have y0 : w12.cell? ⟨gr, 0, none⟩ = some (.int .i64 ze) := HY12.out.cell 0
        by_cases h8 : kd = 8 ∧ ze = 0
        · have HPn : Hid (Go.Cx.Pinned C2 (H ++ [(⟨aw, at1, am⟩, C2.ticks + nn)])) := Lib.hid (by
            have h1 := (pinned_do HR8.out.cel.inv ⟨kd, dd, ⟨aw, at1, am⟩, ys, tk, nn, id, ws⟩ HR8.out.pin).2 h8.1 (by rw [Hz.out]; exact h8.2)
            rw [Hz.out] at h1
            exact h1)
          have HNn : Hid (1 ≤ nn ∧ nn ≤ 1048576) := Lib.hid (by have := pin_n (C := C) (m := ⟨kd, dd, ⟨aw, at1, am⟩, ys, tk, nn, id, ws⟩) h8.1 (by rw [Hz.out]; exact h8.2); exact this)
          have e8 : (kd == 8) = true := by rw [h8.1]; rfl
          have e9 : (ze == 0) = true := by rw [h8.2]; rfl
          have hw : IntKind.i64.wrap (C2.ticks + nn) = C2.ticks + nn := by have h1 := HNn.out; have h2 := HR12.out.ticks; have h3 := HR12.out.cel.inv.ticks; have h4 := H60.out; rw [IntKind.wrap_i64]; omega
          have HLe : Hid (H.length ≤ k) := Lib.hid HR.out.len
          have HT1 := Lib.hid (fun W => to_any1 ⟨aw, at1, am⟩ W)
          unfold Tm.val at HT1
          simp only at HT1
          have HTi := Lib.hid (fun W (hW : Below w12.heap.size w12 W) => cel_ticks (HR12.out.cel.next hW))
          clear h8
          go_upto_region 14 with fail
          clear x0 y0 e8 e9
          have hgl : g7 < w12.heap.size := HX12.out.lt
          have HKs : Hid (∀ W, Below w12.heap.size w12 W → W.cell? ⟨g7, 2, none⟩ = some (.int .i64 aw) ∧ W.cell? ⟨g7, 3, none⟩ = some (.int .u32 at1) ∧ W.cell? ⟨g7, 4, none⟩ = some (.int .u32 am) ∧ W.cell? ⟨g7, 7, none⟩ = some (.int .i64 nn)) := Lib.hid (fun W hW => ⟨(HX12.out.next hW).cell 2, (HX12.out.next hW).cell 3, (HX12.out.next hW).cell 4, (HX12.out.next hW).cell 7⟩)
          have hx0 := bel_refl w12
          obtain ⟨q0, q1, q2, q3⟩ := HKs.out w12 hx0
          go_region_held3 (fun W => W.cell? ⟨g7, 2, none⟩ = some (.int .i64 aw) ∧ W.cell? ⟨g7, 3, none⟩ = some (.int .u32 at1) ∧ W.cell? ⟨g7, 4, none⟩ = some (.int .u32 am) ∧ W.cell? ⟨g7, 7, none⟩ = some (.int .i64 nn))
            (first | (with_reducible exact ⟨q0, q1, q2, q3⟩) | (with_reducible exact ⟨y0, y1, y2, y3⟩) | (with_reducible refine HKs.out _ ?_; (repeat (first | assumption | apply bel_alloc | apply bel_drew)); done) | go_keep)
            (first
              | (go_simp; go_at_call 22; refine (HT1.out _).mono ?_; rintro e w13 ⟨rfl, hb13⟩; have hx13 : Below w12.heap.size w12 w13 := bel_trans (by repeat (first | exact bel_refl _ | assumption | apply bel_alloc | apply bel_drew)) hb13; clear hb13)
              | (go_simp; go_at_call 35; refine (HTi.out _ (by repeat (first | exact bel_refl _ | assumption | apply bel_alloc | apply bel_drew))).mono ?_; rintro e w14 ⟨rfl, hb14⟩; have hx14 : Below w12.heap.size w12 w14 := bel_trans (by repeat (first | exact bel_refl _ | assumption | apply bel_alloc | apply bel_drew)) hb14; clear hb14)
              | (refine step_app (by rfl) _ _ 96 (by rfl) okH (by rfl) (by rfl) (HR12.out.row.below' (by repeat (first | exact bel_refl _ | assumption | apply bel_alloc | apply bel_drew))) (own_lit_at (g := _) 99 4 #[.int .i64 aw, .int .u32 at1, .int .u32 am, .int .i64 (C2.ticks + nn)] 1 (by simp [maxLen]) rfl (by simp)).rd (h_one _ _ _ _) (by have h1 := HLe.out; have h2 := H60.out; simp only [maxLen]; omega) (by have h1 := HLe.out; have h2 := H60.out; omega) ?_; intro v7 w17 ho7 hg7 hn7; obtain ⟨-, a7, c7, rfl, -⟩ := ho7.rd; have HR17 := Lib.hid (HR12.out.push (q := (⟨aw, at1, am⟩, C2.ticks + nn)) (by have h1 := HLe.out; omega) HPn.out (by repeat (first | exact bel_refl _ | assumption | apply bel_alloc | apply bel_drew)) ho7 hg7 hn7); have hb17 := Blk.grown (HX12.out.next (by repeat (first | exact bel_refl _ | assumption | apply bel_alloc | apply bel_drew))) hg7 (own_no_blk (HR12.out.row.below' (by repeat (first | exact bel_refl _ | assumption | apply bel_alloc | apply bel_drew))) (HX12.out.next (by repeat (first | exact bel_refl _ | assumption | apply bel_alloc | apply bel_drew))) (by decide)); have y0 : w17.cell? ⟨g7, 2, none⟩ = some (.int .i64 aw) := hb17.cell 2; have y1 : w17.cell? ⟨g7, 3, none⟩ = some (.int .u32 at1) := hb17.cell 3; have y2 : w17.cell? ⟨g7, 4, none⟩ = some (.int .u32 am) := hb17.cell 4; have y3 : w17.cell? ⟨g7, 7, none⟩ = some (.int .i64 nn) := hb17.cell 7; clear ho7 hg7 hn7 hb17))
          clear q0 q1 q2 q3 HKs hx0 hgl
          clear y0 y1 y2 y3
          obtain ⟨H2, hH2⟩ : ∃ H2 : List (Tm × Int), H2 = H ++ [(⟨aw, at1, am⟩, C2.ticks + nn)] := ⟨_, rfl⟩
          have hl2 : H2.length = H.length + 1 := by rw [hH2, List.length_append]; rfl
          have HR18 : Hid (Rs w w17 S2 c C2 (k + 1) (.slice a7 H2.length c7) H2) := Lib.hid (by rw [hl2, hH2]; exact HR17.out)
          rw [← hl2]
          clear hl2 hH2 HR17 HPn
          go_upto_region 16 with fail
          have HRj := HR18
          go_loopw [88] (fun jv wq => ∃ j : Nat, j ≤ (H2).length ∧ jv = .int .i64 j ∧ Hid (Rs w wq S2 c C2 (k + 1) (.slice a7 (H2).length c7) (H2))) (fun jv _ => (H2).length - (intOf jv).toNat)
          case atStart => exact ⟨0, by omega, rfl, HRj⟩
          case round =>
            clear HRj
            obtain ⟨j, hj, rfl, HRq⟩ := hrel
            by_cases hjl : j < (H2).length
            · obtain ⟨q, hq⟩ : ∃ q, (H2)[j]? = some q := ⟨(H2)[j], List.getElem?_eq_getElem hjl⟩
              obtain ⟨⟨qw, qt, qm⟩, qu⟩ := q
              have HQs : Hid (C2.ticks < qu → ¬ (⟨qw, qt, qm⟩ : Tm).lt C2.safe) := Lib.hid (fun h => pinned_safe HRq.out.cel.inv HRq.out.pin (⟨qw, qt, qm⟩, qu) (List.mem_of_getElem? hq) h)
              have hce : ∀ i, i < 4 → ∃ b, a7 = some ⟨b, 0, none⟩ ∧ wr.cell? ⟨b, j * 4 + i, none⟩ = (hcells (⟨qw, qt, qm⟩, qu))[i]? := fun i hi => by
                obtain ⟨b, c', e, hc, -⟩ := own_place HRq.out.row (j := j * 4 + i) (by omega)
                injection e with e1
                exact ⟨b, e1, by rw [hc, flatH_get _ j _ hq i hi]⟩
              obtain ⟨pb, epb, p0⟩ := hce 0 (by omega)
              have hcf : ∀ i, i < 4 → wr.cell? ⟨pb, j * 4 + i, none⟩ = (hcells (⟨qw, qt, qm⟩, qu))[i]? := fun i hi => by
                obtain ⟨b, e, h⟩ := hce i hi
                rw [epb] at e
                cases e
                exact h
              have p0 : wr.cell? ⟨pb, j * 4, none⟩ = some (.int .i64 qw) := hcf 0 (by omega)
              have p1 : wr.cell? ⟨pb, j * 4 + 1, none⟩ = some (.int .u32 qt) := hcf 1 (by omega)
              have p2 : wr.cell? ⟨pb, j * 4 + 2, none⟩ = some (.int .u32 qm) := hcf 2 (by omega)
              have p3 : wr.cell? ⟨pb, j * 4 + 3, none⟩ = some (.int .i64 qu) := hcf 3 (by omega)
              have Hjl := Lib.hid hjl
              have hj100 : (j : Int) < 1000 := by have h1 := HRq.out.len; have h2 := H60.out; omega
              have hj1 : (0 : Int) ≤ (j : Int) := by omega
              have hj2 : (j : Int) < (((H2).length : Nat) : Int) := by omega
              have HXq := Lib.hid (Blk.new wr #[.int .i64 qw, .int .u32 qt, .int .u32 qm, .int .i64 qu] 99)
              have HBq := Lib.hid (below_alloc wr (.cells #[.int .i64 qw, .int .u32 qt, .int .u32 qm, .int .i64 qu] 99))
              subst epb
              clear hce hcf hq
              go_upto_region 18 with fail
              clear p0 p1 p2 p3
              generalize wr.alloc (.cells #[.int .i64 qw, .int .u32 qt, .int .u32 qm, .int .i64 qu] 99) = w15 at HXq HBq ⊢
              generalize wr.heap.size = gq at HXq ⊢
              have HR15 := Lib.hid (HRq.out.next HBq.out)
              have HSf := Lib.hid (fun q : GrownOf w15 => cel_safe (HR15.out.cel.next q.b))
              have HTi := Lib.hid (fun q : GrownOf w15 => cel_ticks (HR15.out.cel.next q.b))
              have HCm := Lib.hid (fun W => compare_any ⟨qw, qt, qm⟩ C2.safe W)
              unfold Tm.val at HCm HSf
              simp only at HCm
              have HLt : Hid (cmpT ⟨qw, qt, qm⟩ C2.safe < 0 ↔ (⟨qw, qt, qm⟩ : Tm).lt C2.safe) := Lib.hid cmpT_lt
              generalize cmpT ⟨qw, qt, qm⟩ C2.safe = z3 at HCm HLt
              have q0 : ∀ q : GrownOf w15, q.W.cell? ⟨gq, 0, none⟩ = some (.int .i64 qw) := fun q => (HXq.out.next q.b).cell 0
              have q1 : ∀ q : GrownOf w15, q.W.cell? ⟨gq, 1, none⟩ = some (.int .u32 qt) := fun q => (HXq.out.next q.b).cell 1
              have q2 : ∀ q : GrownOf w15, q.W.cell? ⟨gq, 2, none⟩ = some (.int .u32 qm) := fun q => (HXq.out.next q.b).cell 2
              have q3 : ∀ q : GrownOf w15, q.W.cell? ⟨gq, 3, none⟩ = some (.int .i64 qu) := fun q => (HXq.out.next q.b).cell 3
              by_cases hu : C2.ticks < qu
              · have hub : decide (C2.ticks < qu) = true := by simpa using hu
                have hzb : decide (z3 < 0) = false := by simp only [decide_eq_false_iff_not]; exact fun h => HQs.out hu (HLt.out.1 h)
                clear hu
                refine wp_region_grown (by kernel_rfl) (by kernel_rfl) ?_
                repeat (go_big_quiet_step (first
                  | (go_at_call 34; refine (HSf.out _).mono ?_; rintro e w9 ⟨rfl, hb9⟩; exact ⟨rfl, ⟨w9, bel_trans (GrownOf.b _) hb9⟩, rfl⟩)
                  | (go_at_call 35; refine (HTi.out _).mono ?_; rintro e w9 ⟨rfl, hb9⟩; exact ⟨rfl, ⟨w9, bel_trans (GrownOf.b _) hb9⟩, rfl⟩)
                  | (go_at_call 26; refine (HCm.out _).mono ?_; rintro e w9 ⟨rfl, hb9⟩; exact ⟨rfl, ⟨w9, bel_trans (GrownOf.b _) hb9⟩, rfl⟩)))
                refine wpQuiet_nil ?_
                rintro w16 ⟨⟨_, hb16⟩, rfl⟩
                have HR16 := Lib.hid (HR15.out.next hb16)
                clear hb16 q0 q1 q2 q3
                go_wp2_with fail
                go_roundw
                case rel => exact ⟨j + 1, Hjl.out, by go_num, HR16⟩
                case measure => have := Hjl.out; simp [intOf]; omega
              · have hub : decide (C2.ticks < qu) = false := by simpa using hu
                clear hu
                refine wp_region_grown (by kernel_rfl) (by kernel_rfl) ?_
                repeat (go_big_quiet_step (first
                  | (go_at_call 34; refine (HSf.out _).mono ?_; rintro e w9 ⟨rfl, hb9⟩; exact ⟨rfl, ⟨w9, bel_trans (GrownOf.b _) hb9⟩, rfl⟩)
                  | (go_at_call 35; refine (HTi.out _).mono ?_; rintro e w9 ⟨rfl, hb9⟩; exact ⟨rfl, ⟨w9, bel_trans (GrownOf.b _) hb9⟩, rfl⟩)
                  | (go_at_call 26; refine (HCm.out _).mono ?_; rintro e w9 ⟨rfl, hb9⟩; exact ⟨rfl, ⟨w9, bel_trans (GrownOf.b _) hb9⟩, rfl⟩)))
                refine wpQuiet_nil ?_
                rintro w16 ⟨⟨_, hb16⟩, rfl⟩
                have HR16 := Lib.hid (HR15.out.next hb16)
                clear hb16 q0 q1 q2 q3
                go_wp2_with fail
                go_roundw
                case rel => exact ⟨j + 1, Hjl.out, by go_num, HR16⟩
                case measure => have := Hjl.out; simp [intOf]; omega
            · obtain rfl : j = (H2).length := by omega
              go_wp2_with fail
              go_roundw
              case rel => exact ⟨k + 1, S2, C2, _, by have := Hlt.out; omega, by go_num, by have := H60.out; omega, HRq⟩
              case measure => have := Hlt.out; simp [intOf]; omega
        have h8b : (kd == 8 && ze == 0) = false := by
          cases h : (kd == 8 && ze == 0) with
          | false => rfl
          | true => simp only [Bool.and_eq_true, beq_iff_eq] at h; exact absurd h h8
        by_cases hk8 : kd = 8
        · have e8 : (kd == 8) = true := by rw [hk8]; rfl
          have e9 : (ze == 0) = false := bne_of (fun e => h8 ⟨hk8, e⟩)
          clear h8 h8b hk8
          go_upto_region 15 with fail
          clear x0 y0 e8 e9
          go_upto_region 16 with fail
          have HRj := HR12
          go_loopw [88] (fun jv wq => ∃ j : Nat, j ≤ (H).length ∧ jv = .int .i64 j ∧ Hid (Rs w wq S2 c C2 (k + 1) (.slice pa (H).length pc) (H))) (fun jv _ => (H).length - (intOf jv).toNat)
          case atStart => exact ⟨0, by omega, rfl, HRj⟩
          case round =>
            clear HRj
            obtain ⟨j, hj, rfl, HRq⟩ := hrel
            by_cases hjl : j < (H).length
            · obtain ⟨q, hq⟩ : ∃ q, (H)[j]? = some q := ⟨(H)[j], List.getElem?_eq_getElem hjl⟩
              obtain ⟨⟨qw, qt, qm⟩, qu⟩ := q
              have HQs : Hid (C2.ticks < qu → ¬ (⟨qw, qt, qm⟩ : Tm).lt C2.safe) := Lib.hid (fun h => pinned_safe HRq.out.cel.inv HRq.out.pin (⟨qw, qt, qm⟩, qu) (List.mem_of_getElem? hq) h)
              have hce : ∀ i, i < 4 → ∃ b, pa = some ⟨b, 0, none⟩ ∧ wr.cell? ⟨b, j * 4 + i, none⟩ = (hcells (⟨qw, qt, qm⟩, qu))[i]? := fun i hi => by
                obtain ⟨b, c', e, hc, -⟩ := own_place HRq.out.row (j := j * 4 + i) (by omega)
                injection e with e1
                exact ⟨b, e1, by rw [hc, flatH_get _ j _ hq i hi]⟩
              obtain ⟨pb, epb, p0⟩ := hce 0 (by omega)
              have hcf : ∀ i, i < 4 → wr.cell? ⟨pb, j * 4 + i, none⟩ = (hcells (⟨qw, qt, qm⟩, qu))[i]? := fun i hi => by
                obtain ⟨b, e, h⟩ := hce i hi
                rw [epb] at e
                cases e
                exact h
              have p0 : wr.cell? ⟨pb, j * 4, none⟩ = some (.int .i64 qw) := hcf 0 (by omega)
              have p1 : wr.cell? ⟨pb, j * 4 + 1, none⟩ = some (.int .u32 qt) := hcf 1 (by omega)
              have p2 : wr.cell? ⟨pb, j * 4 + 2, none⟩ = some (.int .u32 qm) := hcf 2 (by omega)
              have p3 : wr.cell? ⟨pb, j * 4 + 3, none⟩ = some (.int .i64 qu) := hcf 3 (by omega)
              have Hjl := Lib.hid hjl
              have hj100 : (j : Int) < 1000 := by have h1 := HRq.out.len; have h2 := H60.out; omega
              have hj1 : (0 : Int) ≤ (j : Int) := by omega
              have hj2 : (j : Int) < (((H).length : Nat) : Int) := by omega
              have HXq := Lib.hid (Blk.new wr #[.int .i64 qw, .int .u32 qt, .int .u32 qm, .int .i64 qu] 99)
              have HBq := Lib.hid (below_alloc wr (.cells #[.int .i64 qw, .int .u32 qt, .int .u32 qm, .int .i64 qu] 99))
              subst epb
              clear hce hcf hq
              go_upto_region 18 with fail
              clear p0 p1 p2 p3
              generalize wr.alloc (.cells #[.int .i64 qw, .int .u32 qt, .int .u32 qm, .int .i64 qu] 99) = w15 at HXq HBq ⊢
              generalize wr.heap.size = gq at HXq ⊢
              have HR15 := Lib.hid (HRq.out.next HBq.out)
              have HSf := Lib.hid (fun q : GrownOf w15 => cel_safe (HR15.out.cel.next q.b))
              have HTi := Lib.hid (fun q : GrownOf w15 => cel_ticks (HR15.out.cel.next q.b))
              have HCm := Lib.hid (fun W => compare_any ⟨qw, qt, qm⟩ C2.safe W)
              unfold Tm.val at HCm HSf
              simp only at HCm
              have HLt : Hid (cmpT ⟨qw, qt, qm⟩ C2.safe < 0 ↔ (⟨qw, qt, qm⟩ : Tm).lt C2.safe) := Lib.hid cmpT_lt
              generalize cmpT ⟨qw, qt, qm⟩ C2.safe = z3 at HCm HLt
              have q0 : ∀ q : GrownOf w15, q.W.cell? ⟨gq, 0, none⟩ = some (.int .i64 qw) := fun q => (HXq.out.next q.b).cell 0
              have q1 : ∀ q : GrownOf w15, q.W.cell? ⟨gq, 1, none⟩ = some (.int .u32 qt) := fun q => (HXq.out.next q.b).cell 1
              have q2 : ∀ q : GrownOf w15, q.W.cell? ⟨gq, 2, none⟩ = some (.int .u32 qm) := fun q => (HXq.out.next q.b).cell 2
              have q3 : ∀ q : GrownOf w15, q.W.cell? ⟨gq, 3, none⟩ = some (.int .i64 qu) := fun q => (HXq.out.next q.b).cell 3
              by_cases hu : C2.ticks < qu
              · have hub : decide (C2.ticks < qu) = true := by simpa using hu
                have hzb : decide (z3 < 0) = false := by simp only [decide_eq_false_iff_not]; exact fun h => HQs.out hu (HLt.out.1 h)
                clear hu
                refine wp_region_grown (by kernel_rfl) (by kernel_rfl) ?_
                repeat (go_big_quiet_step (first
                  | (go_at_call 34; refine (HSf.out _).mono ?_; rintro e w9 ⟨rfl, hb9⟩; exact ⟨rfl, ⟨w9, bel_trans (GrownOf.b _) hb9⟩, rfl⟩)
                  | (go_at_call 35; refine (HTi.out _).mono ?_; rintro e w9 ⟨rfl, hb9⟩; exact ⟨rfl, ⟨w9, bel_trans (GrownOf.b _) hb9⟩, rfl⟩)
                  | (go_at_call 26; refine (HCm.out _).mono ?_; rintro e w9 ⟨rfl, hb9⟩; exact ⟨rfl, ⟨w9, bel_trans (GrownOf.b _) hb9⟩, rfl⟩)))
                refine wpQuiet_nil ?_
                rintro w16 ⟨⟨_, hb16⟩, rfl⟩
                have HR16 := Lib.hid (HR15.out.next hb16)
                clear hb16 q0 q1 q2 q3
                go_wp2_with fail
                go_roundw
                case rel => exact ⟨j + 1, Hjl.out, by go_num, HR16⟩
                case measure => have := Hjl.out; simp [intOf]; omega
              · have hub : decide (C2.ticks < qu) = false := by simpa using hu
                clear hu
                refine wp_region_grown (by kernel_rfl) (by kernel_rfl) ?_
                repeat (go_big_quiet_step (first
                  | (go_at_call 34; refine (HSf.out _).mono ?_; rintro e w9 ⟨rfl, hb9⟩; exact ⟨rfl, ⟨w9, bel_trans (GrownOf.b _) hb9⟩, rfl⟩)
                  | (go_at_call 35; refine (HTi.out _).mono ?_; rintro e w9 ⟨rfl, hb9⟩; exact ⟨rfl, ⟨w9, bel_trans (GrownOf.b _) hb9⟩, rfl⟩)
                  | (go_at_call 26; refine (HCm.out _).mono ?_; rintro e w9 ⟨rfl, hb9⟩; exact ⟨rfl, ⟨w9, bel_trans (GrownOf.b _) hb9⟩, rfl⟩)))
                refine wpQuiet_nil ?_
                rintro w16 ⟨⟨_, hb16⟩, rfl⟩
                have HR16 := Lib.hid (HR15.out.next hb16)
                clear hb16 q0 q1 q2 q3
                go_wp2_with fail
                go_roundw
                case rel => exact ⟨j + 1, Hjl.out, by go_num, HR16⟩
                case measure => have := Hjl.out; simp [intOf]; omega
            · obtain rfl : j = (H).length := by omega
              go_wp2_with fail
              go_roundw
              case rel => exact ⟨k + 1, S2, C2, _, by have := Hlt.out; omega, by go_num, by have := H60.out; omega, HRq⟩
              case measure => have := Hlt.out; simp [intOf]; omega
        · have e8 : (kd == 8) = false := bne_of hk8
          clear h8 h8b hk8
          go_upto_region 15 with fail
          clear x0 y0 e8
          go_upto_region 16 with fail
          have HRj := HR12
          go_loopw [88] (fun jv wq => ∃ j : Nat, j ≤ (H).length ∧ jv = .int .i64 j ∧ Hid (Rs w wq S2 c C2 (k + 1) (.slice pa (H).length pc) (H))) (fun jv _ => (H).length - (intOf jv).toNat)
          case atStart => exact ⟨0, by omega, rfl, HRj⟩
          case round =>
            clear HRj
            obtain ⟨j, hj, rfl, HRq⟩ := hrel
            by_cases hjl : j < (H).length
            · obtain ⟨q, hq⟩ : ∃ q, (H)[j]? = some q := ⟨(H)[j], List.getElem?_eq_getElem hjl⟩
              obtain ⟨⟨qw, qt, qm⟩, qu⟩ := q
              have HQs : Hid (C2.ticks < qu → ¬ (⟨qw, qt, qm⟩ : Tm).lt C2.safe) := Lib.hid (fun h => pinned_safe HRq.out.cel.inv HRq.out.pin (⟨qw, qt, qm⟩, qu) (List.mem_of_getElem? hq) h)
              have hce : ∀ i, i < 4 → ∃ b, pa = some ⟨b, 0, none⟩ ∧ wr.cell? ⟨b, j * 4 + i, none⟩ = (hcells (⟨qw, qt, qm⟩, qu))[i]? := fun i hi => by
                obtain ⟨b, c', e, hc, -⟩ := own_place HRq.out.row (j := j * 4 + i) (by omega)
                injection e with e1
                exact ⟨b, e1, by rw [hc, flatH_get _ j _ hq i hi]⟩
              obtain ⟨pb, epb, p0⟩ := hce 0 (by omega)
              have hcf : ∀ i, i < 4 → wr.cell? ⟨pb, j * 4 + i, none⟩ = (hcells (⟨qw, qt, qm⟩, qu))[i]? := fun i hi => by
                obtain ⟨b, e, h⟩ := hce i hi
                rw [epb] at e
                cases e
                exact h
              have p0 : wr.cell? ⟨pb, j * 4, none⟩ = some (.int .i64 qw) := hcf 0 (by omega)
              have p1 : wr.cell? ⟨pb, j * 4 + 1, none⟩ = some (.int .u32 qt) := hcf 1 (by omega)
              have p2 : wr.cell? ⟨pb, j * 4 + 2, none⟩ = some (.int .u32 qm) := hcf 2 (by omega)
              have p3 : wr.cell? ⟨pb, j * 4 + 3, none⟩ = some (.int .i64 qu) := hcf 3 (by omega)
              have Hjl := Lib.hid hjl
              have hj100 : (j : Int) < 1000 := by have h1 := HRq.out.len; have h2 := H60.out; omega
              have hj1 : (0 : Int) ≤ (j : Int) := by omega
              have hj2 : (j : Int) < (((H).length : Nat) : Int) := by omega
              have HXq := Lib.hid (Blk.new wr #[.int .i64 qw, .int .u32 qt, .int .u32 qm, .int .i64 qu] 99)
              have HBq := Lib.hid (below_alloc wr (.cells #[.int .i64 qw, .int .u32 qt, .int .u32 qm, .int .i64 qu] 99))
              subst epb
              clear hce hcf hq
              go_upto_region 18 with fail
              clear p0 p1 p2 p3
              generalize wr.alloc (.cells #[.int .i64 qw, .int .u32 qt, .int .u32 qm, .int .i64 qu] 99) = w15 at HXq HBq ⊢
              generalize wr.heap.size = gq at HXq ⊢
              have HR15 := Lib.hid (HRq.out.next HBq.out)
              have HSf := Lib.hid (fun q : GrownOf w15 => cel_safe (HR15.out.cel.next q.b))
              have HTi := Lib.hid (fun q : GrownOf w15 => cel_ticks (HR15.out.cel.next q.b))
              have HCm := Lib.hid (fun W => compare_any ⟨qw, qt, qm⟩ C2.safe W)
              unfold Tm.val at HCm HSf
              simp only at HCm
              have HLt : Hid (cmpT ⟨qw, qt, qm⟩ C2.safe < 0 ↔ (⟨qw, qt, qm⟩ : Tm).lt C2.safe) := Lib.hid cmpT_lt
              generalize cmpT ⟨qw, qt, qm⟩ C2.safe = z3 at HCm HLt
              have q0 : ∀ q : GrownOf w15, q.W.cell? ⟨gq, 0, none⟩ = some (.int .i64 qw) := fun q => (HXq.out.next q.b).cell 0
              have q1 : ∀ q : GrownOf w15, q.W.cell? ⟨gq, 1, none⟩ = some (.int .u32 qt) := fun q => (HXq.out.next q.b).cell 1
              have q2 : ∀ q : GrownOf w15, q.W.cell? ⟨gq, 2, none⟩ = some (.int .u32 qm) := fun q => (HXq.out.next q.b).cell 2
              have q3 : ∀ q : GrownOf w15, q.W.cell? ⟨gq, 3, none⟩ = some (.int .i64 qu) := fun q => (HXq.out.next q.b).cell 3
              by_cases hu : C2.ticks < qu
              · have hub : decide (C2.ticks < qu) = true := by simpa using hu
                have hzb : decide (z3 < 0) = false := by simp only [decide_eq_false_iff_not]; exact fun h => HQs.out hu (HLt.out.1 h)
                clear hu
                refine wp_region_grown (by kernel_rfl) (by kernel_rfl) ?_
                repeat (go_big_quiet_step (first
                  | (go_at_call 34; refine (HSf.out _).mono ?_; rintro e w9 ⟨rfl, hb9⟩; exact ⟨rfl, ⟨w9, bel_trans (GrownOf.b _) hb9⟩, rfl⟩)
                  | (go_at_call 35; refine (HTi.out _).mono ?_; rintro e w9 ⟨rfl, hb9⟩; exact ⟨rfl, ⟨w9, bel_trans (GrownOf.b _) hb9⟩, rfl⟩)
                  | (go_at_call 26; refine (HCm.out _).mono ?_; rintro e w9 ⟨rfl, hb9⟩; exact ⟨rfl, ⟨w9, bel_trans (GrownOf.b _) hb9⟩, rfl⟩)))
                refine wpQuiet_nil ?_
                rintro w16 ⟨⟨_, hb16⟩, rfl⟩
                have HR16 := Lib.hid (HR15.out.next hb16)
                clear hb16 q0 q1 q2 q3
                go_wp2_with fail
                go_roundw
                case rel => exact ⟨j + 1, Hjl.out, by go_num, HR16⟩
                case measure => have := Hjl.out; simp [intOf]; omega
              · have hub : decide (C2.ticks < qu) = false := by simpa using hu
                clear hu
                refine wp_region_grown (by kernel_rfl) (by kernel_rfl) ?_
                repeat (go_big_quiet_step (first
                  | (go_at_call 34; refine (HSf.out _).mono ?_; rintro e w9 ⟨rfl, hb9⟩; exact ⟨rfl, ⟨w9, bel_trans (GrownOf.b _) hb9⟩, rfl⟩)
                  | (go_at_call 35; refine (HTi.out _).mono ?_; rintro e w9 ⟨rfl, hb9⟩; exact ⟨rfl, ⟨w9, bel_trans (GrownOf.b _) hb9⟩, rfl⟩)
                  | (go_at_call 26; refine (HCm.out _).mono ?_; rintro e w9 ⟨rfl, hb9⟩; exact ⟨rfl, ⟨w9, bel_trans (GrownOf.b _) hb9⟩, rfl⟩)))
                refine wpQuiet_nil ?_
                rintro w16 ⟨⟨_, hb16⟩, rfl⟩
                have HR16 := Lib.hid (HR15.out.next hb16)
                clear hb16 q0 q1 q2 q3
                go_wp2_with fail
                go_roundw
                case rel => exact ⟨j + 1, Hjl.out, by go_num, HR16⟩
                case measure => have := Hjl.out; simp [intOf]; omega
            · obtain rfl : j = (H).length := by omega
              go_wp2_with fail
              go_roundw
              case rel => exact ⟨k + 1, S2, C2, _, by have := Hlt.out; omega, by go_num, by have := H60.out; omega, HRq⟩
              case measure => have := Hlt.out; simp [intOf]; omega
      · go_wp2_with (first
          | (go_at_call 16; refine (HLt.out _ (bel_refl _)).mono ?_; rintro e w4 ⟨hs4, hb4⟩; obtain ⟨z, rfl, hz⟩ := says_out hs4; have hzf : z = false := (by cases z with | false => rfl | true => exact absurd (hz.1 rfl) hl); subst hzf; have HB4 := Lib.hid hb4; clear hs4 hz hb4)
          | fail)
        go_ret
        exact ⟨rfl, bel_trans HR3.out.bel HB4.out⟩
    · obtain rfl : k = L.length := by omega
      go_wp2_with fail
      go_ret
      exact ⟨rfl, HR.out.bel⟩
end Go.Proofs.YtbaflgddpciadaaGreat
