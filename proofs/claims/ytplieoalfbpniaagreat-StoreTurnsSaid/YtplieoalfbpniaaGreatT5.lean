/- StoreTurns (4). -/
import Derived.Test.YtplieoalfbpniaaGreatT4
import Derived.Deep.MidRow
import Derived.Deep.CutBlock
import Derived.StillTailTactics
set_option linter.unusedVariables false
set_option linter.unusedSimpArgs false
namespace Go.Proofs.YtplieoalfbpniaaGreat
open Go.RowKit Go.Kt Go.Ix Go.Sx
set_option maxRecDepth 100000
theorem ok22 : ElemOk Tryz.prog 22 46 (.agg #[.int .i64 0, .slice none 0 0, .int .i64 0, .int .i64 0, .int .i64 0, .string ⟨#[]⟩, .int .i64 0, .int .u32 0, .int .u32 0, .slice none 0 0, .int .i64 0, .int .i64 0]) 12 128 := ⟨Tryz.underlying22, info_parts (by kernel_rfl), rfl, by decide⟩
theorem ocells_one (o : Op) (h1 : o.m.sv.oneCell' = true) (h2 : o.rv.oneCell' = true) : ∀ u ∈ ocells o, u.oneCell' = true := by
  intro u hu
  simp only [ocells, List.mem_cons, List.not_mem_nil, or_false] at hu
  rcases hu with rfl | rfl | rfl | rfl | rfl | rfl | rfl | rfl | rfl | rfl | rfl | rfl
  all_goals first | exact h1 | exact h2 | rfl
/-- a step of a row of our own: its cells, and the row with another one in its place -/
theorem own_op {w : World} {a : Option Addr} {c : Nat} {V : List Op} (h : Kt.Own 46 12 w (.slice a V.length c) V.length (flatO V)) {i : Nat} {x : Op} (hi : V[i]? = some x) :
    ∃ g, a = some ⟨g, 0, none⟩ ∧ w.rangeAt g (i * 12) (ocells x) ∧ w.there g (i * 12) 12 := by
  obtain ⟨hil, -⟩ := List.getElem?_eq_some_iff.1 hi
  obtain ⟨g, cap, e, -, -, -⟩ := own_place h (j := 0) (by omega)
  cases e
  have hc : ∀ j, j < 12 → w.cell? ⟨g, i * 12 + j, none⟩ = (ocells x)[j]? ∧ w.frozen? ⟨g, i * 12 + j, none⟩ = false := fun j hj => by
    obtain ⟨g', cap', e, h1, h2, -⟩ := own_place h (j := i * 12 + j) (by omega)
    cases e
    rw [flatO_get V i x hi j hj] at h1
    exact ⟨h1, h2⟩
  refine ⟨g, rfl, fun j u hj => ?_, fun j hj => ?_⟩
  · have hl : j < 12 := (List.getElem?_eq_some_iff.1 hj).1
    rw [(hc j hl).1, hj]
  · rw [(hc j hj).1]
    exact ⟨by rw [List.getElem?_eq_getElem (show j < (ocells x).length from hj)]; rfl, (hc j hj).2⟩
/-- a load of many cells, a store of many cells, as steps of a region that draws its order -/
theorem step_load_op {P : Program} {w : World} {ops : Array Oper} {o : Oper} {a : Act} {K : Act → World → Prop} {Q : Exit → Act → World → Prop} {E : Prop} {t : TypeId} {p : Addr} {A : Array Value} (hgd : o.guard = none) (d : Option Nat) (hd : o.dst = d) (x : Operand)
    (ho : o.op = .load t x) (hl : (Instr.loadAt t (.pointer (some p))).run P w = .ok (.agg A) w) (hx : a.eval x = .pointer (some p)) (h : K (a.put d (.agg A)) w) : if Region.wanted o (yielded ops a.tmps) = true then Oper.wp P o a w K Q else E := by
  have hw : Region.wanted o (yielded ops a.tmps) = true := by simp [Region.wanted, hgd]
  rw [if_pos hw]
  unfold Oper.wp execOp
  subst hd
  simp only [ho, hx, Sem.run_bind, Sem.run_pure, Result.andThen_ok, hl]
  exact h
theorem step_store_op {P : Program} {w w' : World} {ops : Array Oper} {o : Oper} {a : Act} {K : Act → World → Prop} {Q : Exit → Act → World → Prop} {E : Prop} {t : TypeId} {p : Addr} {A : Array Value} (hgd : o.guard = none) (hd : o.dst = none) (x y : Operand)
    (ho : o.op = .store t x y) (hl : (Instr.storeAt t (.pointer (some p)) (.agg A)).run P w = .ok () w') (hx : a.eval x = .pointer (some p)) (hy : a.eval y = .agg A) (h : K a w') : if Region.wanted o (yielded ops a.tmps) = true then Oper.wp P o a w K Q else E := by
  have hw : Region.wanted o (yielded ops a.tmps) = true := by simp [Region.wanted, hgd]
  rw [if_pos hw]
  unfold Oper.wp execOp
  simp only [ho, hx, hy, Sem.run_bind, Sem.run_pure, Result.andThen_ok, hl]
  have e : a.put o.dst undef = a := by rw [hd]; rfl
  first | exact h | (rw [← e] at h; exact h)
/-- cells stored into a row of our own, from a place on -/
theorem own_setCells {e : TypeId} {size : Nat} {g c n : Nat} : ∀ (cs : List Value) {w : World} {xs : List Value} (o : Nat), Kt.Own e size w (.slice (some ⟨g, 0, none⟩) n c) n xs → o + cs.length ≤ n * size →
    Kt.Own e size (w.setCells g o cs) (.slice (some ⟨g, 0, none⟩) n c) n (xs.take o ++ cs ++ xs.drop (o + cs.length))
  | [], w, xs, o, h, _ => by simpa [World.setCells] using h
  | u :: cs, w, xs, o, h, hl => by
    rw [List.length_cons] at hl
    obtain ⟨g', c', e, -, -, h3⟩ := own_place h (j := o) (by omega)
    cases e
    have hx : xs.length = n * size := h.1
    have := own_setCells cs (o + 1) (h3 u) (by omega)
    rw [World.setCells]
    refine cast (congrArg _ ?_) this
    have hlt : (xs.take o).length = o := by rw [List.length_take]; omega
    rw [List.set_eq_take_append_cons_drop, if_pos (by omega), List.take_append, List.drop_append, hlt, List.take_of_length_le (by omega : (xs.take o).length ≤ o + 1), List.drop_of_length_le (by omega : (xs.take o).length ≤ o + 1 + cs.length)]
    rw [show o + 1 - o = 1 by omega, show o + 1 + cs.length - o = cs.length + 1 by omega, List.drop_succ_cons, List.drop_drop, List.length_cons, show o + 1 + cs.length = o + (cs.length + 1) by omega]
    simp
theorem flatO_set (x : Op) : ∀ (V : List Op) (i : Nat), i < V.length → flatO (V.set i x) = (flatO V).take (i * 12) ++ ocells x ++ (flatO V).drop (i * 12 + 12)
  | [], i, h => by simp at h
  | y :: t, 0, h => by
    have hl : (ocells y).length = 12 := rfl
    rw [List.set_cons_zero, flatO, flatO, Nat.zero_mul, List.take_zero, Nat.zero_add, List.drop_append, List.drop_of_length_le (by omega), hl]
    simp
  | y :: t, i + 1, h => by
    have hl : (ocells y).length = 12 := rfl
    rw [List.length_cons] at h
    rw [List.set_cons_succ, flatO, flatO, flatO_set x t i (by omega), List.take_append, List.drop_append, hl, List.take_of_length_le (l := ocells y) (by omega), List.drop_of_length_le (l := ocells y) (by omega), show (i + 1) * 12 - 12 = i * 12 by omega, show (i + 1) * 12 + 12 - 12 = i * 12 + 12 by omega]
    simp
theorem own_set_op {w : World} {g c n : Nat} {V : List Op} (h : Kt.Own 46 12 w (.slice (some ⟨g, 0, none⟩) n c) n (flatO V)) (hn : V.length = n) {i : Nat} (hi : i < V.length) (x : Op) :
    Kt.Own 46 12 (w.setCells g (i * 12) (ocells x).toArray.toList) (.slice (some ⟨g, 0, none⟩) n c) n (flatO (V.set i x)) := by
  rw [List.toList_toArray, flatO_set x V i hi]
  have := own_setCells (ocells x) (i * 12) h (by rw [show (ocells x).length = 12 from rfl]; omega)
  exact this
theorem turn_setCells {F : Nat → Prop} {w : World} {g : Nat} (hg : F g) : ∀ (cs : List Value) (o : Nat) {w' : World}, Turn F w w' → Turn F w (w'.setCells g o cs)
  | [], _, _, h => h
  | u :: cs, o, w', h => by
    rw [World.setCells]
    exact turn_setCells hg cs (o + 1) (h.set (a := ⟨g, o, none⟩) hg u)
theorem op_one {w : World} {o : Op} (h : OpR w o) : (ocells o).toArray.all (·.oneCell') = true := by
  obtain ⟨sa, sc, hsv, -⟩ := h.set.open
  obtain ⟨ra, rc, hrv, -⟩ := h.rules.open
  exact all_oneCell_toArray (ocells_one o (by rw [hsv]; rfl) (by rw [hrv]; rfl))
set_option maxHeartbeats 16000000 in
theorem turns_any (v u : Value) (l : List Op) (T : List Int) (w : World) (hv : RdO w v l) (hu : RdRow 1 w u T.length (T.map Go.encZ)) (hg : Glob w) :
    Calls Tryz.prog 4 #[v, u] w fun e w' => e = .returned (.bool true) ∧ Below w.heap.size w w' := by
  obtain ⟨a, cap, rfl, hcap, hbig, hcell⟩ := hv.open
  obtain ⟨-, ua, uc, rfl, hucap, hubig, -, hucell⟩ := hu
  have Hcell := Lib.hid hcell
  have HUcell := Lib.hid hucell
  have HG := Lib.hid hg
  clear hcell hucell hg hv
  go_enter Tryz.func4, Tryz.ntmps4
  go_wp2_with (first
    | (go_at_call 14; refine (new_any w).mono ?_; rintro e w1 ⟨s, rfl, h1, hb1⟩; have H1 : Hid (St (fun x => w.heap.size ≤ x ∧ x < w1.heap.size) w1 s [] (min 0 60) ∧ (∀ x, w.heap.size ≤ x ∧ x < w1.heap.size → w.heap.size ≤ x) ∧ Below w.heap.size w w1) := Lib.hid ⟨h1, fun x hx => hx.1, hb1⟩; clear h1 hb1)
    | fail)
  have HK0 : Hid (Took [] [] ∧ ([] : List Op).length ≤ min 0 60 ∧ ∀ o ∈ ([] : List Op), OpR w o) := Lib.hid ⟨Took.nil, Nat.zero_le _, fun o ho => by cases ho⟩
  have HO0 : Hid (Kt.Own 46 12 w1 (.slice none 0 0) ([] : List Op).length (flatO []) ∧ (∀ b, (Value.slice none 0 0).ownBlock = some b → w.heap.size ≤ b) ∧ (∀ b, (Value.slice none 0 0).ownBlock = some b → ¬ (w.heap.size ≤ b ∧ b < w1.heap.size))) := Lib.hid ⟨own_nil w1 46 12, (fun b hb => by cases hb), (fun b hb => by cases hb)⟩
  go_loopw [6, 21] (fun kv i wr => ∃ (k : Nat) (F : Nat → Prop) (K : List Op) (M : List It), k ≤ l.length ∧ i = .int .i64 k ∧ Hid (St F wr s M (min k 60) ∧ (∀ x, F x → w.heap.size ≤ x) ∧ Below w.heap.size w wr) ∧ Hid (Took M K ∧ K.length ≤ min k 60 ∧ ∀ o ∈ K, OpR w o) ∧ Hid (Kt.Own 46 12 wr kv K.length (flatO K) ∧ (∀ b, kv.ownBlock = some b → w.heap.size ≤ b) ∧ (∀ b, kv.ownBlock = some b → ¬ F b))) (fun _ i _ => l.length - (intOf i).toNat)
  case atStart => exact ⟨0, _, [], [], by omega, rfl, H1, HK0, HO0⟩
  case round =>
    clear H1 HK0 HO0
    obtain ⟨k, F, K, M, hk, rfl, HI, HK, HO⟩ := hrel
    by_cases hlt : k < l.length
    · obtain ⟨o, ho⟩ : ∃ x, l[k]? = some x := ⟨l[k], List.getElem?_eq_getElem hlt⟩
      obtain ⟨hor, b, off, rfl, hbl, c0, c1, c2, c3, c4, c5, c6, c7, c8, c9, c10, c11⟩ := Hcell.out k o ho
      obtain ⟨kd, ⟨st, mt, mk, mn, mx, sv⟩, ⟨tw, tt, tm⟩, rl, fr, ti, rv⟩ := o
      simp only at c0 c1 c2 c3 c4 c5 c6 c7 c8 c9 c10 c11
      obtain ⟨sa, sc, hsv, -⟩ := hor.set.open
      obtain ⟨ra, rc, hrv, -⟩ := hor.rules.open
      simp only at hsv hrv
      subst hsv hrv
      have hB := HI.out.2.2
      have d0 : wr.cell? ⟨b, off + k * 12, none⟩ = some (.int .i64 kd) := (hB.cell (p := ⟨b, _, none⟩) hbl).trans c0
      have d1 : wr.cell? ⟨b, off + k * 12 + 1, none⟩ = some (.slice sa st.length sc) := (hB.cell (p := ⟨b, _, none⟩) hbl).trans c1
      have d2 : wr.cell? ⟨b, off + k * 12 + 2, none⟩ = some (.int .i64 mt) := (hB.cell (p := ⟨b, _, none⟩) hbl).trans c2
      have d3 : wr.cell? ⟨b, off + k * 12 + 3, none⟩ = some (.int .i64 mk) := (hB.cell (p := ⟨b, _, none⟩) hbl).trans c3
      have d4 : wr.cell? ⟨b, off + k * 12 + 4, none⟩ = some (.int .i64 mn) := (hB.cell (p := ⟨b, _, none⟩) hbl).trans c4
      have d5 : wr.cell? ⟨b, off + k * 12 + 5, none⟩ = some (.string mx) := (hB.cell (p := ⟨b, _, none⟩) hbl).trans c5
      have d6 : wr.cell? ⟨b, off + k * 12 + 6, none⟩ = some (.int .i64 tw) := (hB.cell (p := ⟨b, _, none⟩) hbl).trans c6
      have d7 : wr.cell? ⟨b, off + k * 12 + 7, none⟩ = some (.int .u32 tt) := (hB.cell (p := ⟨b, _, none⟩) hbl).trans c7
      have d8 : wr.cell? ⟨b, off + k * 12 + 8, none⟩ = some (.int .u32 tm) := (hB.cell (p := ⟨b, _, none⟩) hbl).trans c8
      have d9 : wr.cell? ⟨b, off + k * 12 + 9, none⟩ = some (.slice ra rl.length rc) := (hB.cell (p := ⟨b, _, none⟩) hbl).trans c9
      have d10 : wr.cell? ⟨b, off + k * 12 + 10, none⟩ = some (.int .i64 fr) := (hB.cell (p := ⟨b, _, none⟩) hbl).trans c10
      have d11 : wr.cell? ⟨b, off + k * 12 + 11, none⟩ = some (.int .i64 ti) := (hB.cell (p := ⟨b, _, none⟩) hbl).trans c11
      have hbb : b < wr.heap.size := Nat.lt_of_lt_of_le hbl hB.size
      have HO5 := Lib.hid (hor.below hB)
      have HOr := Lib.hid hor
      have hk1 : (0 : Int) ≤ (k : Int) := by omega
      have hk2 : (k : Int) < (l.length : Int) := by omega
      clear c0 c1 c2 c3 c4 c5 c6 c7 c8 c9 c10 c11 hbl hB hor ho
      have HX := Lib.hid (Blk.new wr #[.int .i64 kd, (.slice sa st.length sc), .int .i64 mt, .int .i64 mk, .int .i64 mn, .string mx, .int .i64 tw, .int .u32 tt, .int .u32 tm, (.slice ra rl.length rc), .int .i64 fr, .int .i64 ti] 46)
      have HBa := Lib.hid (below_alloc wr (.cells #[.int .i64 kd, (.slice sa st.length sc), .int .i64 mt, .int .i64 mk, .int .i64 mn, .string mx, .int .i64 tw, .int .u32 tt, .int .u32 tm, (.slice ra rl.length rc), .int .i64 fr, .int .i64 ti] 46))
      go_upto_region 6 with fail
      generalize wr.alloc (.cells #[.int .i64 kd, (.slice sa st.length sc), .int .i64 mt, .int .i64 mk, .int .i64 mn, .string mx, .int .i64 tw, .int .u32 tt, .int .u32 tm, (.slice ra rl.length rc), .int .i64 fr, .int .i64 ti] 46) = w5 at HX HBa ⊢
      have HI5 : Hid (St F w5 s M (min k 60) ∧ (∀ x, F x → w.heap.size ≤ x) ∧ Below w.heap.size w w5) := Lib.hid ⟨HI.out.1.next HBa.out, HI.out.2.1, bel_trans HI.out.2.2 HBa.out⟩
      have HOw : Hid (Kt.Own 46 12 w5 u6 K.length (flatO K) ∧ (∀ b, u6.ownBlock = some b → w.heap.size ≤ b) ∧ (∀ b, u6.ownBlock = some b → ¬ F b)) := Lib.hid ⟨HO.out.1.below' HBa.out, HO.out.2⟩
      have HO6 := Lib.hid (HO5.out.below HBa.out)
      have x0 : w5.cell? ⟨wr.heap.size, 0, none⟩ = some (.int .i64 kd) := HX.out.cell 0
      have HLt : Hid (¬ F wr.heap.size) := Lib.hid (fun h => Nat.lt_irrefl _ (HI.out.1.lt _ h))
      have HNe : Hid (∀ b, u6.ownBlock = some b → b ≠ wr.heap.size) := Lib.hid (fun b hb e => by have := HO.out.1.lt b hb; omega)
      have HNl : Hid (∀ b, u6.ownBlock = some b → b < wr.heap.size) := Lib.hid (fun b hb => HO.out.1.lt b hb)
      clear d0 d1 d2 d3 d4 d5 d6 d7 d8 d9 d10 d11 hbb HI HO HO5
      have Hk : Hid (k < l.length) := Lib.hid hlt
      by_cases h80 : k < 60
      · have hk3 : decide ((k : Int) < 60) = true := by simp; omega
        have hk4 : (k : Int) < 60 := by omega
        by_cases hkd : kd = 0
        · subst hkd
          have hkb : ((0 : Int) == 0) = true := rfl
          have HKs : Hid (∀ W, Below w5.heap.size w5 W → W.cell? ⟨wr.heap.size, 0, none⟩ = some (.int .i64 0) ∧ W.cell? ⟨wr.heap.size, 1, none⟩ = some (.slice sa st.length sc) ∧ W.cell? ⟨wr.heap.size, 2, none⟩ = some (.int .i64 mt) ∧ W.cell? ⟨wr.heap.size, 3, none⟩ = some (.int .i64 mk) ∧ W.cell? ⟨wr.heap.size, 4, none⟩ = some (.int .i64 mn) ∧ W.cell? ⟨wr.heap.size, 5, none⟩ = some (.string mx) ∧ W.cell? ⟨wr.heap.size, 6, none⟩ = some (.int .i64 tw) ∧ W.cell? ⟨wr.heap.size, 7, none⟩ = some (.int .u32 tt) ∧ W.cell? ⟨wr.heap.size, 8, none⟩ = some (.int .u32 tm) ∧ W.cell? ⟨wr.heap.size, 9, none⟩ = some (.slice ra rl.length rc) ∧ W.cell? ⟨wr.heap.size, 10, none⟩ = some (.int .i64 fr) ∧ W.cell? ⟨wr.heap.size, 11, none⟩ = some (.int .i64 ti)) :=
            Lib.hid (fun W hW => ⟨(HX.out.next hW).cell 0, (HX.out.next hW).cell 1, (HX.out.next hW).cell 2, (HX.out.next hW).cell 3, (HX.out.next hW).cell 4, (HX.out.next hW).cell 5, (HX.out.next hW).cell 6, (HX.out.next hW).cell 7, (HX.out.next hW).cell 8, (HX.out.next hW).cell 9, (HX.out.next hW).cell 10, (HX.out.next hW).cell 11⟩)
          have hx5 := bel_refl w5
          have hN : min k 60 ≤ 1000000 := by omega
          obtain ⟨q0, q1, q2, q3, q4, q5, q6, q7, q8, q9, q10, q11⟩ := HKs.out _ hx5
          obtain ⟨er, her⟩ : ∃ er, (putS M ⟨st, mt, mk, mn, mx, .slice sa st.length sc⟩ ⟨tw, tt, tm⟩).1 = er := ⟨_, rfl⟩
          obtain ⟨M2, hM2⟩ : ∃ M2, (putS M ⟨st, mt, mk, mn, mx, .slice sa st.length sc⟩ ⟨tw, tt, tm⟩).2 = M2 := ⟨_, rfl⟩
          have HPut : Hid (∀ (v6 : Value) (w7 : World), Below w5.heap.size w5 w7 → RdP w7 v6 st → Calls Tryz.prog 15 #[.pointer (some ⟨s, 0, none⟩), wagg (Wr.with ⟨st, mt, mk, mn, mx, .slice sa st.length sc⟩ v6), Tm.val ⟨tw, tt, tm⟩] w7 fun e w' => e = .returned (.int .i64 er) ∧ ∃ F', St F' w' s M2 (min k 60 + 1) ∧ (∀ x, F' x → F x ∨ w7.heap.size ≤ x) ∧ Turn F w7 w') := Lib.hid (fun v6 w7 h7 hr6 => by
            have := put_any (Wr.with ⟨st, mt, mk, mn, mx, .slice sa st.length sc⟩ v6) ⟨tw, tt, tm⟩ w7 (HI5.out.1.next h7) hN hr6 HO6.out.fit HO6.out.text
            rw [show putS M (Wr.with ⟨st, mt, mk, mn, mx, .slice sa st.length sc⟩ v6) ⟨tw, tt, tm⟩ = putS M ⟨st, mt, mk, mn, mx, .slice sa st.length sc⟩ ⟨tw, tt, tm⟩ from rfl, her, hM2] at this
            exact this)
          have HEr : Hid ((putS M ⟨st, mt, mk, mn, mx, .slice sa st.length sc⟩ ⟨tw, tt, tm⟩).1 = er) := Lib.hid her
          have HM2 : Hid ((putS M ⟨st, mt, mk, mn, mx, .slice sa st.length sc⟩ ⟨tw, tt, tm⟩).2 = M2) := Lib.hid hM2
          clear x0 her hM2
          go_region_held3 (fun W => W.cell? ⟨wr.heap.size, 0, none⟩ = some (.int .i64 0) ∧ W.cell? ⟨wr.heap.size, 1, none⟩ = some (.slice sa st.length sc) ∧ W.cell? ⟨wr.heap.size, 2, none⟩ = some (.int .i64 mt) ∧ W.cell? ⟨wr.heap.size, 3, none⟩ = some (.int .i64 mk) ∧ W.cell? ⟨wr.heap.size, 4, none⟩ = some (.int .i64 mn) ∧ W.cell? ⟨wr.heap.size, 5, none⟩ = some (.string mx) ∧ W.cell? ⟨wr.heap.size, 6, none⟩ = some (.int .i64 tw) ∧ W.cell? ⟨wr.heap.size, 7, none⟩ = some (.int .u32 tt) ∧ W.cell? ⟨wr.heap.size, 8, none⟩ = some (.int .u32 tm) ∧ W.cell? ⟨wr.heap.size, 9, none⟩ = some (.slice ra rl.length rc) ∧ W.cell? ⟨wr.heap.size, 10, none⟩ = some (.int .i64 fr) ∧ W.cell? ⟨wr.heap.size, 11, none⟩ = some (.int .i64 ti))
            (first | (with_reducible exact ⟨q0, q1, q2, q3, q4, q5, q6, q7, q8, q9, q10, q11⟩) | (with_reducible exact ⟨y0, y1, y2, y3, y4, y5, y6, y7, y8, y9, y10, y11⟩) | (with_reducible refine HKs.out _ ?_; (repeat (first | assumption | apply bel_alloc | apply bel_drew)); done) | go_keep)
            (first
              | (go_simp; go_at_call 16; refine (wto_any ⟨st, mt, mk, mn, mx, .slice sa st.length sc⟩ _ (HO6.out.set.below (by repeat (first | exact bel_refl _ | assumption | apply bel_alloc | apply bel_drew))) HO6.out.len).mono ?_; rintro e w6 ⟨v6, rfl, hv6, hb6⟩; have hx6 : Below w5.heap.size w5 w6 := bel_trans (by repeat (first | exact bel_refl _ | assumption | apply bel_alloc | apply bel_drew)) hb6; have HV6 := Lib.hid hv6; clear hv6)
              | (go_simp; go_at_call 11; refine (to_any1 ⟨tw, tt, tm⟩ _).mono ?_; rintro e w7 ⟨rfl, hb7⟩; have hx7 : Below w5.heap.size w5 w7 := bel_trans (by repeat (first | exact bel_refl _ | assumption | apply bel_alloc | apply bel_drew)) hb7; (first | (have hb67 : Below w6.heap.size w6 w7 := bel_trans (by repeat (first | exact bel_refl _ | apply bel_alloc | apply bel_drew)) hb7) | skip))
              | (go_simp; go_at_call 15; refine (HPut.out v6 w7 hx7 (OwnP.rd (HV6.out.below hb67))).mono ?_; rintro e w8 ⟨rfl, F8, h8, hF8, ht8⟩; have hb8 := blk_keep ht8 (HX.out.next hx7) HLt.out; have y0 : w8.cell? ⟨wr.heap.size, 0, none⟩ = some (.int .i64 0) := hb8.cell 0; have y1 : w8.cell? ⟨wr.heap.size, 1, none⟩ = some (.slice sa st.length sc) := hb8.cell 1; have y2 : w8.cell? ⟨wr.heap.size, 2, none⟩ = some (.int .i64 mt) := hb8.cell 2; have y3 : w8.cell? ⟨wr.heap.size, 3, none⟩ = some (.int .i64 mk) := hb8.cell 3; have y4 : w8.cell? ⟨wr.heap.size, 4, none⟩ = some (.int .i64 mn) := hb8.cell 4; have y5 : w8.cell? ⟨wr.heap.size, 5, none⟩ = some (.string mx) := hb8.cell 5; have y6 : w8.cell? ⟨wr.heap.size, 6, none⟩ = some (.int .i64 tw) := hb8.cell 6; have y7 : w8.cell? ⟨wr.heap.size, 7, none⟩ = some (.int .u32 tt) := hb8.cell 7; have y8 : w8.cell? ⟨wr.heap.size, 8, none⟩ = some (.int .u32 tm) := hb8.cell 8; have y9 : w8.cell? ⟨wr.heap.size, 9, none⟩ = some (.slice ra rl.length rc) := hb8.cell 9; have y10 : w8.cell? ⟨wr.heap.size, 10, none⟩ = some (.int .i64 fr) := hb8.cell 10; have y11 : w8.cell? ⟨wr.heap.size, 11, none⟩ = some (.int .i64 ti) := hb8.cell 11; have H8 : Hid (St F8 w8 s M2 (min k 60 + 1) ∧ (∀ x, F8 x → w.heap.size ≤ x) ∧ Below w.heap.size w w8 ∧ (∀ x, F8 x → F x ∨ w7.heap.size ≤ x)) := Lib.hid ⟨h8, fun x hx => by (rcases hF8 x hx with h | h; exact HI5.out.2.1 x h; exact Nat.le_trans HI5.out.2.2.size (Nat.le_trans hx7.size h)), ((Turn.of (F := F) (bel_trans HI5.out.2.2 hx7)).trans ht8 (fun x hx => .inl hx)).bel (Nat.le_refl _) (fun x hx => HI5.out.2.1 x hx), hF8⟩; have HOw8 : Hid (Kt.Own 46 12 w8 u6 K.length (flatO K)) := Lib.hid (own_keep ht8 (HOw.out.1.below' hx7) HOw.out.2.2); have Hs7 : Hid (wr.heap.size ≤ w7.heap.size) := Lib.hid (Nat.le_trans HBa.out.size hx7.size); clear h8 hF8 ht8 hb8))
          by_cases hez : er = 0
          · subst hez
            have heb : ((0 : Int) == 0) = true := rfl
            have HTk : Hid (Took M2 (K ++ [(⟨0, ⟨st, mt, mk, mn, mx, .slice sa st.length sc⟩, ⟨tw, tt, tm⟩, rl, fr, ti, .slice ra rl.length rc⟩ : Op)]) ∧ (K ++ [(⟨0, ⟨st, mt, mk, mn, mx, .slice sa st.length sc⟩, ⟨tw, tt, tm⟩, rl, fr, ti, .slice ra rl.length rc⟩ : Op)]).length ≤ min (k + 1) 60 ∧ ∀ o ∈ K ++ [(⟨0, ⟨st, mt, mk, mn, mx, .slice sa st.length sc⟩, ⟨tw, tt, tm⟩, rl, fr, ti, .slice ra rl.length rc⟩ : Op)], OpR w o) := Lib.hid ⟨by
              have := HK.out.1.more (o := (⟨0, ⟨st, mt, mk, mn, mx, .slice sa st.length sc⟩, ⟨tw, tt, tm⟩, rl, fr, ti, .slice ra rl.length rc⟩ : Op)) rfl HEr.out
              rw [HM2.out] at this
              exact this, by have := HK.out.2.1; rw [List.length_append]; simp only [List.length_cons, List.length_nil]; omega, fun o ho => by
              rcases List.mem_append.1 ho with ho | ho
              · exact HK.out.2.2 o ho
              · rw [List.mem_singleton.1 ho]; exact HOr.out⟩
            have hKl : K.length ≤ 60 := by have := HK.out.2.1; omega
            go_wp2_with (at_builtin; apply Hold.mk)
            unfold Hold
            refine wpList_app rfl _ _ 22 rfl ok22 (by rfl) (by rfl) (HOw8.out.below' (by repeat (first | exact bel_refl _ | apply bel_alloc | apply bel_drew))) (by exact rd_lit 12 #[.int .i64 0, (.slice sa st.length sc), .int .i64 mt, .int .i64 mk, .int .i64 mn, .string mx, .int .i64 tw, .int .u32 tt, .int .u32 tm, (.slice ra rl.length rc), .int .i64 fr, .int .i64 ti] 1 (by simp) one_le rfl) (ocells_one (⟨0, ⟨st, mt, mk, mn, mx, .slice sa st.length sc⟩, ⟨tw, tt, tm⟩, rl, fr, ti, .slice ra rl.length rc⟩ : Op) rfl rfl) (by simp only [maxLen]; omega) (by omega) ?_
            intro v9 w9 ho9 hg9 hn9
            have hba := below_alloc w8 (.cells #[.int .i64 0, (.slice sa st.length sc), .int .i64 mt, .int .i64 mk, .int .i64 mn, .string mx, .int .i64 tw, .int .u32 tt, .int .u32 tm, (.slice ra rl.length rc), .int .i64 fr, .int .i64 ti] 46)
            have HI9 : Hid (St F8 w9 s M2 (min k 60 + 1) ∧ (∀ x, F8 x → w.heap.size ≤ x) ∧ Below w.heap.size w w9) := Lib.hid ⟨(H8.out.1.next hba).keep (Turn.grown hg9 (F := fun x => u6.ownBlock = some x) (fun b hb => hb)) (fun x hx hx2 => by
              rcases H8.out.2.2.2 x hx with h1 | h1
              · exact HOw.out.2.2 x hx2 h1
              · have := HNl.out x hx2; have := Hs7.out; omega), H8.out.2.1, (bel_trans H8.out.2.2.1 hba).grown hg9 (Nat.le_trans H8.out.2.2.1.size hba.size) (fun b hb => HOw.out.2.1 b hb)⟩
            have HO9 : Hid (Kt.Own 46 12 w9 v9 (K ++ [(⟨0, ⟨st, mt, mk, mn, mx, .slice sa st.length sc⟩, ⟨tw, tt, tm⟩, rl, fr, ti, .slice ra rl.length rc⟩ : Op)]).length (flatO (K ++ [(⟨0, ⟨st, mt, mk, mn, mx, .slice sa st.length sc⟩, ⟨tw, tt, tm⟩, rl, fr, ti, .slice ra rl.length rc⟩ : Op)])) ∧ (∀ b, v9.ownBlock = some b → w.heap.size ≤ b) ∧ (∀ b, v9.ownBlock = some b → ¬ F8 b)) := Lib.hid ⟨by
              rw [List.length_append, flatO_append]
              simpa [flatO] using ho9, fun b hb => by
              rcases hn9 b hb with h1 | h1
              · exact HOw.out.2.1 b h1
              · exact Nat.le_trans H8.out.2.2.1.size (Nat.le_trans hba.size h1), fun b hb hx => by
              rcases hn9 b hb with h1 | h1
              · rcases H8.out.2.2.2 b hx with h2 | h2
                · exact HOw.out.2.2 b h1 h2
                · have := HNl.out b h1; have := Hs7.out; omega
              · have := H8.out.1.lt b hx; have := hba.size; omega⟩
            clear ho9 hg9 hn9 hba
            go_wp2_with fail
            go_roundw
            case rel => exact ⟨k + 1, F8, K ++ [(⟨0, ⟨st, mt, mk, mn, mx, .slice sa st.length sc⟩, ⟨tw, tt, tm⟩, rl, fr, ti, .slice ra rl.length rc⟩ : Op)], M2, by have := Hk.out; omega, by go_num, Lib.hid ⟨HI9.out.1.more (by omega), HI9.out.2⟩, HTk, HO9⟩
            case measure => have := Hk.out; simp [intOf]; omega
          · have heb : (er == 0) = false := bne_of hez
            have HMM : Hid (M2 = M) := Lib.hid (by rw [← HM2.out]; exact putS_no (by rw [HEr.out]; exact hez))
            have HN8 : Hid (∀ b, u6.ownBlock = some b → ¬ F8 b) := Lib.hid (fun b hb hx => by
              rcases H8.out.2.2.2 b hx with h1 | h1
              · exact HOw.out.2.2 b hb h1
              · have := HNl.out b hb; have := Hs7.out; omega)
            clear hez
            go_wp2_with fail
            go_roundw
            case rel => exact ⟨k + 1, F8, K, M, by have := Hk.out; omega, by go_num, Lib.hid ⟨by rw [← HMM.out]; exact H8.out.1.more (by omega), H8.out.2.1, H8.out.2.2.1⟩, Lib.hid ⟨HK.out.1, by have := HK.out.2.1; omega, HK.out.2.2⟩, Lib.hid ⟨HOw8.out, HOw.out.2.1, HN8.out⟩⟩
            case measure => have := Hk.out; simp [intOf]; omega
        · have hkb : (kd == 0) = false := bne_of hkd
          clear hkd
          have xg : ∀ g : GrownOf w5, g.W.cell? ⟨wr.heap.size, 0, none⟩ = some (.int .i64 kd) := fun g => (HX.out.next g.b).cell 0
          refine wp_region_grown (by kernel_rfl) (by kernel_rfl) ?_
          repeat (go_big_quiet_step (fail))
          refine wpQuiet_nil ?_
          rintro w8 ⟨⟨_, hb8⟩, rfl⟩
          have HI5 : Hid (St F w8 s M (min k 60) ∧ (∀ x, F x → w.heap.size ≤ x) ∧ Below w.heap.size w w8) := Lib.hid ⟨HI5.out.1.next hb8, HI5.out.2.1, bel_trans HI5.out.2.2 hb8⟩
          have HOw : Hid (Kt.Own 46 12 w8 u6 K.length (flatO K) ∧ (∀ b, u6.ownBlock = some b → w.heap.size ≤ b) ∧ (∀ b, u6.ownBlock = some b → ¬ F b)) := Lib.hid ⟨HOw.out.1.below' hb8, HOw.out.2⟩
          clear hb8 x0 xg
          go_wp2_with fail
          go_roundw
          case rel => exact ⟨k + 1, F, K, M, by have := Hk.out; omega, by go_num, Lib.hid ⟨HI5.out.1.more (by omega), HI5.out.2⟩, Lib.hid ⟨HK.out.1, by have := HK.out.2.1; omega, HK.out.2.2⟩, HOw⟩
          case measure => have := Hk.out; simp [intOf]; omega
      · have hk3 : decide ((k : Int) < 60) = false := by simp; omega
        have hk4 : ¬ (k : Int) < 60 := by omega
        have xg : ∀ g : GrownOf w5, g.W.cell? ⟨wr.heap.size, 0, none⟩ = some (.int .i64 kd) := fun g => (HX.out.next g.b).cell 0
        refine wp_region_grown (by kernel_rfl) (by kernel_rfl) ?_
        repeat (go_big_quiet_step (fail))
        refine wpQuiet_nil ?_
        rintro w8 ⟨⟨_, hb8⟩, rfl⟩
        have HI5 : Hid (St F w8 s M (min k 60) ∧ (∀ x, F x → w.heap.size ≤ x) ∧ Below w.heap.size w w8) := Lib.hid ⟨HI5.out.1.next hb8, HI5.out.2.1, bel_trans HI5.out.2.2 hb8⟩
        have HOw : Hid (Kt.Own 46 12 w8 u6 K.length (flatO K) ∧ (∀ b, u6.ownBlock = some b → w.heap.size ≤ b) ∧ (∀ b, u6.ownBlock = some b → ¬ F b)) := Lib.hid ⟨HOw.out.1.below' hb8, HOw.out.2⟩
        clear hb8 x0 xg
        go_wp2_with fail
        go_roundw
        case rel => exact ⟨k + 1, F, K, M, by have := Hk.out; omega, by go_num, Lib.hid ⟨HI5.out.1.more (by omega), HI5.out.2⟩, Lib.hid ⟨HK.out.1, by have := HK.out.2.1; omega, HK.out.2.2⟩, HOw⟩
        case measure => have := Hk.out; simp [intOf]; omega
    · obtain rfl : k = l.length := by omega
      have HKl : Hid (K.length ≤ 60) := Lib.hid (by have := HK.out.2.1; omega)
      obtain ⟨-, ka, kc, hkv, hkc, hkm, -, -⟩ := HO.out.1.rd
      subst hkv
      obtain ⟨wo, rfl⟩ : ∃ wo, wo = wr := ⟨_, rfl⟩
      go_upto_block 2 with fail
      go_cut [] (fun wc => ∃ V : List Op, Hid (V.Perm K) ∧ Hid (Kt.Own 46 12 wc (.slice ka K.length kc) K.length (flatO V)) ∧ Hid (Turn (fun x => (Value.slice ka K.length kc).ownBlock = some x) wo wc))
      case first =>
        go_wp2_with fail
        have HV0 : Hid (K.Perm K) := Lib.hid (List.Perm.refl K)
        have HO0 := Lib.hid HO.out.1
        have HT0 := Lib.hid (Turn.refl (fun x => (Value.slice ka K.length kc).ownBlock = some x) wo)
        go_loopw [51] (fun i wq => ∃ (j : Nat) (V : List Op), j ≤ T.length ∧ i = .int .i64 j ∧ Hid (V.Perm K) ∧ Hid (Kt.Own 46 12 wq (.slice ka K.length kc) K.length (flatO V)) ∧ Hid (Turn (fun x => (Value.slice ka K.length kc).ownBlock = some x) wo wq)) (fun i _ => T.length - (intOf i).toNat)
        case atStart => exact ⟨0, K, by omega, rfl, HV0, HO0, HT0⟩
        case round =>
          clear HV0 HO0 HT0
          obtain ⟨j, V, hj, rfl, HV, HOq, HTq⟩ := hrel
          by_cases hjt : j < T.length
          · obtain ⟨z, hz⟩ : ∃ x, T[j]? = some x := ⟨T[j], List.getElem?_eq_getElem hjt⟩
            obtain ⟨tb, tof, rfl, htc⟩ := HUcell.out j (.int .i64 z) (by rw [List.getElem?_map, hz]; rfl)
            have HBq : Hid (Below w.heap.size w wr) := Lib.hid (((Turn.of (F := fun _ => False) HI.out.2.2).trans HTq.out (fun x hx => .inr (HO.out.2.1 x hx))).bel (Nat.le_refl _) (fun x hx => hx.elim))
            have d0 : wr.cell? ⟨tb, tof + j, none⟩ = some (.int .i64 z) := (HBq.out.cell (p := ⟨tb, _, none⟩) (World.block_lt_of_cell? _ _ htc)).trans htc
            have hj1 : (0 : Int) ≤ (j : Int) := by omega
            have hj2 : (j : Int) < (T.length : Int) := by omega
            clear hz htc
            by_cases h60 : j < 60
            · have hk3 : decide (60 ≤ (j : Int)) = false := by simp; omega
              have hk4 : ¬ (60 ≤ (j : Int)) := by omega
              by_cases h0 : K.length = 0
              · have e0 : ((K.length : Int) == 0) = true := by simp [h0]
                clear h0
                go_wp2_with fail
                go_meet
                case rel => exact ⟨V, HV, HOq, HTq⟩
              · have e0 : ((K.length : Int) == 0) = false := by rw [beq_eq_false_iff_ne]; omega
                have hn1 : (0 : Int) < (K.length : Int) := by omega
                obtain ⟨i1, hi1, he1⟩ : ∃ i1 : Nat, i1 < K.length ∧ (j : Int) % (K.length : Int) = (i1 : Int) := by
                  have h1 := Int.emod_nonneg (j : Int) (b := (K.length : Int)) (by omega)
                  have h2 := Int.emod_lt_of_pos (j : Int) (b := (K.length : Int)) (by omega)
                  exact ⟨((j : Int) % (K.length : Int)).toNat, by omega, by omega⟩
                obtain ⟨i2, hi2, he2⟩ : ∃ i2 : Nat, i2 < K.length ∧ wrap64 ((IntKind.u64.wrap z).tmod (K.length : Int)) = (i2 : Int) := by
                  have h0 := wrap_u64_nonneg z
                  have h1 := Int.emod_nonneg (IntKind.u64.wrap z) (b := (K.length : Int)) (by omega)
                  have h2 := Int.emod_lt_of_pos (IntKind.u64.wrap z) (b := (K.length : Int)) (by omega)
                  have hkk := HKl.out
                  rw [Int.tmod_eq_emod_of_nonneg h0]
                  refine ⟨((IntKind.u64.wrap z) % (K.length : Int)).toNat, by omega, ?_⟩
                  rw [IntWalk.wrap64_in _ ⟨by omega, by omega⟩]
                  omega
                have hz0 : ¬ (K.length : Int) = 0 := by omega
                have hwl : IntKind.u64.wrap (K.length : Int) = (K.length : Int) := by have := HKl.out; simp [IntKind.wrap, IntKind.bits, IntKind.signed]; omega
                clear h0
                go_upto_region 13 with fail
                refine wp_region_grown (by kernel_rfl) (by kernel_rfl) ?_
                repeat (go_big_quiet_step (fail))
                refine wpQuiet_nil ?_
                rintro wq ⟨⟨_, hbq⟩, rfl⟩
                go_upto_region 14 with fail
                obtain ⟨x1, hx1⟩ : ∃ x, V[i1]? = some x := ⟨V[i1]'(by have := HV.out.length_eq; omega), List.getElem?_eq_getElem _⟩
                obtain ⟨x2, hx2⟩ : ∃ x, V[i2]? = some x := ⟨V[i2]'(by have := HV.out.length_eq; omega), List.getElem?_eq_getElem _⟩
                have hVl : V.length = K.length := HV.out.length_eq
                have hOv : Kt.Own 46 12 wq.drew (.slice ka V.length kc) V.length (flatO V) := by rw [hVl]; exact HOq.out.below' (bel_drew hbq)
                have HR1 := Lib.hid (HK.out.2.2 x1 (HV.out.mem_iff.1 (List.mem_of_getElem? hx1)))
                have HR2 := Lib.hid (HK.out.2.2 x2 (HV.out.mem_iff.1 (List.mem_of_getElem? hx2)))
                obtain ⟨g, rfl, r1, t1⟩ := own_op hOv hx1
                obtain ⟨g', eg, r2, t2⟩ := own_op hOv hx2
                cases eg
                have e46 : (Tryz.prog.info? 46).map (·.size) = some 12 := by kernel_rfl
                have hl1 := run_loadAt_mid (P := Tryz.prog) wq.drew g (i1 * 12) 46 (ocells x1) _ r1 Tryz.underlying46 rfl e46
                have hl2 := run_loadAt_mid (P := Tryz.prog) wq.drew g (i2 * 12) 46 (ocells x2) _ r2 Tryz.underlying46 rfl e46
                have hs1 := run_storeAt_mid (P := Tryz.prog) wq.drew g (i1 * 12) 46 (ocells x2).toArray t1 e46 (op_one HR2.out)
                have hs2 := run_storeAt_mid (P := Tryz.prog) (wq.drew.setCells g (i1 * 12) (ocells x2).toArray.toList) g (i2 * 12) 46 (ocells x1).toArray (World.there_setCells t2 _ _ _) e46 (op_one HR1.out)
                rw [he1, he2]
                clear he1 he2
                have hz1 : (0 : Int) ≤ (i1 : Int) := by omega
                have hz2 : (0 : Int) ≤ (i2 : Int) := by omega
                have hz3 : (i1 : Int) < (K.length : Int) := by omega
                have hz4 : (i2 : Int) < (K.length : Int) := by omega
                have HVn : Hid (((V.set i1 x2).set i2 x1).Perm K) := Lib.hid ((perm_swap V hx1 hx2).trans HV.out)
                have HOn : Hid (Kt.Own 46 12 ((wq.drew.setCells g (i1 * 12) (ocells x2).toArray.toList).setCells g (i2 * 12) (ocells x1).toArray.toList) (.slice (some ⟨g, 0, none⟩) K.length kc) K.length (flatO ((V.set i1 x2).set i2 x1))) :=
                  Lib.hid (own_set_op (own_set_op (HOq.out.below' (bel_drew hbq)) hVl (by omega) x2) (by rw [List.length_set]; exact hVl) (by rw [List.length_set]; omega) x1)
                have HTn : Hid (Turn (fun x => (Value.slice (some ⟨g, 0, none⟩) K.length kc).ownBlock = some x) wo ((wq.drew.setCells g (i1 * 12) (ocells x2).toArray.toList).setCells g (i2 * 12) (ocells x1).toArray.toList)) :=
                  Lib.hid (turn_setCells (F := fun x => (Value.slice (some ⟨g, 0, none⟩) K.length kc).ownBlock = some x) rfl _ _ (turn_setCells (F := fun x => (Value.slice (some ⟨g, 0, none⟩) K.length kc).ownBlock = some x) rfl _ _ (HTq.out.next (bel_drew hbq))))
                clear r1 r2 t1 t2 e46 hOv hVl hx1 hx2
                generalize (ocells x1).toArray = A1 at *
                generalize (ocells x2).toArray = A2 at *
                generalize wq.drew.setCells g (i1 * 12) A2.toList = ws1 at *
                generalize ws1.setCells g (i2 * 12) A1.toList = ws2 at *
                have HL1 := Lib.hid hl1
                have HL2 := Lib.hid hl2
                have HS1 := Lib.hid hs1
                have HS2 := Lib.hid hs2
                clear hl1 hl2 hs1 hs2
                refine wp_region_noPanic ?_
                refine wp_region_held_drew (S := fun _ => True) (by kernel_rfl) ?hS0 (fun hHeld => ?_)
                case hS0 => trivial
                refine wpAnyH_take (i := 0) (oi := ?o0) (v := ?v0) ?hi0 (by kernel_rfl) (by kernel_rfl) (by kernel_rfl) (fun _ _ _ h => h) (Or.inl ⟨?hw0, ?hy0⟩) (by assumption) ?rest0
                case hi0 => (simp only [List.getElem?_toArray, List.getElem?_cons_succ, List.getElem?_cons_zero]; rfl)
                case hw0 => rfl
                case hy0 => (intro w hSw; (try dsimp only at hSw); go_simp; try (with_reducible rfl))
                try simp only [Act.put, List.setIfInBounds_toArray, List.set_cons_zero, List.set_cons_succ]
                refine wpAnyH_take (i := 1) (oi := ?o1) (v := ?v1) ?hi1 (by kernel_rfl) (by kernel_rfl) (by kernel_rfl) (fun _ _ _ h => h) (Or.inl ⟨?hw1, ?hy1⟩) (by assumption) ?rest1
                case hi1 => (simp only [List.getElem?_toArray, List.getElem?_cons_succ, List.getElem?_cons_zero]; rfl)
                case hw1 => rfl
                case hy1 => (intro w hSw; (try dsimp only at hSw); go_simp; try (with_reducible rfl))
                try simp only [Act.put, List.setIfInBounds_toArray, List.set_cons_zero, List.set_cons_succ]
                refine wpAnyH_take (i := 2) (oi := ?o2) (v := ?v2) ?hi2 (by kernel_rfl) (by kernel_rfl) (by kernel_rfl) (fun _ _ _ h => h) (Or.inl ⟨?hw2, ?hy2⟩) (by assumption) ?rest2
                case hi2 => (simp only [List.getElem?_toArray, List.getElem?_cons_succ, List.getElem?_cons_zero]; rfl)
                case hw2 => rfl
                case hy2 => (intro w hSw; (try dsimp only at hSw); go_simp; try (with_reducible rfl))
                try simp only [Act.put, List.setIfInBounds_toArray, List.set_cons_zero, List.set_cons_succ]
                refine wpAnyH_take (i := 3) (oi := ?o3) (v := ?v3) ?hi3 (by kernel_rfl) (by kernel_rfl) (by kernel_rfl) (fun _ _ _ h => h) (Or.inl ⟨?hw3, ?hy3⟩) (by assumption) ?rest3
                case hi3 => (simp only [List.getElem?_toArray, List.getElem?_cons_succ, List.getElem?_cons_zero]; rfl)
                case hw3 => rfl
                case hy3 => (intro w hSw; (try dsimp only at hSw); go_simp; try (with_reducible rfl))
                try simp only [Act.put, List.setIfInBounds_toArray, List.set_cons_zero, List.set_cons_succ]
                refine wpAnyH_take (i := 4) (oi := ?o4) (v := ?v4) ?hi4 (by kernel_rfl) (by kernel_rfl) (by kernel_rfl) (fun _ _ _ h => h) (Or.inl ⟨?hw4, ?hy4⟩) (by assumption) ?rest4
                case hi4 => (simp only [List.getElem?_toArray, List.getElem?_cons_succ, List.getElem?_cons_zero]; rfl)
                case hw4 => rfl
                case hy4 => (intro w hSw; (try dsimp only at hSw); go_simp; try (with_reducible rfl))
                try simp only [Act.put, List.setIfInBounds_toArray, List.set_cons_zero, List.set_cons_succ]
                refine wpAnyH_take (i := 5) (oi := ?o5) (v := ?v5) ?hi5 (by kernel_rfl) (by kernel_rfl) (by kernel_rfl) (fun _ _ _ h => h) (Or.inl ⟨?hw5, ?hy5⟩) (by assumption) ?rest5
                case hi5 => (simp only [List.getElem?_toArray, List.getElem?_cons_succ, List.getElem?_cons_zero]; rfl)
                case hw5 => rfl
                case hy5 => (intro w hSw; (try dsimp only at hSw); go_simp; try (with_reducible rfl))
                try simp only [Act.put, List.setIfInBounds_toArray, List.set_cons_zero, List.set_cons_succ]
                refine wpAnyH_take (i := 6) (oi := ?o6) (v := ?v6) ?hi6 (by kernel_rfl) (by kernel_rfl) (by kernel_rfl) (fun _ _ _ h => h) (Or.inl ⟨?hw6, ?hy6⟩) (by assumption) ?rest6
                case hi6 => (simp only [List.getElem?_toArray, List.getElem?_cons_succ, List.getElem?_cons_zero]; rfl)
                case hw6 => rfl
                case hy6 => (intro w hSw; (try dsimp only at hSw); go_simp; try (with_reducible rfl))
                try simp only [Act.put, List.setIfInBounds_toArray, List.set_cons_zero, List.set_cons_succ]
                refine wpAnyH_take (i := 8) (oi := ?o8) (v := ?v8) ?hi8 (by kernel_rfl) (by kernel_rfl) (by kernel_rfl) (fun _ _ _ h => h) (Or.inl ⟨?hw8, ?hy8⟩) (by assumption) ?rest8
                case hi8 => (simp only [List.getElem?_toArray, List.getElem?_cons_succ, List.getElem?_cons_zero]; rfl)
                case hw8 => rfl
                case hy8 => (intro w hSw; (try dsimp only at hSw); go_simp; try (with_reducible rfl))
                try simp only [Act.put, List.setIfInBounds_toArray, List.set_cons_zero, List.set_cons_succ]
                refine wpAnyH_take (i := 9) (oi := ?o9) (v := ?v9) ?hi9 (by kernel_rfl) (by kernel_rfl) (by kernel_rfl) (fun _ _ _ h => h) (Or.inl ⟨?hw9, ?hy9⟩) (by assumption) ?rest9
                case hi9 => (simp only [List.getElem?_toArray, List.getElem?_cons_succ, List.getElem?_cons_zero]; rfl)
                case hw9 => rfl
                case hy9 => (intro w hSw; (try dsimp only at hSw); go_simp; try (with_reducible rfl))
                try simp only [Act.put, List.setIfInBounds_toArray, List.set_cons_zero, List.set_cons_succ]
                refine wpAnyH_take (i := 10) (oi := ?o10) (v := ?v10) ?hi10 (by kernel_rfl) (by kernel_rfl) (by kernel_rfl) (fun _ _ _ h => h) (Or.inl ⟨?hw10, ?hy10⟩) (by assumption) ?rest10
                case hi10 => (simp only [List.getElem?_toArray, List.getElem?_cons_succ, List.getElem?_cons_zero]; rfl)
                case hw10 => rfl
                case hy10 => (intro w hSw; (try dsimp only at hSw); go_simp; try (with_reducible rfl))
                try simp only [Act.put, List.setIfInBounds_toArray, List.set_cons_zero, List.set_cons_succ]
                refine wpAnyH_ready (rs := [7, 11]) (by kernel_rfl) (by simp) ?_
                refine AllReadyH.cons rfl (fun K hK => ?_) (AllReadyH.cons rfl (fun K hK => ?_) AllReadyH.nil)
                · refine step_load_op (by rfl) (some 81) (by rfl) _ (by rfl) HL2.out (by rfl) ?_
                  refine hK.out _ _ ?hS7 (fun hHeld2 => ?_)
                  case hS7 => trivial
                  clear hK K
                  try dsimp only
                  try simp only [Act.put, List.setIfInBounds_toArray, List.set_cons_zero, List.set_cons_succ]
                  refine wpAnyH_ready (rs := [11]) (by kernel_rfl) (by simp) ?_
                  refine AllReadyH.cons rfl (fun K hK => ?_) AllReadyH.nil
                  refine step_load_op (by rfl) (some 85) (by rfl) _ (by rfl) HL1.out (by rfl) ?_
                  refine hK.out _ _ ?hS11 (fun hHeld2 => ?_)
                  case hS11 => trivial
                  clear hK K
                  try dsimp only
                  try simp only [Act.put, List.setIfInBounds_toArray, List.set_cons_zero, List.set_cons_succ]
                  refine wpAnyH_take (i := 12) (oi := ?o12b) (v := ?v12b) ?hi12b (by kernel_rfl) (by kernel_rfl) (by kernel_rfl) (fun _ _ _ h => h) (Or.inl ⟨?hw12b, ?hy12b⟩) (by assumption) ?rest12b
                  case hi12b => (simp only [List.getElem?_toArray, List.getElem?_cons_succ, List.getElem?_cons_zero]; rfl)
                  case hw12b => rfl
                  case hy12b => (intro w hSw; (try dsimp only at hSw); go_simp; try (with_reducible rfl))
                  try simp only [Act.put, List.setIfInBounds_toArray, List.set_cons_zero, List.set_cons_succ]
                  refine wpAnyH_ready (rs := [13]) (by kernel_rfl) (by simp) ?_
                  refine AllReadyH.cons rfl (fun K hK => ?_) AllReadyH.nil
                  refine step_store_op (by rfl) (by rfl) _ _ (by rfl) HS1.out (by rfl) (by rfl) ?_
                  refine hK.out _ _ ?hS13 (fun hHeld2 => ?_)
                  case hS13 => trivial
                  clear hK K
                  try dsimp only
                  try simp only [Act.put, List.setIfInBounds_toArray, List.set_cons_zero, List.set_cons_succ]
                  refine wpAnyH_take (i := 14) (oi := ?o14b) (v := ?v14b) ?hi14b (by kernel_rfl) (by kernel_rfl) (by kernel_rfl) (fun _ _ _ h => h) (Or.inl ⟨?hw14b, ?hy14b⟩) (by assumption) ?rest14b
                  case hi14b => (simp only [List.getElem?_toArray, List.getElem?_cons_succ, List.getElem?_cons_zero]; rfl)
                  case hw14b => rfl
                  case hy14b => (intro w hSw; (try dsimp only at hSw); go_simp; try (with_reducible rfl))
                  try simp only [Act.put, List.setIfInBounds_toArray, List.set_cons_zero, List.set_cons_succ]
                  refine wpAnyH_ready (rs := [15]) (by kernel_rfl) (by simp) ?_
                  refine AllReadyH.cons rfl (fun K hK => ?_) AllReadyH.nil
                  refine step_store_op (by rfl) (by rfl) _ _ (by rfl) HS2.out (by rfl) (by rfl) ?_
                  refine hK.out _ _ ?hS15 (fun hHeld2 => ?_)
                  case hS15 => trivial
                  clear hK K
                  try dsimp only
                  try simp only [Act.put, List.setIfInBounds_toArray, List.set_cons_zero, List.set_cons_succ]
                  refine wpAnyH_done (by kernel_rfl) ?_ _
                  refine NoPanic.normal ?_
                  go_wp2_with fail
                  go_roundw
                  case rel => exact ⟨j + 1, _, by omega, by go_num, HVn, HOn, HTn⟩
                  case measure => simp [intOf]; omega
                · refine step_load_op (by rfl) (some 85) (by rfl) _ (by rfl) HL1.out (by rfl) ?_
                  refine hK.out _ _ ?hS11 (fun hHeld2 => ?_)
                  case hS11 => trivial
                  clear hK K
                  try dsimp only
                  try simp only [Act.put, List.setIfInBounds_toArray, List.set_cons_zero, List.set_cons_succ]
                  refine wpAnyH_ready (rs := [7]) (by kernel_rfl) (by simp) ?_
                  refine AllReadyH.cons rfl (fun K hK => ?_) AllReadyH.nil
                  refine step_load_op (by rfl) (some 81) (by rfl) _ (by rfl) HL2.out (by rfl) ?_
                  refine hK.out _ _ ?hS7 (fun hHeld2 => ?_)
                  case hS7 => trivial
                  clear hK K
                  try dsimp only
                  try simp only [Act.put, List.setIfInBounds_toArray, List.set_cons_zero, List.set_cons_succ]
                  refine wpAnyH_take (i := 12) (oi := ?o12c) (v := ?v12c) ?hi12c (by kernel_rfl) (by kernel_rfl) (by kernel_rfl) (fun _ _ _ h => h) (Or.inl ⟨?hw12c, ?hy12c⟩) (by assumption) ?rest12c
                  case hi12c => (simp only [List.getElem?_toArray, List.getElem?_cons_succ, List.getElem?_cons_zero]; rfl)
                  case hw12c => rfl
                  case hy12c => (intro w hSw; (try dsimp only at hSw); go_simp; try (with_reducible rfl))
                  try simp only [Act.put, List.setIfInBounds_toArray, List.set_cons_zero, List.set_cons_succ]
                  refine wpAnyH_ready (rs := [13]) (by kernel_rfl) (by simp) ?_
                  refine AllReadyH.cons rfl (fun K hK => ?_) AllReadyH.nil
                  refine step_store_op (by rfl) (by rfl) _ _ (by rfl) HS1.out (by rfl) (by rfl) ?_
                  refine hK.out _ _ ?hS13 (fun hHeld2 => ?_)
                  case hS13 => trivial
                  clear hK K
                  try dsimp only
                  try simp only [Act.put, List.setIfInBounds_toArray, List.set_cons_zero, List.set_cons_succ]
                  refine wpAnyH_take (i := 14) (oi := ?o14c) (v := ?v14c) ?hi14c (by kernel_rfl) (by kernel_rfl) (by kernel_rfl) (fun _ _ _ h => h) (Or.inl ⟨?hw14c, ?hy14c⟩) (by assumption) ?rest14c
                  case hi14c => (simp only [List.getElem?_toArray, List.getElem?_cons_succ, List.getElem?_cons_zero]; rfl)
                  case hw14c => rfl
                  case hy14c => (intro w hSw; (try dsimp only at hSw); go_simp; try (with_reducible rfl))
                  try simp only [Act.put, List.setIfInBounds_toArray, List.set_cons_zero, List.set_cons_succ]
                  refine wpAnyH_ready (rs := [15]) (by kernel_rfl) (by simp) ?_
                  refine AllReadyH.cons rfl (fun K hK => ?_) AllReadyH.nil
                  refine step_store_op (by rfl) (by rfl) _ _ (by rfl) HS2.out (by rfl) (by rfl) ?_
                  refine hK.out _ _ ?hS15 (fun hHeld2 => ?_)
                  case hS15 => trivial
                  clear hK K
                  try dsimp only
                  try simp only [Act.put, List.setIfInBounds_toArray, List.set_cons_zero, List.set_cons_succ]
                  refine wpAnyH_done (by kernel_rfl) ?_ _
                  refine NoPanic.normal ?_
                  go_wp2_with fail
                  go_roundw
                  case rel => exact ⟨j + 1, _, by omega, by go_num, HVn, HOn, HTn⟩
                  case measure => simp [intOf]; omega
            · have hk3 : decide (60 ≤ (j : Int)) = true := by simp; omega
              have hk4 : (60 ≤ (j : Int)) := by omega
              go_wp2_with fail
              go_meet
              case rel => exact ⟨V, HV, HOq, HTq⟩
          · obtain rfl : j = T.length := by omega
            go_wp2_with fail
            go_meet
            case rel => exact ⟨V, HV, HOq, HTq⟩
      case rest =>
        obtain ⟨V, HV, HOc, HTc⟩ := hcut
        have HBc : Hid (Below w.heap.size w wc) := Lib.hid (((Turn.of (F := fun _ => False) HI.out.2.2).trans HTc.out (fun x hx => .inr (HO.out.2.1 x hx))).bel (Nat.le_refl _) (fun x hx => hx.elim))
        have HSc : Hid (St F wc s M (min l.length 60)) := Lib.hid (HI.out.1.keep HTc.out (fun x hx hx2 => HO.out.2.2 x hx2 hx))
        have HRO : Hid (RdO wc (.slice ka K.length kc) V) := Lib.hid ⟨by rw [HV.out.length_eq]; exact HOc.out.rd, fun o ho => (HK.out.2.2 o (HV.out.mem_iff.1 ho)).below HBc.out⟩
        have HKe := took_made HK.out.1 HV.out (by have := HKl.out; omega)
        have hmk := made_any (.slice ka K.length kc) V wc HRO.out
        generalize madeS (V.take 80) [] = M3 at HKe hmk
        have HMade := Lib.hid hmk
        have HEq := Lib.hid HKe
        have HLa : Hid (∀ W, Below wc.heap.size wc W → Calls Tryz.prog 17 #[.pointer (some ⟨s, 0, none⟩)] W fun e w' => ∃ v Q, e = .returned (.tuple #[v, .bool true]) ∧ Pts 112 152 W w' v Q ∧ Q.map Pn.told = keptL M) := Lib.hid (fun W hW => lkept_any W (HSc.out.next hW) (by omega))
        have HLen : Hid (∀ W, Below wc.heap.size wc W → Calls Tryz.prog 19 #[.pointer (some ⟨s, 0, none⟩)] W fun e w' => e = .returned (.int .i64 (K.length : Int)) ∧ W = w') := Lib.hid (fun W hW => by
          have := len_any W (HSc.out.next hW)
          rw [HK.out.1.len] at this
          exact this)
        have hcc := bel_refl wc
        have HGc : Hid (Glob wc) := Lib.hid (HG.out.below HBc.out)
        clear hmk HKe HSc HTc HOc HRO HV HK HI HO HUcell Hcell
        go_wp2_with (first
          | (go_at_call 8; refine HMade.out.mono ?_; rintro e w2 ⟨s3, F3, rfl, h3, -, hb3⟩; have hx2 : Below wc.heap.size wc w2 := hb3; have HLb : Hid (∀ W, Below w2.heap.size w2 W → Calls Tryz.prog 17 #[.pointer (some ⟨s3, 0, none⟩)] W fun e w' => ∃ v Q, e = .returned (.tuple #[v, .bool true]) ∧ Pts 112 152 W w' v Q ∧ Q.map Pn.told = keptL M3) := Lib.hid (fun W hW => lkept_any W (h3.next hW) (by omega)); clear h3 hb3)
          | (go_at_call 17; first
              | ((with_reducible refine (HLa.out w2 hx2).mono ?_); rintro e w3 ⟨v3, Q3, rfl, hp3, hq3⟩; have hx3 : Below w2.heap.size w2 w3 := hp3.bel; have HP3 := Lib.hid hp3.rd; have HQ3 := Lib.hid hq3; clear hp3 hq3)
              | ((with_reducible refine (HLb.out w3 hx3).mono ?_); rintro e w4 ⟨v4, Q4, rfl, hp4, hq4⟩; have hx4 : Below wc.heap.size wc w4 := bel_trans hx2 (bel_trans hx3 hp4.bel); have HP4 := Lib.hid hp4.rd; have HP34 := Lib.hid (HP3.out.below hp4.bel); have HQ4 := Lib.hid hq4; clear hp4 hq4))
          | (go_at_call 9; refine (awake_any w4 (HGc.out.below hx4)).mono ?_; rintro e w5 ⟨rfl, hb5⟩; have hx5 : Below wc.heap.size wc w5 := bel_trans hx4 hb5; have HP35 := Lib.hid (HP34.out.below hb5); have HP45 := Lib.hid (HP4.out.below hb5); clear hb5)
          | (go_at_call 18; refine (samep_yes v3 v4 Q3 Q4 w5 HP35.out HP45.out (by rw [HQ4.out, HQ3.out]; exact HEq.out)).mono ?_; rintro e w6 ⟨rfl, hb6⟩; have hx6 : Below wc.heap.size wc w6 := bel_trans hx5 hb6; clear hb6)
          | (go_at_call 19; refine (HLen.out w6 hx6).mono ?_; rintro e w7 ⟨rfl, rfl⟩)
          | fail)
        go_ret
        exact ⟨rfl, bel_trans HBc.out hx6⟩
end Go.Proofs.YtplieoalfbpniaaGreat
