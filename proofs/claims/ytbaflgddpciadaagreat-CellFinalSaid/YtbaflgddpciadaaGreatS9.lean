/- Chains: slices.Insert (68) of one version into a row of the call's own. Chains: slices.Insert (68) where there is room; the whole; chain.Put (40). Chains: chain.Put (40). How sets stand: strings.Compare (84), label.Compare (60), Compare$1 (83), slices.CompareFunc (82). -/
import Derived.Test.YtbaflgddpciadaaGreatS5
import Derived.Lib.AppendZerosOnto
import Derived.Lib.Overlaps
import Derived.Laws.CopyRow
import Derived.Laws.CopyOwn
import Derived.Shelf.Small.Strs
set_option linter.unusedVariables false
set_option linter.unusedSimpArgs false
namespace Go.Proofs.YtbaflgddpciadaaGreat
open Go.RowKit Go.Kt Go.Ix Go.Sx
set_option maxRecDepth 100000

/-- 'copy(d, s)' of elements of k cells into a row that is known whole -/
theorem run_copy_k {P : Program} (w : World) (dT sT ty elem : TypeId) (k g o dLen dCap : Nat) (a : Addr) (sLen sCap : Nat) (cur : Array Value) (t : TypeId) (cs : List Value)
    (hu : P.underlying dT = some (.slice elem)) (hs : (P.info? elem).map (·.size) = some k)
    (hg : w.heap[g]? = some (.cells cur t (0, 0))) (hn : cs.length = Nat.min sLen dLen * k)
    (hsrc : ∀ j v, cs[j]? = some v → w.cell? (a.add j) = some v) (hfit : o + cs.length ≤ cur.size) (h1 : ∀ v ∈ cs, v.oneCell' = true) :
    (Builtin.copy_ #[dT, sT] ty #[.slice (some ⟨g, o, none⟩) dLen dCap, .slice (some a) sLen sCap]).run P w =
      .ok (goInt (Nat.min sLen dLen)) (w.setRow g (cur.toList.take o ++ cs ++ cur.toList.drop (o + cs.length)).toArray) := by
  have hl := run_loadCells_list (P := P) w a cs hsrc
  have hst := run_storeCells_at P g o t cs 0 cur w hg (by simpa using hfit) h1
  cases hq : P.info? elem with
  | none => simp [hq] at hs
  | some i =>
    have hi : i.size = k := by simpa [hq] using hs
    simp [Builtin.copy_, run_underlying hu, Builtin.lenOf, Builtin.firstCells, sizeOf, typeInfo, hq, hi, ← hn, hl, hst]
theorem wp_copy_at {P : Program} (w : World) {o : Oper} {a : Act} {K : Act → World → Prop} {Q : Exit → Act → World → Prop} (d s : Operand) (t t' : TypeId)
    (ho : o.op = .call { callee := .builtin .copy, args := #[d, s], argTypes := #[t, t'] }) (v u : Value) (hd : a.eval d = v) (hs : a.eval s = u) {v' : Value} {w' : World}
    (hr : (Builtin.copy_ #[t, t'] o.type #[v, u]).run P w = .ok v' w') (h : K (a.put o.dst v') w') : o.wp P a w K Q := by
  unfold Oper.wp execOp
  simp only [ho, resolve, invoke, builtin, Sem.run_bind, Sem.run_pure, Result.andThen_ok, List.map_toArray, List.map_cons, List.map_nil, hd, hs, hr]
  exact h
theorem wpList_copy_at {P : Program} (w : World) {ops : Array Oper} {rest : List Oper} {o : Oper} {a : Act} {Q : Exit → Act → World → Prop} (hgd : o.guard = none) (d s : Operand) (t t' : TypeId)
    (ho : o.op = .call { callee := .builtin .copy, args := #[d, s], argTypes := #[t, t'] }) (v u : Value) (hd : a.eval d = v) (hs : a.eval s = u) {v' : Value} {w' : World}
    (hr : (Builtin.copy_ #[t, t'] o.type #[v, u]).run P w = .ok v' w') (h : wpList P ops Q rest (a.put o.dst v') w') : wpList P ops Q (o :: rest) a w :=
  wpList_plain hgd fun _ hK => wp_copy_at w d s t t' ho v u hd hs hr (hK _ _ h)
theorem step_copy_at {P : Program} {ops : Array Oper} {o : Oper} {a : Act} {w : World} {K : Act → World → Prop} {Q : Exit → Act → World → Prop} {E : Prop}
    (hg : o.guard = none) (d x : Operand) (dT sT : TypeId) (hop : o.op = Op.call { callee := Callee.builtin Builtin.copy, args := #[d, x], argTypes := #[dT, sT] })
    (v u : Value) (hd : a.eval d = v) (hx : a.eval x = u) {v' : Value} {w' : World} (hr : (Builtin.copy_ #[dT, sT] o.type #[v, u]).run P w = .ok v' w') (hK : K (a.put o.dst v') w') :
    if Region.wanted o (yielded ops a.tmps) = true then Oper.wp P o a w K Q else E := by
  have hw : Region.wanted o (yielded ops a.tmps) = true := by simp [Region.wanted, hg]
  rw [if_pos hw]
  exact wp_copy_at w d x dT sT hop v u hd hx hr hK
theorem cells_lt {w : World} {g : Nat} {cur : Array Value} {e : TypeId} (h : w.heap[g]? = some (.cells cur e (0, 0))) : g < w.heap.size := (Array.getElem?_eq_some_iff.1 h).1

set_option maxHeartbeats 4000000 in
theorem insert_end {w0 w : World} (v : Value) (l : List Ver) (x : Ver) (xb : Nat) (hv : MineV w0 w v l) (hx : RdV w (.slice (some ⟨xb, 0, none⟩) 1 1) [x]) (hn : l.length ≤ 1048576) :
    Calls Tryz.prog 209 #[v, .int .i64 (l.length : Int), .slice (some ⟨xb, 0, none⟩) 1 1] w fun e w' => ∃ v', e = .returned v' ∧ MineV w0 w' v' (l ++ [x]) := by
  obtain ⟨_, a, cap, rfl, -⟩ := hv.rd
  have HV := Lib.hid hv
  have HX := Lib.hid hx
  clear hv hx
  go_enter Tryz.func209, Tryz.ntmps209
  go_wp2_with (with_reducible refine hold_slice ?_)
  unfold Hold
  refine wpList_cut_lo (kl := .i64) ok96 l.length (by rfl) (by rfl) (by simp) HV.out.rd (by omega) ?_
  intro v8 hv8
  clear hv8
  go_wp2_with (at_builtin; apply Hold.mk)
  unfold Hold
  refine mine_app rfl _ _ 241 rfl ok96 (by rfl) (by rfl) HV.out (bel_refl _) HX.out (by exact flatV_one [x]) (by simp only [maxLen, List.length_singleton]; omega) (by simp only [List.length_singleton]; omega) ?_
  intro v7 w7 hm7 hg7
  have HM7 : Hid (MineV w0 w7 v7 (l ++ [x])) := Lib.hid (by unfold MineV; rw [flatV_append, List.length_append]; exact hm7)
  clear hm7 hg7
  go_wp2_with fail
  go_ret
  exact ⟨_, rfl, HM7.out⟩

theorem flatV_cons (x : Ver) (l : List Ver) : flatV (x :: l) = vcells x ++ flatV l := rfl
theorem vcells_len (x : Ver) : (vcells x).length = 6 := rfl
theorem rd_cell {w : World} {b n c : Nat} {l : List Ver} (h : RdV w (.slice (some ⟨b, 0, none⟩) n c) l) : ∀ j u, (flatV l)[j]? = some u → w.cell? ⟨b, j, none⟩ = some u := by
  obtain ⟨_, a, c', e, _, _, _, h5⟩ := h
  intro j u hj
  obtain ⟨b', o, e', hc⟩ := h5 j u hj
  injection e with e _ _
  rw [← e] at e'
  injection e' with e'
  injection e' with e1 e2 _
  rw [← e1, ← e2, Nat.zero_add] at hc
  exact hc
def zV : Value := .agg #[.int .i64 0, .int .u32 0, .int .u32 0, .int .i64 0, .int .i64 0, .string ⟨#[]⟩]
theorem zcells_len (n : Nat) : (Builtin.zeroCells zV.cells n).size = n * 6 := by
  unfold Builtin.zeroCells
  simp [zV, Value.cells]
/-- behind both copies the row holds the longer chain -/
theorem ins_row (R : List Value) (l : List Ver) (x : Ver) (i G : Nat) (hi : i < l.length) (hR : R.length = G * 6) (hG : l.length + 1 ≤ G) (ht : R.take (i * 6) = flatV (l.take i)) :
    let R1 := R.take (i * 6) ++ vcells x ++ R.drop (i * 6 + (vcells x).length)
    let R2 := R1.take ((i + 1) * 6) ++ flatV (l.drop i) ++ R1.drop ((i + 1) * 6 + (flatV (l.drop i)).length)
    R1.length = G * 6 ∧ R2.length = G * 6 ∧ R2.take ((l.length + 1) * 6) = flatV (l.take i ++ x :: l.drop i) := by
  have e1 : (flatV (l.take i)).length = i * 6 := by rw [flatV_len, List.length_take]; omega
  have e2 : (flatV (l.drop i)).length = (l.length - i) * 6 := by rw [flatV_len, List.length_drop]
  intro R1 R2
  have hR1 : R1 = (flatV (l.take i) ++ vcells x) ++ R.drop (i * 6 + 6) := by show R.take (i * 6) ++ vcells x ++ R.drop (i * 6 + 6) = _; rw [ht]
  have h6 : (flatV (l.take i) ++ vcells x).length = (i + 1) * 6 := by rw [List.length_append, e1, vcells_len]; omega
  have l1 : R1.length = G * 6 := by rw [hR1, List.length_append, h6, List.length_drop, hR]; omega
  have hR2 : R2 = (flatV (l.take i) ++ vcells x ++ flatV (l.drop i)) ++ R1.drop ((i + 1) * 6 + (flatV (l.drop i)).length) := by
    show R1.take ((i + 1) * 6) ++ _ ++ _ = _
    congr 2
    rw [hR1, List.take_append, List.take_of_length_le (by omega), h6, Nat.sub_self, List.take_zero, List.append_nil]
  have h7 : (flatV (l.take i) ++ vcells x ++ flatV (l.drop i)).length = (l.length + 1) * 6 := by rw [List.length_append, h6, e2]; omega
  refine ⟨l1, ?_, ?_⟩
  · rw [hR2, List.length_append, h7, List.length_drop, l1, e2]; omega
  · rw [hR2, List.take_append, List.take_of_length_le (by omega), h7, Nat.sub_self, List.take_zero, List.append_nil, flatV_append, flatV_cons, List.append_assoc]
set_option maxHeartbeats 4000000 in
theorem insert_grow {w0 w : World} (g cap i : Nat) (l : List Ver) (x : Ver) (xb : Nat) (hv : MineV w0 w (.slice (some ⟨g, 0, none⟩) l.length cap) l) (hx : RdV w (.slice (some ⟨xb, 0, none⟩) 1 1) [x]) (hn : l.length ≤ 1048576) (hi : i < l.length) (hc : cap < l.length + 1) :
    Calls Tryz.prog 209 #[.slice (some ⟨g, 0, none⟩) l.length cap, .int .i64 (i : Int), .slice (some ⟨xb, 0, none⟩) 1 1] w fun e w' => ∃ v', e = .returned v' ∧ MineV w0 w' v' (l.take i ++ x :: l.drop i) := by
  have HV := Lib.hid hv
  have HX := Lib.hid hx
  obtain ⟨_, _, cap', e, hcap, -⟩ := hv.rd
  cases e
  have hz2 : ((i : Int) == (l.length : Int)) = false := bne_of (by omega)
  have hz3 : (cap : Int) < (l.length : Int) + 1 := by omega
  have hb3 : (i : Int) ≤ (l.length : Int) := by omega
  have hb4 : (i : Int) ≤ (cap : Int) := by omega
  have hb5 : (0 : Int) ≤ (i : Int) := by omega
  clear hv hx
  go_enter Tryz.func209, Tryz.ntmps209
  obtain ⟨_, ⟨e, _⟩ | ⟨g', cap', cur, e, hB, hg, hnc, hm, hcs, ht⟩⟩ := HV.out.1
  · cases e
  cases e
  obtain ⟨i0, hi0, hz0, hzs, hzb⟩ := info_parts (by kernel_rfl : (Tryz.prog.info? 270).map (fun i => (i.zero, i.size, i.bytes)) = some (some zV, 6, 48))
  have hcl : (flatV (l.take i)).length = i * 6 := by rw [flatV_len, List.length_take]; omega
  have hold : (Builtin.firstCells i0.size i (.slice (some ⟨g, 0, none⟩) i cap)).run Tryz.prog w.drew = .ok (flatV (l.take i)).toArray w.drew := by
    rw [hzs]
    exact run_firstCells_some w.drew 6 i ⟨g, 0, none⟩ i cap (flatV (l.take i)) hcl (fun j u hj => by
      rw [Addr.add_lit, Nat.zero_add]
      rw [flatV_take, List.getElem?_take] at hj
      split at hj
      · exact rd_cell HV.out.rd j u hj
      · cases hj)
  have hrz : ∀ ty, (Builtin.append_ #[241, 3] ty #[.slice (some ⟨g, 0, none⟩) i cap, .int .i64 ((l.length : Int) + 1 - (i : Int))]).run Tryz.prog w =
      .ok (.slice (some ⟨w.heap.size, 0, none⟩) (l.length + 1) (grownCap w (l.length + 1) cap 270)) (w.drew.alloc (.cells ((flatV (l.take i)).toArray ++ Builtin.zeroCells zV.cells (l.length + 1 - i) ++ Builtin.zeroCells zV.cells (grownCap w (l.length + 1) cap 270 - (l.length + 1))) 270)) := fun ty => by
    have h := Lib.run_append_grow_zeros w 241 3 ty 270 i0 zV .i64 .i64 Tryz.underlying241 Tryz.underlying3 hi0 hz0 (some ⟨g, 0, none⟩) i cap (flatV (l.take i)) hold (l.length + 1 - i) (by omega) (by omega) (by omega) (by omega) (by rw [hzb]; omega) (by rw [hzb, show i + (l.length + 1 - i) = l.length + 1 by omega]; exact growslice_fits hc (by omega))
    rw [show i + (l.length + 1 - i) = l.length + 1 by omega] at h
    rw [show (l.length : Int) + 1 - (i : Int) = ((l.length + 1 - i : Nat) : Int) by omega]
    exact h
  have hGn : l.length + 1 ≤ grownCap w (l.length + 1) cap 270 := grownCap_ge w _ _ _
  have hG63 := grownCap_le_maxLen w (l.length + 1) cap 270 (by unfold maxLen; omega)
  generalize grownCap w (l.length + 1) cap 270 = G at hrz hGn hG63
  obtain ⟨ROW, hROW⟩ : ∃ ROW : Array Value, ROW = (flatV (l.take i)).toArray ++ Builtin.zeroCells zV.cells (l.length + 1 - i) ++ Builtin.zeroCells zV.cells (G - (l.length + 1)) := ⟨_, rfl⟩
  rw [← hROW] at hrz
  have hRl : ROW.size = G * 6 := by
    rw [hROW, Array.size_append, Array.size_append, zcells_len, zcells_len, List.size_toArray, hcl]
    omega
  have hRt : ROW.toList.take (i * 6) = flatV (l.take i) := by
    rw [hROW, Array.toList_append, Array.toList_append, List.append_assoc, List.take_append, List.take_of_length_le (by simp [hcl]), show i * 6 - (flatV (l.take i)).toArray.toList.length = 0 by simp [hcl], List.take_zero, List.append_nil]
  have hrow := ins_row ROW.toList l x i G hi (by rw [Array.length_toList]; exact hRl) hGn hRt
  have hgw := cells_lt hg
  obtain ⟨W1, hW1⟩ : ∃ W1, W1 = w.drew.alloc (.cells ROW 270) := ⟨_, rfl⟩
  have hN : W1.heap[w.heap.size]? = some (.cells ROW 270 (0, 0)) := by rw [hW1]; exact heap_alloc_new w.drew _
  rw [← hW1] at hrz
  have hbW : Below w.heap.size w W1 := by rw [hW1]; exact bel_alloc (bel_drew (bel_refl w))
  have hxW : RdV W1 (.slice (some ⟨xb, 0, none⟩) 1 1) [x] := HX.out.below hbW
  have hcp1 : ∀ W : World, W.heap = W1.heap → ∀ ty dc, (Builtin.copy_ #[241, 241] ty #[.slice (some ⟨w.heap.size, i * 6, none⟩) (l.length + 1 - i) dc, .slice (some ⟨xb, 0, none⟩) 1 1]).run Tryz.prog W = .ok (goInt 1) (W.setRow w.heap.size (ROW.toList.take (i * 6) ++ vcells x ++ ROW.toList.drop (i * 6 + (vcells x).length)).toArray) := fun W hW ty dc => by
    have hm1 : Nat.min 1 (l.length + 1 - i) = 1 := by simp only [Nat.min_def]; split <;> omega
    have h := run_copy_k W 241 241 ty 270 6 w.heap.size (i * 6) (l.length + 1 - i) dc ⟨xb, 0, none⟩ 1 1 ROW 270 (vcells x) Tryz.underlying241 (by rw [hi0]; simp [hzs]) (by rw [hW]; exact hN) (by rw [hm1]; rfl) (fun j u hj => by
      have hc := rd_cell hxW j u (by simpa [flatV] using hj)
      rw [Addr.add_lit, Nat.zero_add]
      simpa [World.cell?, hW] using hc) (by rw [vcells_len]; omega) (fun u hu => flatV_one [x] u (by simpa [flatV] using hu))
    rw [hm1] at h
    exact h
  clear hold hROW hm hcs ht hRt
  go_wp2_with (first
    | (at_builtin; refine Lib.wpList_append_run _ rfl _ _ _ _ rfl _ _ rfl rfl _ _ (hrz _) ?_)
    | (at_builtin; refine wpList_copy_at _ rfl _ _ 241 241 rfl _ _ rfl rfl (hcp1 _ rfl _ _) ?_)
    | (at_builtin; apply Hold.mk))
  obtain ⟨L1, hL1⟩ : ∃ L1, L1 = List.take (i * 6) ROW.toList ++ vcells x ++ List.drop (i * 6 + (vcells x).length) ROW.toList := ⟨_, rfl⟩
  rw [← hL1] at hrow
  simp only [← List.append_assoc]
  rw [← hL1]
  obtain ⟨W2, hW2⟩ : ∃ W2, W2 = ((w.alloc (.cells ROW 270)).drew.setRow w.heap.size L1.toArray) := ⟨_, rfl⟩
  rw [← hW2]
  obtain ⟨hr1, hr2, hr3⟩ := hrow
  have hN2 : W2.heap[w.heap.size]? = some (.cells L1.toArray 270 (0, 0)) := by rw [hW2]; exact setRow_heap _ _ ROW _ 270 _ (heap_alloc_new w _)
  have hbW2 : Below w.heap.size w W2 := by rw [hW2]; exact below_setRow (bel_drew (bel_alloc (bel_refl w))) (Nat.le_refl _) _
  have hdl : (flatV (l.drop i)).length = (l.length - i) * 6 := by rw [flatV_len, List.length_drop]
  have hcp2 : ∀ W : World, W.heap = W2.heap → ∀ ty dc sc, (Builtin.copy_ #[241, 241] ty #[.slice (some ⟨w.heap.size, (i + 1) * 6, none⟩) (l.length - i) dc, .slice (some ⟨g, i * 6, none⟩) (l.length - i) sc]).run Tryz.prog W = .ok (goInt ((l.length - i : Nat) : Int)) (W.setRow w.heap.size (L1.take ((i + 1) * 6) ++ flatV (l.drop i) ++ L1.drop ((i + 1) * 6 + (flatV (l.drop i)).length)).toArray) := fun W hW ty dc sc => by
    have hm1 : Nat.min (l.length - i) (l.length - i) = l.length - i := Nat.min_self _
    have h := run_copy_k W 241 241 ty 270 6 w.heap.size ((i + 1) * 6) (l.length - i) dc ⟨g, i * 6, none⟩ (l.length - i) sc L1.toArray 270 (flatV (l.drop i)) Tryz.underlying241 (by rw [hi0]; simp [hzs]) (by rw [hW]; exact hN2) (by rw [hm1]; exact hdl) (fun j u hj => by
      have hc := rd_cell (HV.out.rd.below hbW2) (i * 6 + j) u (by rw [flatV_drop, List.getElem?_drop] at hj; exact hj)
      rw [Addr.add_lit]
      simpa [World.cell?, hW] using hc) (by rw [hdl, List.size_toArray, hr1]; omega) (fun u hu => flatV_one _ u hu)
    rw [hm1] at h
    exact h
  rw [hdl] at hr2 hr3 hcp2
  clear hrz hcp1 hN hxW hW1 hL1 hW2
  have hb6 : (i : Int) + 1 ≤ (G : Int) := by omega
  have hb7 : (0 : Int) ≤ (i : Int) + 1 := by omega
  have htn : ((i : Int) + 1).toNat = i + 1 := by omega
  have hgi : ¬ (G = i + 1) := by omega
  have hci : ¬ (cap = i) := by omega
  have hb8 : (i : Int) + 1 ≤ (l.length : Int) + 1 := by omega
  have hw8 : IntKind.i64.wrap ((i : Int) + 1) = (i : Int) + 1 := by rw [IntKind.wrap_i64]; omega
  go_region_law (refine step_copy_at rfl _ _ 241 241 rfl (.slice (some ⟨w.heap.size, (i + 1) * 6, none⟩) (l.length - i) (G - (i + 1))) (.slice (some ⟨g, i * 6, none⟩) (l.length - i) (cap - i)) (by simp [Act.eval, Act.put]) (by simp [Act.eval, Act.put]) (hcp2 W2.drew rfl 3 (G - (i + 1)) (cap - i)) ?_)
  have hfin : MineV w0 (W2.drew.setRow w.heap.size (L1.take ((i + 1) * 6) ++ flatV (l.drop i) ++ L1.drop ((i + 1) * 6 + (l.length - i) * 6)).toArray) (.slice (some ⟨w.heap.size, 0, none⟩) (l.length + 1) G) (l.take i ++ x :: l.drop i) := by
    have hll : (l.take i ++ x :: l.drop i).length = l.length + 1 := by simp; omega
    unfold MineV
    rw [hll]
    refine ⟨⟨by rw [flatV_len, hll], .inr ⟨w.heap.size, G, _, rfl, Nat.zero_le _, setRow_heap _ _ L1.toArray _ 270 _ hN2, hGn, hG63, ?_, ?_⟩⟩, fun b hb => ?_, ?_⟩
    · rw [List.size_toArray]; exact hr2
    · exact hr3
    · have e : w.heap.size = b := by simpa [Value.ownBlock] using hb
      have := HV.out.2.2.size
      omega
    · exact below_setRow (bel_drew (bel_trans HV.out.2.2 hbW2)) HV.out.2.2.size _
  rw [List.append_assoc] at hfin
  clear hr1 hr2 hr3 hcp2 hN2
  generalize W2.drew.setRow w.heap.size _ = W3 at hfin ⊢
  have HF := Lib.hid hfin
  clear hfin
  go_wp2_with fail
  go_ret
  exact ⟨_, rfl, HF.out⟩
end Go.Proofs.YtbaflgddpciadaaGreat
namespace Go.Proofs.YtbaflgddpciadaaGreat
open Go.RowKit Go.Kt Go.Ix Go.Sx
set_option maxRecDepth 100000

/-- behind both copies in place the row holds the longer chain -/
theorem ins_room (R : List Value) (l : List Ver) (x : Ver) (i G : Nat) (hi : i < l.length) (hR : R.length = G * 6) (hG : l.length + 1 ≤ G) (ht : R.take (l.length * 6) = flatV l) :
    let R1 := R.take ((i + 1) * 6) ++ flatV (l.drop i) ++ R.drop ((i + 1) * 6 + (l.length - i) * 6)
    let R2 := R1.take (i * 6) ++ vcells x ++ R1.drop (i * 6 + (vcells x).length)
    R1.length = G * 6 ∧ R2.length = G * 6 ∧ R2.take ((l.length + 1) * 6) = flatV (l.take i ++ x :: l.drop i) := by
  have e1 : (flatV (l.take i)).length = i * 6 := by rw [flatV_len, List.length_take]; omega
  have e2 : (flatV (l.drop i)).length = (l.length - i) * 6 := by rw [flatV_len, List.length_drop]
  intro R1 R2
  have ht2 : R.take (i * 6) = flatV (l.take i) := by
    rw [flatV_take, ← ht, List.take_take, Nat.min_eq_left (by omega)]
  have h5 : (R.take ((i + 1) * 6)).length = (i + 1) * 6 := by rw [List.length_take, hR]; omega
  have l1 : R1.length = G * 6 := by
    show (R.take ((i + 1) * 6) ++ flatV (l.drop i) ++ R.drop ((i + 1) * 6 + (l.length - i) * 6)).length = _
    rw [List.length_append, List.length_append, h5, e2, List.length_drop, hR]; omega
  have h6 : R1.take (i * 6) = flatV (l.take i) := by
    show (R.take ((i + 1) * 6) ++ flatV (l.drop i) ++ R.drop ((i + 1) * 6 + (l.length - i) * 6)).take (i * 6) = _
    rw [List.append_assoc, List.take_append_of_le_length (by rw [h5]; omega), List.take_take, Nat.min_eq_left (by omega), ht2]
  have h7 : R1.drop (i * 6 + 6) = flatV (l.drop i) ++ R.drop ((i + 1) * 6 + (l.length - i) * 6) := by
    show (R.take ((i + 1) * 6) ++ flatV (l.drop i) ++ R.drop ((i + 1) * 6 + (l.length - i) * 6)).drop (i * 6 + 6) = _
    rw [List.append_assoc, List.drop_append, List.drop_of_length_le (by rw [h5]; omega), h5, show i * 6 + 6 - (i + 1) * 6 = 0 by omega, List.drop_zero, List.nil_append]
  have hR2 : R2 = (flatV (l.take i) ++ vcells x ++ flatV (l.drop i)) ++ R.drop ((i + 1) * 6 + (l.length - i) * 6) := by
    show R1.take (i * 6) ++ vcells x ++ R1.drop (i * 6 + 6) = _
    rw [h6, h7]
    simp only [List.append_assoc]
  have h8 : (flatV (l.take i) ++ vcells x ++ flatV (l.drop i)).length = (l.length + 1) * 6 := by rw [List.length_append, List.length_append, e1, e2, vcells_len]; omega
  refine ⟨l1, ?_, ?_⟩
  · rw [hR2, List.length_append, h8, List.length_drop, hR]; omega
  · rw [hR2, List.take_append, List.take_of_length_le (by omega), h8, Nat.sub_self, List.take_zero, List.append_nil, flatV_append, flatV_cons, List.append_assoc]

theorem z98 (w : World) : (sizeOf 270).run Tryz.prog w = .ok 6 w := by kernel_rfl
set_option maxHeartbeats 4000000 in
theorem insert_room {w0 w : World} (g cap i : Nat) (l : List Ver) (x : Ver) (xb : Nat) (hv : MineV w0 w (.slice (some ⟨g, 0, none⟩) l.length cap) l) (hx : Blk w xb (vcells x).toArray 270) (hne : xb ≠ g) (hn : l.length ≤ 1048576) (hi : i < l.length) (hc : l.length + 1 ≤ cap) :
    Calls Tryz.prog 209 #[.slice (some ⟨g, 0, none⟩) l.length cap, .int .i64 (i : Int), .slice (some ⟨xb, 0, none⟩) 1 1] w fun e w' => ∃ v', e = .returned v' ∧ MineV w0 w' v' (l.take i ++ x :: l.drop i) := by
  have HV := Lib.hid hv
  have HX := Lib.hid hx
  clear hv hx
  obtain ⟨_, ⟨e, _⟩ | ⟨g', cap', cur, e, hB, hg, hnc, hm, hcs, ht⟩⟩ := HV.out.1
  · cases e
  cases e
  obtain ⟨i0, hi0, hz0, hzs, hzb⟩ := info_parts (by kernel_rfl : (Tryz.prog.info? 270).map (fun i => (i.zero, i.size, i.bytes)) = some (some zV, 6, 48))
  have hdl : (flatV (l.drop i)).length = (l.length - i) * 6 := by rw [flatV_len, List.length_drop]
  have hrow := ins_room cur.toList l x i cap hi (by rw [Array.length_toList]; exact hcs) hc ht
  have hov : ∀ lb cb, (callFunc 241 #[.slice (some ⟨xb, 0, none⟩) 1 1, .slice (some ⟨g, (i + 1) * 6, none⟩) lb cb]).run Tryz.prog w = .ok (.value (.bool false)) w := fun lb cb => by
    rw [run_callFunc_extern Tryz.func241 (by kernel_rfl) (by kernel_rfl) (by kernel_rfl) (e := Extern.SlicesOverlaps.overlaps #[241, 241] #[4]) (by kernel_rfl),
      Lib.run_overlaps_apart w 241 4 270 Tryz.underlying241 6 z98 ⟨xb, 0, none⟩ ⟨g, (i + 1) * 6, none⟩ 1 1 lb cb hne 270 270 6 cur.size (by simp [World.shape?, show w.heap[xb]? = some (.cells (vcells x).toArray 270 (0, 0)) from HX.out, vcells]) (by simp [World.shape?, hg]) (by omega) (HX.out.free 0) (HX.out.free 6)]
    rfl
  obtain ⟨hr1, hr2, hr3⟩ := hrow
  have hcp1 : ∀ W : World, W.heap = w.heap → ∀ ty dc sc, (Builtin.copy_ #[241, 241] ty #[.slice (some ⟨g, (i + 1) * 6, none⟩) (l.length - i) dc, .slice (some ⟨g, i * 6, none⟩) (l.length + 1 - i) sc]).run Tryz.prog W = .ok (goInt ((l.length - i : Nat) : Int)) (W.setRow g (cur.toList.take ((i + 1) * 6) ++ flatV (l.drop i) ++ cur.toList.drop ((i + 1) * 6 + (l.length - i) * 6)).toArray) := fun W hW ty dc sc => by
    have hm1 : Nat.min (l.length + 1 - i) (l.length - i) = l.length - i := Nat.min_eq_right (by omega)
    have h := run_copy_k W 241 241 ty 270 6 g ((i + 1) * 6) (l.length - i) dc ⟨g, i * 6, none⟩ (l.length + 1 - i) sc cur 270 (flatV (l.drop i)) Tryz.underlying241 (by rw [hi0]; simp [hzs]) (by rw [hW]; exact hg) (by rw [hm1]; exact hdl) (fun j u hj => by
      have hc := rd_cell HV.out.rd (i * 6 + j) u (by rw [flatV_drop, List.getElem?_drop] at hj; exact hj)
      rw [Addr.add_lit]
      simpa [World.cell?, hW] using hc) (by rw [hdl, hcs]; omega) (fun u hu => flatV_one _ u hu)
    rw [hm1, hdl] at h
    exact h
  obtain ⟨L1, hL1⟩ : ∃ L1, L1 = cur.toList.take ((i + 1) * 6) ++ flatV (l.drop i) ++ cur.toList.drop ((i + 1) * 6 + (l.length - i) * 6) := ⟨_, rfl⟩
  rw [← hL1] at hr1 hr2 hr3 hcp1
  have hcp2 : ∀ W : World, W.heap = (w.setRow g L1.toArray).heap → ∀ ty dc, (Builtin.copy_ #[241, 241] ty #[.slice (some ⟨g, i * 6, none⟩) (l.length + 1 - i) dc, .slice (some ⟨xb, 0, none⟩) 1 1]).run Tryz.prog W = .ok (goInt 1) (W.setRow g (L1.take (i * 6) ++ vcells x ++ L1.drop (i * 6 + (vcells x).length)).toArray) := fun W hW ty dc => by
    have hm1 : Nat.min 1 (l.length + 1 - i) = 1 := by simp only [Nat.min_def]; split <;> omega
    have hxx : W.heap[xb]? = some (.cells (vcells x).toArray 270 (0, 0)) := by rw [hW, setRow_other w g xb _ hne]; exact HX.out
    have h := run_copy_k W 241 241 ty 270 6 g (i * 6) (l.length + 1 - i) dc ⟨xb, 0, none⟩ 1 1 L1.toArray 270 (vcells x) Tryz.underlying241 (by rw [hi0]; simp [hzs]) (by rw [hW]; exact setRow_heap w g cur _ 270 _ hg) (by rw [hm1]; rfl) (fun j u hj => by
      rw [Addr.add_lit, Nat.zero_add]
      simpa [World.cell?, hxx] using hj) (by rw [vcells_len, List.size_toArray, hr1]; omega) (fun u hu => flatV_one [x] u (by simpa [flatV] using hu))
    rw [hm1] at h
    exact h
  have hgw := cells_lt hg
  have hgw0 : w0.heap.size ≤ g := HV.out.2.1 g rfl
  have hz2 : ((i : Int) == (l.length : Int)) = false := bne_of (by omega)
  have hz3 : ¬ (cap : Int) < (l.length : Int) + 1 := by omega
  have hz4 : (l.length : Int) + 1 ≤ (cap : Int) := by omega
  have hb3 : (i : Int) ≤ (l.length : Int) := by omega
  have hb4 : (i : Int) ≤ (cap : Int) := by omega
  have hb5 : (0 : Int) ≤ (i : Int) := by omega
  have hb9 : (i : Int) ≤ (l.length : Int) + 1 := by omega
  have hb6 : (i : Int) + 1 ≤ (cap : Int) := by omega
  have hb7 : (0 : Int) ≤ (i : Int) + 1 := by omega
  have htn : ((i : Int) + 1).toNat = i + 1 := by omega
  have hgi : ¬ (cap = i + 1) := by omega
  have hci : ¬ (cap = i) := by omega
  have hb8 : (i : Int) + 1 ≤ (l.length : Int) + 1 := by omega
  have hw8 : IntKind.i64.wrap ((i : Int) + 1) = (i : Int) + 1 := by rw [IntKind.wrap_i64]; omega
  have hcm := Lib.hid hm
  clear hL1 ht hm
  go_enter Tryz.func209, Tryz.ntmps209
  go_wp2_with (simp only [hov])
  go_region_law (refine step_copy_at rfl _ _ 241 241 rfl (.slice (some ⟨g, (i + 1) * 6, none⟩) (l.length - i) (cap - (i + 1))) (.slice (some ⟨g, i * 6, none⟩) (l.length + 1 - i) (cap - i)) (by simp [Act.eval, Act.put]) (by simp [Act.eval, Act.put]) (hcp1 w.drew rfl 3 (cap - (i + 1)) (cap - i)) ?_)
  have hcp3 : (Builtin.copy_ #[241, 241] 3 #[.slice (some ⟨g, i * 6, none⟩) (l.length + 1 - i) (cap - i), .slice (some ⟨xb, 0, none⟩) 1 1]).run Tryz.prog (w.drew.setRow g L1.toArray) = _ := hcp2 (w.drew.setRow g L1.toArray) rfl 3 (cap - i)
  have hfin : MineV w0 ((w.drew.setRow g L1.toArray).setRow g (L1.take (i * 6) ++ vcells x ++ L1.drop (i * 6 + (vcells x).length)).toArray) (.slice (some ⟨g, 0, none⟩) (l.length + 1) cap) (l.take i ++ x :: l.drop i) := by
    have hll : (l.take i ++ x :: l.drop i).length = l.length + 1 := by simp; omega
    unfold MineV
    rw [hll]
    refine ⟨⟨by rw [flatV_len, hll], .inr ⟨g, cap, _, rfl, Nat.zero_le _, setRow_heap _ _ L1.toArray _ 270 _ (setRow_heap _ _ cur _ 270 _ hg), hc, hcm.out, ?_, ?_⟩⟩, fun b hb => ?_, ?_⟩
    · rw [List.size_toArray]; exact hr2
    · exact hr3
    · have e : g = b := by simpa [Value.ownBlock] using hb
      omega
    · exact below_setRow (below_setRow (bel_drew HV.out.2.2) hgw0 _) hgw0 _
  clear hr1 hr2 hr3 hcp2 hcp1
  generalize (w.drew.setRow g L1.toArray).setRow g _ = W3 at hfin hcp3
  have HF := Lib.hid hfin
  clear hfin hg
  go_wp2_with (simp only [hcp3])
  go_ret
  exact ⟨_, rfl, HF.out⟩

/-- a version laid in its place -/
theorem insert_any {w0 w : World} (v : Value) (i : Nat) (l : List Ver) (x : Ver) (xb : Nat) (hv : MineV w0 w v l) (hx : Blk w xb (vcells x).toArray 270) (hne : v.ownBlock ≠ some xb) (hn : l.length ≤ 1048576) (hi : i ≤ l.length) :
    Calls Tryz.prog 209 #[v, .int .i64 (i : Int), .slice (some ⟨xb, 0, none⟩) 1 1] w fun e w' => ∃ v', e = .returned v' ∧ MineV w0 w' v' (l.take i ++ x :: l.drop i) := by
  have hxr : RdV w (.slice (some ⟨xb, 0, none⟩) 1 1) [x] := ⟨rfl, some ⟨xb, 0, none⟩, 1, rfl, by simp, by simp [maxLen], (fun h => by cases h), fun j u hj => ⟨xb, 0, rfl, by
    rw [Nat.zero_add, hx.cell j, ← Array.getElem?_toList]
    simpa [flatV] using hj⟩⟩
  by_cases hil : i = l.length
  · subst hil
    have := insert_end v l x xb hv hxr hn
    rw [List.take_length, List.drop_length]
    exact this
  · obtain ⟨hl, ⟨e, h0⟩ | ⟨g, cap, cur, e, hB, hg, hnc, hm, hcs, ht⟩⟩ := hv.1
    · omega
    · subst e
      by_cases hc : cap < l.length + 1
      · exact insert_grow g cap i l x xb hv hxr hn (by omega) hc
      · exact insert_room g cap i l x xb hv hx (fun e => hne (by rw [e]; rfl)) hn (by omega) (by omega)
end Go.Proofs.YtbaflgddpciadaaGreat
namespace Go.Proofs.YtbaflgddpciadaaGreat
open Go.RowKit Go.Kt Go.Ix Go.Sx
set_option maxRecDepth 100000

theorem MineV.since {w0 w1 w : World} {v : Value} {l : List Ver} (hb : Below w0.heap.size w0 w1) (h : MineV w1 w v l) : MineV w0 w v l :=
  ⟨h.1, fun b hb' => Nat.le_trans hb.size (h.2.1 b hb'), bel_trans hb h.2.2⟩
set_option maxHeartbeats 4000000 in
theorem putc_any (v : Value) (l : List Ver) (x : Ver) (w : World) (hv : RdV w v l) (hl : Chain l) (hn : l.length ≤ 1048576) (hs : x.text.size ≤ maxLen) :
    Calls Tryz.prog 185 #[v, x.val] w fun e w' => ∃ v', e = .returned (.tuple #[v', .int .i64 (putC l x).1]) ∧ ((putC l x).1 = 0 → MineV w w' v' (putC l x).2) ∧ Below w.heap.size w w' := by
  obtain ⟨a, cap, rfl, -⟩ := hv.open
  have HV := Lib.hid hv
  have HR := Lib.hid (fun W => verR_any x W hs)
  have HS := Lib.hid (fun (W : World) (hW : Below w.heap.size w W) => place_any (.slice a l.length cap) l x.at_ W (hv.below hW) hl hn)
  have hpl := place_le l x.at_
  have HP : Hid (putC l x = if ¬ verR x then (1, []) else if has l x.at_ = true then (7, []) else (0, l.take (place l x.at_) ++ x :: l.drop (place l x.at_))) := Lib.hid rfl
  generalize putC l x = r at HP ⊢
  generalize place l x.at_ = p at HS HP hpl
  generalize has l x.at_ = q at HS HP
  have HI := Lib.hid (fun (w0 W : World) (u : Value) (xb : Nat) h1 (h2 : Blk W xb #[.int .i64 x.at_.wall, .int .u32 x.at_.tick, .int .u32 x.at_.mark, .int .i64 x.kind, .int .i64 x.num, .string x.text] 270) h3 => insert_any (w0 := w0) (w := W) u p l x xb h1 h2 h3 hn hpl)
  generalize l.take p ++ x :: l.drop p = X at HI HP
  have HP2 : Hid (r = if decide (verR x) = false then (1, []) else if q = true then (7, []) else (0, X)) := Lib.hid (by rw [HP.out]; simp only [decide_eq_false_iff_not])
  generalize decide (verR x) = d at HP2 HR
  clear hv hl HP
  obtain ⟨⟨xw, xt, xm⟩, xk, xn, xx⟩ := x
  unfold Ver.val Tm.val at *
  simp only at *
  cases d with
  | false =>
    have HP3 : Hid (r = (1, [])) := Lib.hid HP2.out
    clear HP2
    go_enter Tryz.func185, Tryz.ntmps185
    go_wp2_with (first | (go_at_call 160; refine (HR.out _).mono ?_; rintro e w1 ⟨rfl, hb1⟩; have HB1 := Lib.hid (bel_trans (below_alloc w _) hb1); clear hb1) | fail)
    refine bodyPost_ret (v := .tuple #[.slice none 0 0, .int .i64 1]) (by simp [results, Tryz.results185, go_sem, *]) rfl ?_
    rw [HP3.out]
    exact ⟨_, rfl, (fun h => by cases h), HB1.out⟩
  | true =>
    cases q with
    | true =>
      have HP3 : Hid (r = (7, [])) := Lib.hid HP2.out
      clear HP2
      go_enter Tryz.func185, Tryz.ntmps185
      go_wp2_with (first
        | (go_at_call 160; refine (HR.out _).mono ?_; rintro e w1 ⟨rfl, hb1⟩; have HB1 := Lib.hid (bel_trans (below_alloc w _) hb1); have hx := (Blk.new w #[.int .i64 xw, .int .u32 xt, .int .u32 xm, .int .i64 xk, .int .i64 xn, .string xx] 270).next hb1; have x0 : w1.cell? ⟨w.heap.size, 0, none⟩ = some (.int .i64 xw) := hx.cell 0; have x1 : w1.cell? ⟨w.heap.size, 1, none⟩ = some (.int .u32 xt) := hx.cell 1; have x2 : w1.cell? ⟨w.heap.size, 2, none⟩ = some (.int .u32 xm) := hx.cell 2; clear hb1 hx)
        | (go_at_call 198; refine (HS.out _ HB1.out).mono ?_; rintro e w2 ⟨rfl, hb2⟩; have HB2 := Lib.hid (bel_trans HB1.out hb2); clear hb2)
        | fail)
      refine bodyPost_ret (v := .tuple #[.slice none 0 0, .int .i64 7]) (by simp [results, Tryz.results185, go_sem, *]) rfl ?_
      rw [HP3.out]
      exact ⟨_, rfl, (fun h => by cases h), HB2.out⟩
    | false =>
      have HP3 : Hid (r = (0, X)) := Lib.hid HP2.out
      clear HP2
      go_enter Tryz.func185, Tryz.ntmps185
      go_upto_region 6 with (first
        | (go_at_call 160; refine (HR.out _).mono ?_; rintro e w1 ⟨rfl, hb1⟩; have HB1 := Lib.hid (bel_trans (below_alloc w _) hb1); have hx := (Blk.new w #[.int .i64 xw, .int .u32 xt, .int .u32 xm, .int .i64 xk, .int .i64 xn, .string xx] 270).next hb1; have HX1 := Lib.hid hx; have x0 : w1.cell? ⟨w.heap.size, 0, none⟩ = some (.int .i64 xw) := hx.cell 0; have x1 : w1.cell? ⟨w.heap.size, 1, none⟩ = some (.int .u32 xt) := hx.cell 1; have x2 : w1.cell? ⟨w.heap.size, 2, none⟩ = some (.int .u32 xm) := hx.cell 2; clear hb1 hx)
        | (go_at_call 198; refine (HS.out _ HB1.out).mono ?_; rintro e w2 ⟨rfl, hb2⟩; have HX2 := Lib.hid (HX1.out.next hb2); have HB2 := Lib.hid (bel_trans HB1.out hb2); clear hb2)
        | fail)
      have HV2 := Lib.hid (HV.out.below HB2.out)
      have HK : Hid (∀ W, Below w2.heap.size w2 W → W.cell? ⟨w.heap.size, 0, none⟩ = some (.int .i64 xw) ∧ W.cell? ⟨w.heap.size, 1, none⟩ = some (.int .u32 xt) ∧ W.cell? ⟨w.heap.size, 2, none⟩ = some (.int .u32 xm) ∧ W.cell? ⟨w.heap.size, 3, none⟩ = some (.int .i64 xk) ∧ W.cell? ⟨w.heap.size, 4, none⟩ = some (.int .i64 xn) ∧ W.cell? ⟨w.heap.size, 5, none⟩ = some (.string xx)) := Lib.hid (fun W hW => ⟨(HX2.out.next hW).cell 0, (HX2.out.next hW).cell 1, (HX2.out.next hW).cell 2, (HX2.out.next hW).cell 3, (HX2.out.next hW).cell 4, (HX2.out.next hW).cell 5⟩)
      have hx2 := bel_refl w2
      obtain ⟨k0, k1, k2, k3, k4, k5⟩ := HK.out _ hx2
      clear x0 x1 x2
      go_region_law
        (first
          | (go_simp; go_at_call 210; refine (clonev_any (.slice a l.length cap) l _ (HV2.out.below (by repeat (first | assumption | exact bel_refl _ | apply bel_alloc | apply bel_drew))) hn).mono ?_; rintro e w6 ⟨v6, rfl, hm6⟩; have hx6 : Below w2.heap.size w2 w6 := bel_trans (by repeat (first | assumption | exact bel_refl _ | apply bel_alloc | apply bel_drew)) hm6.bel; obtain ⟨q0, q1, q2, q3, q4, q5⟩ := HK.out _ hx6; have HM6 := Lib.hid hm6; clear hm6)
          | (go_simp; go_at_call 209; refine (HI.out _ _ v6 _ (HM6.out.below (by repeat (first | exact bel_refl _ | apply bel_alloc | apply bel_drew))) (by first | exact Blk.new _ _ _ | exact Blk.next (w := World.drew (World.alloc w2 _)) (Blk.new w2 _ _) HM6.out.bel | exact Blk.next (w := World.alloc (World.drew w2) _) (Blk.new (World.drew w2) _ _) HM6.out.bel | exact Blk.next (w := World.alloc w2 _) (Blk.new w2 _ _) HM6.out.bel) (by first | exact (fun e => absurd (HM6.out.1.lt _ e) (Nat.lt_irrefl _)) | (intro e; have := HM6.out.2.1 _ e; simp only [World.size_alloc, World.size_drew] at this; omega))).mono ?_; rintro e w8 ⟨v8, rfl, hm8⟩; have HM8 := Lib.hid hm8; clear hm8))
      all_goals
        have HM9 : Hid (MineV w w8 v8 X) := Lib.hid (MineV.since (by repeat (first | exact HB2.out | apply bel_alloc | apply bel_drew)) HM8.out)
        clear HM8 HM6 q0 q1 q2 q3 q4 q5 k0 k1 k2 k3 k4 k5 HI HK HS HR
        go_wp2_with fail
        refine bodyPost_ret (v := .tuple #[v8, .int .i64 0]) (by simp [results, Tryz.results185, go_sem]) rfl ?_
        rw [HP3.out]
        exact ⟨_, rfl, (fun _ => HM9.out), HM9.out.2.2⟩
end Go.Proofs.YtbaflgddpciadaaGreat
namespace Go.Proofs.YtbaflgddpciadaaGreat
open Go.RowKit Go.Kt Go.Ix Go.Sx
set_option maxRecDepth 100000

/-- nothing that lay has turned, and nothing was given back of what was drawn -/
structure Gr (w w' : World) : Prop where
  b : Below w.heap.size w w'
  d : w.drawn ≤ w'.drawn
theorem Gr.refl (w : World) : Gr w w := ⟨bel_refl w, Nat.le_refl _⟩
theorem Gr.trans {a b c : World} (h : Gr a b) (k : Gr b c) : Gr a c := ⟨bel_trans h.b k.b, Nat.le_trans h.d k.d⟩
theorem Gr.alloc {a b : World} (h : Gr a b) (o : Obj) : Gr a (b.alloc o) := ⟨bel_alloc h.b, h.d⟩
theorem Gr.drew {a b : World} (h : Gr a b) : Gr a b.drew := ⟨bel_drew h.b, Nat.le_succ_of_le h.d⟩
theorem Gr.set {a b : World} (h : Gr a b) {p : Addr} (hp : a.heap.size ≤ p.block) (u : Value) : Gr a (b.setCell p u) := ⟨bel_set h.b hp, h.d⟩
/-- it is the world after some draws, with some blocks behind it -/
theorem Gr.grow {w w' : World} (h : Gr w w') : ∃ q os, w' = Go.Sort.grow (w.drewN q) os := by
  refine ⟨w'.drawn - w.drawn, w'.heap.extract w.heap.size w'.heap.size, ?_⟩
  obtain ⟨hb, hd⟩ := h
  have hh : w'.heap = w.heap ++ w'.heap.extract w.heap.size w'.heap.size := by
    apply Array.ext_getElem?
    intro i
    by_cases hi : i < w.heap.size
    · rw [Array.getElem?_append_left hi]
      exact hb.block i hi
    · rw [Array.getElem?_append_right (by omega)]
      have hs := hb.size
      rw [Array.getElem?_extract]
      simp only [Nat.min_self]
      by_cases h2 : i < w'.heap.size
      · rw [if_pos (by omega), show w.heap.size + (i - w.heap.size) = i by omega]
      · rw [if_neg (by omega)]
        simp; omega
  cases w' with
  | mk heap tape drawn os output =>
    cases w with
    | mk heap0 tape0 drawn0 os0 output0 =>
      have h1 := hb.os
      have h2 := hb.tape
      have h3 := hb.output
      simp only at h1 h2 h3 hh hd
      subst h1 h2 h3
      simp only [Go.Sort.grow, World.drewN]
      rw [← hh, show drawn0 + (drawn - drawn0) = drawn by omega]

def cmpB (a b : ByteArray) : Int := if a = b then 0 else if Op.bytesLess a.toList b.toList = true then -1 else 1
theorem compareBytes_eq : ∀ (a b : List UInt8), Lib.compareBytes a b = if a = b then 0 else if Op.bytesLess a b = true then -1 else 1
  | [], [] => rfl
  | [], _ :: _ => by simp [Lib.compareBytes, Op.bytesLess]
  | _ :: _, [] => by simp [Lib.compareBytes, Op.bytesLess]
  | a :: xs, b :: ys => by
    rw [Lib.compareBytes, compareBytes_eq xs ys]
    by_cases h1 : a < b
    · have h2 : a ≠ b := fun e => by rw [e] at h1; exact absurd h1 (UInt8.lt_irrefl b)
      simp [Op.bytesLess, h1, h2]
    · by_cases h2 : b < a
      · have h3 : a ≠ b := fun e => by rw [e] at h2; exact absurd h2 (UInt8.lt_irrefl b)
        simp [Op.bytesLess, h1, h2, h3]
      · have h3 : a = b := by
          have := UInt8.lt_or_eq_of_le (UInt8.not_lt.1 h1)
          rcases this with h | h
          · exact absurd h h2
          · exact h.symm
        subst h3
        simp [Op.bytesLess]
theorem cmpB_eq (a b : ByteArray) : Lib.compareBytes a.data.toList b.data.toList = cmpB a b := by
  rw [compareBytes_eq]
  unfold cmpB
  rw [ByteArray.toList_eq, ByteArray.toList_eq]
  by_cases h : a = b
  · subst h; simp
  · have h2 : ¬ a.data.toList = b.data.toList := fun e => h (bl_inj e)
    rw [if_neg h, if_neg h2]
theorem scompare_any (a b : ByteArray) (w : World) : Calls Tryz.prog 163 #[.string a, .string b] w fun e w' => e = .returned (.int .i64 (cmpB a b)) ∧ w = w' := by
  rw [← cmpB_eq]
  have h1 : ∀ w, Calls Tryz.prog 201 #[.string a, .string b] w fun e w' => e = .returned (.int .i64 (Lib.compareBytes a.data.toList b.data.toList)) ∧ w = w' := fun w => by
    go_enter Tryz.func201, Tryz.ntmps201
    go_wp2
    rw [run_callFunc_extern Tryz.func223 (by kernel_rfl) (by kernel_rfl) (by kernel_rfl) (e := Extern.BytealgCompare.compare) (by kernel_rfl), Lib.run_compareString]
    simp only [Result.andThen]
    rw [Oper.upon_value]
    go_wp2
    go_ret
    exact ⟨rfl, rfl⟩
  go_enter Tryz.func163, Tryz.ntmps163
  go_wp2_with (go_at_call 201; refine (h1 _).mono ?_; rintro e w' ⟨rfl, rfl⟩)
  go_ret
  exact ⟨rfl, rfl⟩
def cmpP (p q : Pr) : Int := if cmpB p.n q.n = 0 then cmpB p.v q.v else cmpB p.n q.n
theorem cmpp_any (p q : Pr) (w : World) : Calls Tryz.prog 162 #[.agg #[.string p.n, .string p.v], .agg #[.string q.n, .string q.v]] w fun e w' => e = .returned (.int .i64 (cmpP p q)) ∧ Gr w w' := by
  unfold cmpP
  generalize h1 : cmpB p.n q.n = c
  generalize h2 : cmpB p.v q.v = d
  have H1 := Lib.hid (fun W => h1 ▸ scompare_any p.n q.n W)
  have H2 := Lib.hid (fun W => h2 ▸ scompare_any p.v q.v W)
  clear h1 h2
  by_cases hc : c = 0
  · rw [if_pos hc]
    subst hc
    go_enter Tryz.func162, Tryz.ntmps162
    go_wp2_with (go_at_call 163; first | (refine (H1.out _).mono ?_; rintro e w' ⟨rfl, rfl⟩) | (refine (H2.out _).mono ?_; rintro e w' ⟨rfl, rfl⟩))
    go_ret
    exact ⟨rfl, ((Gr.refl w).alloc _).alloc _⟩
  · rw [if_neg hc]
    have e0 : (c == 0) = false := bne_of hc
    clear hc
    go_enter Tryz.func162, Tryz.ntmps162
    go_wp2_with (go_at_call 163; refine (H1.out _).mono ?_; rintro e w' ⟨rfl, rfl⟩)
    go_ret
    exact ⟨rfl, ((Gr.refl w).alloc _).alloc _⟩
theorem cmpB_zero {a b : ByteArray} : cmpB a b = 0 ↔ a = b := by
  unfold cmpB
  constructor
  · intro h
    by_cases e : a = b
    · exact e
    · rw [if_neg e] at h; split at h <;> omega
  · rintro rfl; rw [if_pos rfl]
theorem cmpS_p (p q : Pr) (a b : List Pr) : cmpS (p :: a) (q :: b) = if cmpP p q = 0 then cmpS a b else cmpP p q := by
  rw [cmpS_cons]
  unfold cmpP
  by_cases h1 : p.n = q.n
  · rw [if_neg (by simpa using h1), if_pos (cmpB_zero.2 h1)]
    by_cases h2 : p.v = q.v
    · rw [if_neg (by simpa using h2), if_pos (cmpB_zero.2 h2)]
    · rw [if_pos h2, if_neg (fun e => h2 (cmpB_zero.1 e))]
      unfold cmpB
      rw [if_neg h2]
  · rw [if_pos h1, if_neg (fun e => h1 (cmpB_zero.1 e)), if_neg (fun e => h1 (cmpB_zero.1 e))]
    unfold cmpB
    rw [if_neg h1]
set_option maxHeartbeats 4000000 in
theorem cmpf_any (v u : Value) (l m : List Pr) (w : World) (hv : RdP w v l) (hu : RdP w u m) (hl : l.length ≤ 1048576) (hm : m.length ≤ 1048576) :
    Calls Tryz.prog 161 #[v, u, .func (.func 162) #[] #[]] w fun e w' => e = .returned (.int .i64 (cmpS l m)) ∧ Gr w w' := by
  obtain ⟨a, cap, rfl, hcap, hbig, hcell⟩ := hv.open
  obtain ⟨b, cup, rfl, hcup, hbug, hcull⟩ := hu.open
  have Hcell := Lib.hid hcell
  have Hcull := Lib.hid hcull
  clear hcell hcull hv hu
  obtain ⟨r, hr⟩ : ∃ r, cmpS l m = r := ⟨_, rfl⟩
  have HS0 : Hid (r = cmpS (l.drop 0) (m.drop 0)) := Lib.hid hr.symm
  rw [hr]
  clear hr
  go_enter Tryz.func161, Tryz.ntmps161
  go_wp2_with fail
  go_loopw [7, 8, 9, 10, 13] (fun _ _ _ _ i wr => ∃ k : Nat, k ≤ l.length ∧ k ≤ m.length ∧ i = .int .i64 k ∧ Hid (r = cmpS (l.drop k) (m.drop k)) ∧ Hid (Gr w wr)) (fun _ _ _ _ i _ => l.length - (intOf i).toNat)
  case atStart => exact ⟨0, by omega, by omega, rfl, HS0, Lib.hid (Gr.refl w)⟩
  case round =>
    clear HS0
    obtain ⟨k, hk, hkm, rfl, HS, HB⟩ := hrel
    by_cases hlt : k < l.length
    · obtain ⟨p, hp⟩ : ∃ x, l[k]? = some x := ⟨l[k], List.getElem?_eq_getElem hlt⟩
      obtain ⟨ab, ao, rfl, c1, c2⟩ := Hcell.out k p hp
      have lb := World.block_lt_of_cell? w _ c1
      have c1' : wr.cell? ⟨ab, ao + k * 2, none⟩ = some (.string p.n) := (HB.out.b.cell (p := ⟨ab, ao + k * 2, none⟩) lb).trans c1
      have c2' : wr.cell? ⟨ab, ao + k * 2 + 1, none⟩ = some (.string p.v) := (HB.out.b.cell (p := ⟨ab, ao + k * 2 + 1, none⟩) lb).trans c2
      have hbb : ab < wr.heap.size := Nat.lt_of_lt_of_le lb HB.out.b.size
      have HD : Hid (l.drop k = p :: l.drop (k + 1)) := Lib.hid (by
        obtain ⟨hk', e⟩ := List.getElem?_eq_some_iff.1 hp
        rw [List.drop_eq_getElem_cons hk', e])
      have hk1 : (0 : Int) ≤ (k : Int) := by omega
      have hk2 : (k : Int) < (l.length : Int) := by omega
      clear c1 c2 hp lb
      by_cases hmk : k < m.length
      · obtain ⟨q, hq⟩ : ∃ x, m[k]? = some x := ⟨m[k], List.getElem?_eq_getElem hmk⟩
        obtain ⟨bb, bo, rfl, d1, d2⟩ := Hcull.out k q hq
        have lb := World.block_lt_of_cell? w _ d1
        have d1' : wr.cell? ⟨bb, bo + k * 2, none⟩ = some (.string q.n) := (HB.out.b.cell (p := ⟨bb, bo + k * 2, none⟩) lb).trans d1
        have d2' : wr.cell? ⟨bb, bo + k * 2 + 1, none⟩ = some (.string q.v) := (HB.out.b.cell (p := ⟨bb, bo + k * 2 + 1, none⟩) lb).trans d2
        have hbc : bb < wr.heap.size := Nat.lt_of_lt_of_le lb HB.out.b.size
        have hk3 : (k : Int) < (m.length : Int) := by omega
        have HS1 : Hid (r = if cmpP p q = 0 then cmpS (l.drop (k + 1)) (m.drop (k + 1)) else cmpP p q) := Lib.hid (by
          obtain ⟨hk', e⟩ := List.getElem?_eq_some_iff.1 hq
          rw [HS.out, HD.out, List.drop_eq_getElem_cons hk', e, cmpS_p])
        have HC := Lib.hid (fun W => cmpp_any p q W)
        clear d1 d2 hq lb HS HD
        generalize cmpP p q = c at HS1 HC
        by_cases hc : c = 0
        · subst hc
          have HS2 : Hid (r = cmpS (l.drop (k + 1)) (m.drop (k + 1))) := Lib.hid (by rw [HS1.out, if_pos rfl])
          clear HS1
          go_wp2_with (first | (go_at_call 162; refine (HC.out _).mono ?_; rintro e w7 ⟨rfl, hg7⟩; have HG7 := Lib.hid hg7; clear hg7) | fail)
          go_roundw
          case rel => exact ⟨k + 1, by omega, by omega, by go_num, HS2, Lib.hid (Gr.trans (by repeat (first | exact HB.out | apply Gr.alloc | refine Gr.set ?_ (by simp only [World.size_alloc, World.size_setCell]; have := HB.out.b.size; omega) _)) HG7.out)⟩
          case measure => simp [intOf]; omega
        · have HS2 : Hid (r = c) := Lib.hid (by rw [HS1.out, if_neg hc])
          have hc0 : (c == 0) = false := bne_of hc
          clear HS1 hc
          go_wp2_with (first | (go_at_call 162; refine (HC.out _).mono ?_; rintro e w7 ⟨rfl, hg7⟩; have HG7 := Lib.hid hg7; clear hg7) | fail)
          go_ret
          exact ⟨ret_int HS2.out.symm, Gr.trans (by repeat (first | exact HB.out | apply Gr.alloc | refine Gr.set ?_ (by simp only [World.size_alloc, World.size_setCell]; have := HB.out.b.size; omega) _)) HG7.out⟩
      · have HS2 : Hid (r = 1) := Lib.hid (by rw [HS.out, HD.out, List.drop_of_length_le (l := m) (by omega)]; rfl)
        clear HS HD
        go_wp2_with fail
        go_ret
        exact ⟨ret_int HS2.out.symm, by repeat (first | exact HB.out | apply Gr.alloc | refine Gr.set ?_ (by simp only [World.size_alloc, World.size_setCell]; have := HB.out.b.size; omega) _)⟩
    · obtain rfl : k = l.length := by omega
      by_cases hmk : l.length < m.length
      · have HS2 : Hid (r = -1) := Lib.hid (by
          rw [HS.out, List.drop_length, List.drop_eq_getElem_cons hmk]; rfl)
        go_wp2_with fail
        go_ret
        exact ⟨ret_int HS2.out.symm, HB.out⟩
      · have HS2 : Hid (r = 0) := Lib.hid (by
          rw [HS.out, List.drop_length, List.drop_of_length_le (l := m) (by omega)]; rfl)
        go_wp2_with fail
        go_ret
        exact ⟨ret_int HS2.out.symm, HB.out⟩
theorem lcompare_any (v u : Value) (l m : List Pr) (w : World) (hv : RdP w v l) (hu : RdP w u m) (hl : l.length ≤ 1048576) (hm : m.length ≤ 1048576) :
    Calls Tryz.prog 86 #[v, u] w fun e w' => e = .returned (.int .i64 (cmpS l m)) ∧ Gr w w' := by
  obtain ⟨a, cap, rfl, -⟩ := hv.open
  obtain ⟨b, cup, rfl, -⟩ := hu.open
  have HC := Lib.hid (cmpf_any _ _ l m w hv hu hl hm)
  clear hv hu
  generalize cmpS l m = c at HC ⊢
  go_enter Tryz.func86, Tryz.ntmps86
  go_wp2_with (go_at_call 161; refine HC.out.mono ?_; rintro e w' ⟨rfl, hg⟩)
  go_ret
  exact ⟨rfl, hg⟩
end Go.Proofs.YtbaflgddpciadaaGreat
