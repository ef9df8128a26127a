/- Chains: slices.Insert (68) of one version into a row of the call's own. -/
import Derived.Test.YtplieoalfbpniaaGreatS5
import Derived.Lib.AppendZerosOnto
import Derived.Lib.Overlaps
import Derived.Laws.CopyRow
import Derived.Laws.CopyOwn
namespace Go.Proofs.YtplieoalfbpniaaGreat
open Go.RowKit Go.Kt Go.Ix Go.Sx
set_option maxRecDepth 100000

/-- 'copy(d, s)' of elements of k cells into a row that is known whole -/
theorem run_copy_k {P : Program} (w : World) (dT sT ty elem : TypeId) (k g o dLen dCap : Nat) (a : Addr) (sLen sCap : Nat) (cur : Array Value) (t : TypeId) (cs : List Value)
    (hu : P.underlying dT = some (.slice elem)) (hs : (P.info? elem).map (·.size) = some k)
    (hg : w.heap[g]? = some (.cells cur t (0, 0))) (hn : cs.length = Nat.min sLen dLen * k)
    (hsrc : ∀ j v, cs[j]? = some v → w.cell? (a.add j) = some v) (hfit : o + cs.length ≤ cur.size) (h1 : ∀ v ∈ cs, v.oneCell' = true) :
    (Builtin.copy_ #[dT, sT] ty #[.slice (some ⟨g, o, none⟩) dLen dCap, .slice (some a) sLen sCap]).run P w =
      .ok (goInt (Nat.min sLen dLen)) (w.setRow g (cur.toList.take o ++ cs ++ cur.toList.drop (o + cs.length)).toArray) := by
  have hl := run_loadCells_list (P := P) w a cs hsrc
  have hst := run_storeCells_at P g o t cs 0 cur w hg (by simpa using hfit) h1
  cases hq : P.info? elem with
  | none => simp [hq] at hs
  | some i =>
    have hi : i.size = k := by simpa [hq] using hs
    simp [Builtin.copy_, run_underlying hu, Builtin.lenOf, Builtin.firstCells, sizeOf, typeInfo, hq, hi, ← hn, hl, hst]
theorem wp_copy_at {P : Program} (w : World) {o : Oper} {a : Act} {K : Act → World → Prop} {Q : Exit → Act → World → Prop} (d s : Operand) (t t' : TypeId)
    (ho : o.op = .call { callee := .builtin .copy, args := #[d, s], argTypes := #[t, t'] }) (v u : Value) (hd : a.eval d = v) (hs : a.eval s = u) {v' : Value} {w' : World}
    (hr : (Builtin.copy_ #[t, t'] o.type #[v, u]).run P w = .ok v' w') (h : K (a.put o.dst v') w') : o.wp P a w K Q := by
  unfold Oper.wp execOp
  simp only [ho, resolve, invoke, builtin, Sem.run_bind, Sem.run_pure, Result.andThen_ok, List.map_toArray, List.map_cons, List.map_nil, hd, hs, hr]
  exact h
theorem wpList_copy_at {P : Program} (w : World) {ops : Array Oper} {rest : List Oper} {o : Oper} {a : Act} {Q : Exit → Act → World → Prop} (hgd : o.guard = none) (d s : Operand) (t t' : TypeId)
    (ho : o.op = .call { callee := .builtin .copy, args := #[d, s], argTypes := #[t, t'] }) (v u : Value) (hd : a.eval d = v) (hs : a.eval s = u) {v' : Value} {w' : World}
    (hr : (Builtin.copy_ #[t, t'] o.type #[v, u]).run P w = .ok v' w') (h : wpList P ops Q rest (a.put o.dst v') w') : wpList P ops Q (o :: rest) a w :=
  wpList_plain hgd fun _ hK => wp_copy_at w d s t t' ho v u hd hs hr (hK _ _ h)
theorem step_copy_at {P : Program} {ops : Array Oper} {o : Oper} {a : Act} {w : World} {K : Act → World → Prop} {Q : Exit → Act → World → Prop} {E : Prop}
    (hg : o.guard = none) (d x : Operand) (dT sT : TypeId) (hop : o.op = Op.call { callee := Callee.builtin Builtin.copy, args := #[d, x], argTypes := #[dT, sT] })
    (v u : Value) (hd : a.eval d = v) (hx : a.eval x = u) {v' : Value} {w' : World} (hr : (Builtin.copy_ #[dT, sT] o.type #[v, u]).run P w = .ok v' w') (hK : K (a.put o.dst v') w') :
    if Region.wanted o (yielded ops a.tmps) = true then Oper.wp P o a w K Q else E := by
  have hw : Region.wanted o (yielded ops a.tmps) = true := by simp [Region.wanted, hg]
  rw [if_pos hw]
  exact wp_copy_at w d x dT sT hop v u hd hx hr hK
theorem cells_lt {w : World} {g : Nat} {cur : Array Value} {e : TypeId} (h : w.heap[g]? = some (.cells cur e (0, 0))) : g < w.heap.size := (Array.getElem?_eq_some_iff.1 h).1

set_option maxHeartbeats 4000000 in
theorem insert_end {w0 w : World} (v : Value) (l : List Ver) (x : Ver) (xb : Nat) (hv : MineV w0 w v l) (hx : RdV w (.slice (some ⟨xb, 0, none⟩) 1 1) [x]) (hn : l.length ≤ 1048576) :
    Calls Tryz.prog 68 #[v, .int .i64 (l.length : Int), .slice (some ⟨xb, 0, none⟩) 1 1] w fun e w' => ∃ v', e = .returned v' ∧ MineV w0 w' v' (l ++ [x]) := by
  obtain ⟨_, a, cap, rfl, -⟩ := hv.rd
  have HV := Lib.hid hv
  have HX := Lib.hid hx
  clear hv hx
  go_enter Tryz.func68, Tryz.ntmps68
  go_wp2_with (with_reducible refine hold_slice ?_)
  unfold Hold
  refine wpList_cut_lo (kl := .i64) ok96 l.length (by rfl) (by rfl) (by simp) HV.out.rd (by omega) ?_
  intro v8 hv8
  clear hv8
  go_wp2_with (at_builtin; apply Hold.mk)
  unfold Hold
  refine mine_app rfl _ _ 96 rfl ok96 (by rfl) (by rfl) HV.out (bel_refl _) HX.out (by exact flatV_one [x]) (by simp only [maxLen, List.length_singleton]; omega) (by simp only [List.length_singleton]; omega) ?_
  intro v7 w7 hm7 hg7
  have HM7 : Hid (MineV w0 w7 v7 (l ++ [x])) := Lib.hid (by unfold MineV; rw [flatV_append, List.length_append]; exact hm7)
  clear hm7 hg7
  go_wp2_with fail
  go_ret
  exact ⟨_, rfl, HM7.out⟩

theorem flatV_cons (x : Ver) (l : List Ver) : flatV (x :: l) = vcells x ++ flatV l := rfl
theorem vcells_len (x : Ver) : (vcells x).length = 6 := rfl
theorem rd_cell {w : World} {b n c : Nat} {l : List Ver} (h : RdV w (.slice (some ⟨b, 0, none⟩) n c) l) : ∀ j u, (flatV l)[j]? = some u → w.cell? ⟨b, j, none⟩ = some u := by
  obtain ⟨_, a, c', e, _, _, _, h5⟩ := h
  intro j u hj
  obtain ⟨b', o, e', hc⟩ := h5 j u hj
  injection e with e _ _
  rw [← e] at e'
  injection e' with e'
  injection e' with e1 e2 _
  rw [← e1, ← e2, Nat.zero_add] at hc
  exact hc
def zV : Value := .agg #[.int .i64 0, .int .u32 0, .int .u32 0, .int .i64 0, .int .i64 0, .string ⟨#[]⟩]
theorem zcells_len (n : Nat) : (Builtin.zeroCells zV.cells n).size = n * 6 := by
  unfold Builtin.zeroCells
  simp [zV, Value.cells]
/-- behind both copies the row holds the longer chain -/
theorem ins_row (R : List Value) (l : List Ver) (x : Ver) (i G : Nat) (hi : i < l.length) (hR : R.length = G * 6) (hG : l.length + 1 ≤ G) (ht : R.take (i * 6) = flatV (l.take i)) :
    let R1 := R.take (i * 6) ++ vcells x ++ R.drop (i * 6 + (vcells x).length)
    let R2 := R1.take ((i + 1) * 6) ++ flatV (l.drop i) ++ R1.drop ((i + 1) * 6 + (flatV (l.drop i)).length)
    R1.length = G * 6 ∧ R2.length = G * 6 ∧ R2.take ((l.length + 1) * 6) = flatV (l.take i ++ x :: l.drop i) := by
  have e1 : (flatV (l.take i)).length = i * 6 := by rw [flatV_len, List.length_take]; omega
  have e2 : (flatV (l.drop i)).length = (l.length - i) * 6 := by rw [flatV_len, List.length_drop]
  intro R1 R2
  have hR1 : R1 = (flatV (l.take i) ++ vcells x) ++ R.drop (i * 6 + 6) := by show R.take (i * 6) ++ vcells x ++ R.drop (i * 6 + 6) = _; rw [ht]
  have h6 : (flatV (l.take i) ++ vcells x).length = (i + 1) * 6 := by rw [List.length_append, e1, vcells_len]; omega
  have l1 : R1.length = G * 6 := by rw [hR1, List.length_append, h6, List.length_drop, hR]; omega
  have hR2 : R2 = (flatV (l.take i) ++ vcells x ++ flatV (l.drop i)) ++ R1.drop ((i + 1) * 6 + (flatV (l.drop i)).length) := by
    show R1.take ((i + 1) * 6) ++ _ ++ _ = _
    congr 2
    rw [hR1, List.take_append, List.take_of_length_le (by omega), h6, Nat.sub_self, List.take_zero, List.append_nil]
  have h7 : (flatV (l.take i) ++ vcells x ++ flatV (l.drop i)).length = (l.length + 1) * 6 := by rw [List.length_append, h6, e2]; omega
  refine ⟨l1, ?_, ?_⟩
  · rw [hR2, List.length_append, h7, List.length_drop, l1, e2]; omega
  · rw [hR2, List.take_append, List.take_of_length_le (by omega), h7, Nat.sub_self, List.take_zero, List.append_nil, flatV_append, flatV_cons, List.append_assoc]
set_option maxHeartbeats 4000000 in
theorem insert_grow {w0 w : World} (g cap i : Nat) (l : List Ver) (x : Ver) (xb : Nat) (hv : MineV w0 w (.slice (some ⟨g, 0, none⟩) l.length cap) l) (hx : RdV w (.slice (some ⟨xb, 0, none⟩) 1 1) [x]) (hn : l.length ≤ 1048576) (hi : i < l.length) (hc : cap < l.length + 1) :
    Calls Tryz.prog 68 #[.slice (some ⟨g, 0, none⟩) l.length cap, .int .i64 (i : Int), .slice (some ⟨xb, 0, none⟩) 1 1] w fun e w' => ∃ v', e = .returned v' ∧ MineV w0 w' v' (l.take i ++ x :: l.drop i) := by
  have HV := Lib.hid hv
  have HX := Lib.hid hx
  obtain ⟨_, _, cap', e, hcap, -⟩ := hv.rd
  cases e
  have hz2 : ((i : Int) == (l.length : Int)) = false := bne_of (by omega)
  have hz3 : (cap : Int) < (l.length : Int) + 1 := by omega
  have hb3 : (i : Int) ≤ (l.length : Int) := by omega
  have hb4 : (i : Int) ≤ (cap : Int) := by omega
  have hb5 : (0 : Int) ≤ (i : Int) := by omega
  clear hv hx
  go_enter Tryz.func68, Tryz.ntmps68
  obtain ⟨_, ⟨e, _⟩ | ⟨g', cap', cur, e, hB, hg, hnc, hm, hcs, ht⟩⟩ := HV.out.1
  · cases e
  cases e
  obtain ⟨i0, hi0, hz0, hzs, hzb⟩ := info_parts (by kernel_rfl : (Tryz.prog.info? 98).map (fun i => (i.zero, i.size, i.bytes)) = some (some zV, 6, 48))
  have hcl : (flatV (l.take i)).length = i * 6 := by rw [flatV_len, List.length_take]; omega
  have hold : (Builtin.firstCells i0.size i (.slice (some ⟨g, 0, none⟩) i cap)).run Tryz.prog w.drew = .ok (flatV (l.take i)).toArray w.drew := by
    rw [hzs]
    exact run_firstCells_some w.drew 6 i ⟨g, 0, none⟩ i cap (flatV (l.take i)) hcl (fun j u hj => by
      rw [Addr.add_lit, Nat.zero_add]
      rw [flatV_take, List.getElem?_take] at hj
      split at hj
      · exact rd_cell HV.out.rd j u hj
      · cases hj)
  have hrz : ∀ ty, (Builtin.append_ #[96, 3] ty #[.slice (some ⟨g, 0, none⟩) i cap, .int .i64 ((l.length : Int) + 1 - (i : Int))]).run Tryz.prog w =
      .ok (.slice (some ⟨w.heap.size, 0, none⟩) (l.length + 1) (grownCap w (l.length + 1) cap 98)) (w.drew.alloc (.cells ((flatV (l.take i)).toArray ++ Builtin.zeroCells zV.cells (l.length + 1 - i) ++ Builtin.zeroCells zV.cells (grownCap w (l.length + 1) cap 98 - (l.length + 1))) 98)) := fun ty => by
    have h := Lib.run_append_grow_zeros w 96 3 ty 98 i0 zV .i64 .i64 Tryz.underlying96 Tryz.underlying3 hi0 hz0 (some ⟨g, 0, none⟩) i cap (flatV (l.take i)) hold (l.length + 1 - i) (by omega) (by omega) (by omega) (by omega) (by rw [hzb]; omega) (by rw [hzb, show i + (l.length + 1 - i) = l.length + 1 by omega]; exact growslice_fits hc (by omega))
    rw [show i + (l.length + 1 - i) = l.length + 1 by omega] at h
    rw [show (l.length : Int) + 1 - (i : Int) = ((l.length + 1 - i : Nat) : Int) by omega]
    exact h
  have hGn : l.length + 1 ≤ grownCap w (l.length + 1) cap 98 := grownCap_ge w _ _ _
  have hG63 := grownCap_le_maxLen w (l.length + 1) cap 98 (by unfold maxLen; omega)
  generalize grownCap w (l.length + 1) cap 98 = G at hrz hGn hG63
  obtain ⟨ROW, hROW⟩ : ∃ ROW : Array Value, ROW = (flatV (l.take i)).toArray ++ Builtin.zeroCells zV.cells (l.length + 1 - i) ++ Builtin.zeroCells zV.cells (G - (l.length + 1)) := ⟨_, rfl⟩
  rw [← hROW] at hrz
  have hRl : ROW.size = G * 6 := by
    rw [hROW, Array.size_append, Array.size_append, zcells_len, zcells_len, List.size_toArray, hcl]
    omega
  have hRt : ROW.toList.take (i * 6) = flatV (l.take i) := by
    rw [hROW, Array.toList_append, Array.toList_append, List.append_assoc, List.take_append, List.take_of_length_le (by simp [hcl]), show i * 6 - (flatV (l.take i)).toArray.toList.length = 0 by simp [hcl], List.take_zero, List.append_nil]
  have hrow := ins_row ROW.toList l x i G hi (by rw [Array.length_toList]; exact hRl) hGn hRt
  have hgw := cells_lt hg
  obtain ⟨W1, hW1⟩ : ∃ W1, W1 = w.drew.alloc (.cells ROW 98) := ⟨_, rfl⟩
  have hN : W1.heap[w.heap.size]? = some (.cells ROW 98 (0, 0)) := by rw [hW1]; exact heap_alloc_new w.drew _
  rw [← hW1] at hrz
  have hbW : Below w.heap.size w W1 := by rw [hW1]; exact bel_alloc (bel_drew (bel_refl w))
  have hxW : RdV W1 (.slice (some ⟨xb, 0, none⟩) 1 1) [x] := HX.out.below hbW
  have hcp1 : ∀ W : World, W.heap = W1.heap → ∀ ty dc, (Builtin.copy_ #[96, 96] ty #[.slice (some ⟨w.heap.size, i * 6, none⟩) (l.length + 1 - i) dc, .slice (some ⟨xb, 0, none⟩) 1 1]).run Tryz.prog W = .ok (goInt 1) (W.setRow w.heap.size (ROW.toList.take (i * 6) ++ vcells x ++ ROW.toList.drop (i * 6 + (vcells x).length)).toArray) := fun W hW ty dc => by
    have hm1 : Nat.min 1 (l.length + 1 - i) = 1 := by simp only [Nat.min_def]; split <;> omega
    have h := run_copy_k W 96 96 ty 98 6 w.heap.size (i * 6) (l.length + 1 - i) dc ⟨xb, 0, none⟩ 1 1 ROW 98 (vcells x) Tryz.underlying96 (by rw [hi0]; simp [hzs]) (by rw [hW]; exact hN) (by rw [hm1]; rfl) (fun j u hj => by
      have hc := rd_cell hxW j u (by simpa [flatV] using hj)
      rw [Addr.add_lit, Nat.zero_add]
      simpa [World.cell?, hW] using hc) (by rw [vcells_len]; omega) (fun u hu => flatV_one [x] u (by simpa [flatV] using hu))
    rw [hm1] at h
    exact h
  clear hold hROW hm hcs ht hRt
  go_wp2_with (first
    | (at_builtin; refine Lib.wpList_append_run _ rfl _ _ _ _ rfl _ _ rfl rfl _ _ (hrz _) ?_)
    | (at_builtin; refine wpList_copy_at _ rfl _ _ 96 96 rfl _ _ rfl rfl (hcp1 _ rfl _ _) ?_)
    | (at_builtin; apply Hold.mk))
  obtain ⟨L1, hL1⟩ : ∃ L1, L1 = List.take (i * 6) ROW.toList ++ vcells x ++ List.drop (i * 6 + (vcells x).length) ROW.toList := ⟨_, rfl⟩
  rw [← hL1] at hrow
  simp only [← List.append_assoc]
  rw [← hL1]
  obtain ⟨W2, hW2⟩ : ∃ W2, W2 = ((w.alloc (.cells ROW 98)).drew.setRow w.heap.size L1.toArray) := ⟨_, rfl⟩
  rw [← hW2]
  obtain ⟨hr1, hr2, hr3⟩ := hrow
  have hN2 : W2.heap[w.heap.size]? = some (.cells L1.toArray 98 (0, 0)) := by rw [hW2]; exact setRow_heap _ _ ROW _ 98 _ (heap_alloc_new w _)
  have hbW2 : Below w.heap.size w W2 := by rw [hW2]; exact below_setRow (bel_drew (bel_alloc (bel_refl w))) (Nat.le_refl _) _
  have hdl : (flatV (l.drop i)).length = (l.length - i) * 6 := by rw [flatV_len, List.length_drop]
  have hcp2 : ∀ W : World, W.heap = W2.heap → ∀ ty dc sc, (Builtin.copy_ #[96, 96] ty #[.slice (some ⟨w.heap.size, (i + 1) * 6, none⟩) (l.length - i) dc, .slice (some ⟨g, i * 6, none⟩) (l.length - i) sc]).run Tryz.prog W = .ok (goInt ((l.length - i : Nat) : Int)) (W.setRow w.heap.size (L1.take ((i + 1) * 6) ++ flatV (l.drop i) ++ L1.drop ((i + 1) * 6 + (flatV (l.drop i)).length)).toArray) := fun W hW ty dc sc => by
    have hm1 : Nat.min (l.length - i) (l.length - i) = l.length - i := Nat.min_self _
    have h := run_copy_k W 96 96 ty 98 6 w.heap.size ((i + 1) * 6) (l.length - i) dc ⟨g, i * 6, none⟩ (l.length - i) sc L1.toArray 98 (flatV (l.drop i)) Tryz.underlying96 (by rw [hi0]; simp [hzs]) (by rw [hW]; exact hN2) (by rw [hm1]; exact hdl) (fun j u hj => by
      have hc := rd_cell (HV.out.rd.below hbW2) (i * 6 + j) u (by rw [flatV_drop, List.getElem?_drop] at hj; exact hj)
      rw [Addr.add_lit]
      simpa [World.cell?, hW] using hc) (by rw [hdl, List.size_toArray, hr1]; omega) (fun u hu => flatV_one _ u hu)
    rw [hm1] at h
    exact h
  rw [hdl] at hr2 hr3 hcp2
  clear hrz hcp1 hN hxW hW1 hL1 hW2
  have hb6 : (i : Int) + 1 ≤ (G : Int) := by omega
  have hb7 : (0 : Int) ≤ (i : Int) + 1 := by omega
  have htn : ((i : Int) + 1).toNat = i + 1 := by omega
  have hgi : ¬ (G = i + 1) := by omega
  have hci : ¬ (cap = i) := by omega
  have hb8 : (i : Int) + 1 ≤ (l.length : Int) + 1 := by omega
  have hw8 : IntKind.i64.wrap ((i : Int) + 1) = (i : Int) + 1 := by rw [IntKind.wrap_i64]; omega
  go_region_law (refine step_copy_at rfl _ _ 96 96 rfl (.slice (some ⟨w.heap.size, (i + 1) * 6, none⟩) (l.length - i) (G - (i + 1))) (.slice (some ⟨g, i * 6, none⟩) (l.length - i) (cap - i)) (by simp [Act.eval, Act.put]) (by simp [Act.eval, Act.put]) (hcp2 W2.drew rfl 3 (G - (i + 1)) (cap - i)) ?_)
  have hfin : MineV w0 (W2.drew.setRow w.heap.size (L1.take ((i + 1) * 6) ++ flatV (l.drop i) ++ L1.drop ((i + 1) * 6 + (l.length - i) * 6)).toArray) (.slice (some ⟨w.heap.size, 0, none⟩) (l.length + 1) G) (l.take i ++ x :: l.drop i) := by
    have hll : (l.take i ++ x :: l.drop i).length = l.length + 1 := by simp; omega
    unfold MineV
    rw [hll]
    refine ⟨⟨by rw [flatV_len, hll], .inr ⟨w.heap.size, G, _, rfl, Nat.zero_le _, setRow_heap _ _ L1.toArray _ 98 _ hN2, hGn, hG63, ?_, ?_⟩⟩, fun b hb => ?_, ?_⟩
    · rw [List.size_toArray]; exact hr2
    · exact hr3
    · have e : w.heap.size = b := by simpa [Value.ownBlock] using hb
      have := HV.out.2.2.size
      omega
    · exact below_setRow (bel_drew (bel_trans HV.out.2.2 hbW2)) HV.out.2.2.size _
  rw [List.append_assoc] at hfin
  clear hr1 hr2 hr3 hcp2 hN2
  generalize W2.drew.setRow w.heap.size _ = W3 at hfin ⊢
  have HF := Lib.hid hfin
  clear hfin
  go_wp2_with fail
  go_ret
  exact ⟨_, rfl, HF.out⟩
end Go.Proofs.YtplieoalfbpniaaGreat
