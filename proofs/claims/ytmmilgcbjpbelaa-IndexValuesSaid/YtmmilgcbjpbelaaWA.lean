/- A batch's parts: node.Split (11). -/
import Derived.Test.YtmmilgcbjpbelaaW9
import Derived.Test.YtmmilgcbjpbelaaKtD
namespace Go.Proofs.Ytmmilgcbjpbelaa
open Go.RowKit Go.Kt Go.Ix

theorem key3 : Maps.Keyed Try.prog 3 := Maps.int_keyed Try.underlying3
theorem zero30 (w : World) : (zeroValue 30).run Try.prog w = .ok (.slice none 0 0) w := by kernel_rfl
def Rng (n : Int) : Prop := -9223372036854775808 ≤ n ∧ n ≤ 9223372036854775807
theorem wf64 {n : Int} (h : Rng n) : (Lit.int .i64 n).wf = true := by
  obtain ⟨h1, h2⟩ := h
  have e1 : IntKind.i64.min = -9223372036854775808 := by decide
  have e2 : IntKind.i64.max = 9223372036854775807 := by decide
  simp only [Lit.wf, e1, e2]
  simp
  omega
theorem keyOf3 {n : Int} (h : Rng n) : keyOf Try.prog 3 (.int .i64 n) = some (.int .i64 n) := Maps.keyOf_int_mk Try.underlying3 (wf64 h)

/-- the rows of a batch's parts -/
def partX (L : List Wr) (N : Int) : Lit → Nat × List Value
  | .int .i64 z => ((partL L N z).length, flatW (partL L N z))
  | _ => (0, [])
theorem partX_nil (N : Int) : partX [] N = fun _ => (0, []) := by
  funext x
  unfold partX
  split <;> rfl
theorem partX_snoc {L : List Wr} {k : Nat} {m : Wr} {N : Int} (h : L[k]? = some m) :
    setX (partX (L.take k) N) (.int .i64 (wHome N m)) ((partL (L.take k) N (wHome N m)).length + 1, flatW (partL (L.take k) N (wHome N m)) ++ wcells m) = partX (L.take (k + 1)) N := by
  funext x
  by_cases hx : x = .int .i64 (wHome N m)
  · subst hx
    rw [setX_same]
    simp only [partX]
    rw [partL_yes h rfl, flatW_append, List.length_append]
    rfl
  · rw [setX_other _ _ hx]
    unfold partX
    split
    · rename_i z
      rw [partL_no h (fun e => hx (by rw [e]))]
    · rfl
/-- how many parts there are -/
def cntF (F : Lit → Option Value) : Nat → Nat
  | 0 => 0
  | n + 1 => cntF F n + (if (F (.int .i64 (n : Int))).isSome then 1 else 0)
theorem cntF_le (F : Lit → Option Value) : ∀ n, cntF F n ≤ n
  | 0 => Nat.le_refl _
  | n + 1 => by have := cntF_le F n; unfold cntF; split <;> omega
theorem cntF_none : ∀ n, cntF (fun _ => none) n = 0
  | 0 => rfl
  | n + 1 => by unfold cntF; rw [cntF_none n]; rfl
theorem upd_same (F : Lit → Option Value) (k : Lit) (v : Value) : upd F k v k = some v := by unfold upd; rw [if_pos rfl]
theorem upd_other (F : Lit → Option Value) {k x : Lit} (v : Value) (h : x ≠ k) : upd F k v x = F x := by unfold upd; rw [if_neg h]
theorem cntF_ge (F : Lit → Option Value) (v : Value) (j : Nat) : ∀ n, n ≤ j → cntF (upd F (.int .i64 (j : Int)) v) n = cntF F n
  | 0, _ => rfl
  | n + 1, h => by
    unfold cntF
    rw [cntF_ge F v j n (by omega), upd_other F v (by intro e; injection e with _ e; omega)]
theorem cntF_upd (F : Lit → Option Value) (v : Value) (j : Nat) : ∀ n, j < n → cntF (upd F (.int .i64 (j : Int)) v) n = if (F (.int .i64 (j : Int))).isSome then cntF F n else cntF F n + 1
  | 0, h => by omega
  | n + 1, h => by
    by_cases e : j = n
    · subst e
      unfold cntF
      rw [cntF_ge F v j j (Nat.le_refl _), upd_same]
      cases hf : (F (.int .i64 (j : Int))).isSome <;> simp
    · have := cntF_upd F v j n (by omega)
      unfold cntF
      rw [this, upd_other F v (by intro e2; injection e2 with _ e2; omega)]
      split <;> split <;> omega

theorem wHome_bound (m : Wr) {N : Int} (h : 1 ≤ N) : 0 ≤ wHome N m ∧ wHome N m < N := by
  unfold wHome homeZ
  rw [if_neg (by omega)]
  exact ⟨Int.emod_nonneg _ (by omega), Int.emod_lt_of_pos _ (by omega)⟩

set_option maxHeartbeats 1000000 in
theorem split_any (v : Value) (L : List Wr) (N : Int) (w : World) (hv : RdW w v L) (hlen : L.length ≤ 100) (hf : FitW L) (hN : 1 ≤ N ∧ N ≤ 8) :
    Calls Try.prog 11 #[v, .int .i64 N] w fun e w' => ∃ mb F, e = .returned (.map (some mb)) ∧ Book Try.prog 3 84 5 w w' mb F (partX L N) (cntF F N.toNat) ∧ Below w.heap.size w w' := by
  obtain ⟨a, cap, rfl, hcap, hbig, hcell⟩ := hv.open
  have Hcell := Lib.hid hcell
  have HV := Lib.hid hv
  have HF := Lib.hid hf
  have HN := Lib.hid hN
  clear hcell hv hf hN
  have hmm := @run_makeMap Try.prog
  go_enter Try.func11, Try.ntmps11
  go_wp2_with fail
  clear hmm
  go_loopw [7, 8, 12] (fun _ _ i wr => ∃ (k : Nat) (F : Lit → Option Value), k ≤ L.length ∧ i = .int .i64 k ∧ Hid (Book Try.prog 3 84 5 w wr w.heap.size F (partX (L.take k) N) (cntF F N.toNat)) ∧ Hid (Below w.heap.size w wr)) (fun _ _ i _ => L.length - (intOf i).toNat)
  case atStart => exact ⟨0, fun _ => none, by omega, rfl, Lib.hid (by rw [List.take_zero, partX_nil, cntF_none]; exact Book.new _ _ _ _ w w (Nat.le_refl _)), Lib.hid (bel_alloc (bel_refl w))⟩
  case round =>
    obtain ⟨k, F, hk, rfl, HK, HB⟩ := hrel
    by_cases hlt : k < L.length
    · obtain ⟨m, hm⟩ : ∃ x, L[k]? = some x := ⟨L[k], List.getElem?_eq_getElem hlt⟩
      obtain ⟨b, o, rfl, lb, c0, c1, c2, c3, c4⟩ := Hcell.out k m hm
      have HP := Lib.hid hm
      have HR := Lib.hid ((HV.out.2 m (List.mem_of_getElem? hm)).below HB.out)
      obtain ⟨sa, scap, hsv, _⟩ := HR.out.open
      rw [hsv] at c0
      have d0 : wr.cell? ⟨b, o + k * 5, none⟩ = some (.slice sa m.st.length scap) := (HB.out.cell (p := ⟨b, o + k * 5, none⟩) lb).trans c0
      have d1 : wr.cell? ⟨b, o + k * 5 + 1, none⟩ = some (.int .i64 m.t) := (HB.out.cell (p := ⟨b, o + k * 5 + 1, none⟩) lb).trans c1
      have d2 : wr.cell? ⟨b, o + k * 5 + 2, none⟩ = some (.int .i64 m.k) := (HB.out.cell (p := ⟨b, o + k * 5 + 2, none⟩) lb).trans c2
      have d3 : wr.cell? ⟨b, o + k * 5 + 3, none⟩ = some (.int .i64 m.n) := (HB.out.cell (p := ⟨b, o + k * 5 + 3, none⟩) lb).trans c3
      have d4 : wr.cell? ⟨b, o + k * 5 + 4, none⟩ = some (.string m.x) := (HB.out.cell (p := ⟨b, o + k * 5 + 4, none⟩) lb).trans c4
      have HSV := Lib.hid hsv
      have HFm := Lib.hid (HF.out m (List.mem_of_getElem? hm))
      have HFm2 : Hid ((textL m.st).length ≤ maxLen) := Lib.hid (by have := HFm.out.2; simp only [maxLen]; omega)
      have HNr : Hid (-9223372036854775808 ≤ N ∧ N ≤ 9223372036854775807) := Lib.hid (by have := HN.out; omega)
      have HHb := Lib.hid (wHome_bound m HN.out.1)
      have HHr : Hid (Rng (wHome N m)) := Lib.hid (by have := HHb.out; have := HN.out; unfold Rng; omega)
      clear c0 c1 c2 c3 c4 hm lb hsv
      go_wp2_with fail
      have HX := Lib.hid (Blk.new wr #[.slice sa m.st.length scap, .int .i64 m.t, .int .i64 m.k, .int .i64 m.n, .string m.x] 84)
      have Hb5 := Lib.hid (below_alloc wr (.cells #[.slice sa m.st.length scap, .int .i64 m.t, .int .i64 m.k, .int .i64 m.n, .string m.x] 84))
      generalize wr.alloc (.cells #[.slice sa m.st.length scap, .int .i64 m.t, .int .i64 m.k, .int .i64 m.n, .string m.x] 84) = w5 at HX Hb5 ⊢
      refine (text_any (.slice sa m.st.length scap) m.st w5 (by rw [← HSV.out]; exact HR.out.below Hb5.out) HFm.out.1 HFm.out.2).mono ?_
      rintro e w3 ⟨rfl, hb3⟩
      have HK3 := Lib.hid ((HK.out.below Hb5.out).below hb3)
      have HX3 := Lib.hid (HX.out.next hb3)
      have HB3 := Lib.hid (bel_trans (bel_trans HB.out Hb5.out) hb3)
      clear HK HX HB Hb5 hb3 d0 d1 d2 d3 d4
      go_wp2_with fail
      refine (home_any (mkS (textL m.st)) N w3 (by rw [mkS_size]; exact HFm2.out) HNr.out).mono ?_
      rintro e w4 ⟨rfl, rfl⟩
      obtain ⟨j, hj⟩ : ∃ j : Nat, wHome N m = (j : Int) := ⟨(wHome N m).toNat, by have := HHb.out; omega⟩
      have hS : homeZ (mkS (textL m.st)) N = (j : Int) := hj
      have HS := Lib.hid hj
      rw [hS]
      clear hS hj
      have hlook := HK3.out.map.look1 key3 Try.underlying25 (zero30 w3) (keyOf3 (n := (j : Int)) (by rw [← HS.out]; exact HHr.out))
      obtain ⟨hrow, hrowge⟩ := HK3.out.look (.int .i64 (j : Int))
      have Hrow := Lib.hid hrow
      have Hrowge := Lib.hid hrowge
      have x0 : w3.cell? ⟨wr.heap.size, 0, none⟩ = some (.slice sa m.st.length scap) := HX3.out.cell 0
      have x1 : w3.cell? ⟨wr.heap.size, 1, none⟩ = some (.int .i64 m.t) := HX3.out.cell 1
      have x2 : w3.cell? ⟨wr.heap.size, 2, none⟩ = some (.int .i64 m.k) := HX3.out.cell 2
      have x3 : w3.cell? ⟨wr.heap.size, 3, none⟩ = some (.int .i64 m.n) := HX3.out.cell 3
      have x4 : w3.cell? ⟨wr.heap.size, 4, none⟩ = some (.string m.x) := HX3.out.cell 4
      have HLe := Lib.hid (partL_len L N (j : Int) k)
      clear hrow hrowge
      generalize hv0 : (F (.int .i64 (j : Int))).getD (.slice none 0 0) = v0 at *
      have Hv0 := Lib.hid hv0
      clear hv0
      go_wp2_with (at_builtin; apply Hold.mk)
      unfold Hold
      refine wpList_app rfl _ _ 30 rfl ok30 (by rfl) (by rfl) (Hrow.out.below' (below_alloc w3 _)) (by exact rd_lit 5 #[_, _, _, _, _] 1 (by simp) one_le rfl) (by exact wcells_one (m.with (.slice sa m.st.length scap)) rfl) (by have := HLe.out; simp only [maxLen, partX]; omega) (by have := HLe.out; simp only [partX]; omega) ?_
      intro v5 w5 ho5 hg5 hn5
      have HKa := HK3.out.below (below_alloc w3 (.cells #[.slice sa m.st.length scap, .int .i64 m.t, .int .i64 m.k, .int .i64 m.n, .string m.x] 84))
      have hba := bel_alloc (o := .cells #[.slice sa m.st.length scap, .int .i64 m.t, .int .i64 m.k, .int .i64 m.n, .string m.x] 84) HB3.out
      have hmap5 := HKa.map.grown hg5 (fun e => own_no_map (Hrow.out.below' (below_alloc w3 _)) HKa.map e.symm)
      have hcnt := cntF_le F N.toNat
      obtain ⟨w6, hrun, hm6, hgr⟩ := hmap5.put key3 Try.underlying25 (by have := HN.out; unfold maxLen; omega) v5 (keyOf3 (n := (j : Int)) (by rw [← HS.out]; exact HHr.out)) trivial
      have hbook6 := HKa.push (.int .i64 (j : Int)) (l := ((partL (L.take k) N (j : Int)).length + 1, flatW (partL (L.take k) N (j : Int)) ++ wcells m)) (by
        have : wcells m = [.slice sa m.st.length scap, .int .i64 m.t, .int .i64 m.k, .int .i64 m.n, .string m.x] := by unfold wcells; rw [HSV.out]
        rw [this]
        exact ho5) (by rw [Hv0.out]; exact hg5) (by rw [Hv0.out]; exact hn5) hba.size hm6 hgr hmap5
      have HK6 : Hid (Book Try.prog 3 84 5 w w6 w.heap.size (upd F (.int .i64 (j : Int)) v5) (partX (L.take (k + 1)) N) (cntF (upd F (.int .i64 (j : Int)) v5) N.toNat)) := Lib.hid (by
        rw [cntF_upd F v5 j N.toNat (by have := HHb.out; have := HS.out; omega), ← partX_snoc HP.out, HS.out]
        exact hbook6)
      have HB6 : Hid (Below w.heap.size w w6) := Lib.hid (by
        have h5 : Below w.heap.size w w5 := hba.grown hg5 hba.size (fun c hc => Hrowge.out c hc)
        exact h5.grown hgr h5.size (fun c hc => by injection hc with hc; rw [← hc]; exact Nat.le_refl _))
      clear ho5 hg5 hn5 hmap5 hm6 hgr hbook6 hlook Hrow Hrowge HKa hba Hv0 x0 x1 x2 x3 x4
      go_wp2_with fail
      go_roundw
      case rel => exact ⟨k + 1, _, by omega, by go_num, HK6, HB6⟩
      case measure => simp [intOf]; omega
    · obtain rfl : k = L.length := by omega
      rw [List.take_length] at HK
      go_wp2_with fail
      go_ret
      exact ⟨_, F, rfl, HK.out, HB.out⟩
end Go.Proofs.Ytmmilgcbjpbelaa
