/- Chains: slices.Insert (68) where there is room; the whole; chain.Put (40). -/
import Derived.Test.YtplieoalfbpniaaGreatS6
namespace Go.Proofs.YtplieoalfbpniaaGreat
open Go.RowKit Go.Kt Go.Ix Go.Sx
set_option maxRecDepth 100000

/-- behind both copies in place the row holds the longer chain -/
theorem ins_room (R : List Value) (l : List Ver) (x : Ver) (i G : Nat) (hi : i < l.length) (hR : R.length = G * 6) (hG : l.length + 1 ≤ G) (ht : R.take (l.length * 6) = flatV l) :
    let R1 := R.take ((i + 1) * 6) ++ flatV (l.drop i) ++ R.drop ((i + 1) * 6 + (l.length - i) * 6)
    let R2 := R1.take (i * 6) ++ vcells x ++ R1.drop (i * 6 + (vcells x).length)
    R1.length = G * 6 ∧ R2.length = G * 6 ∧ R2.take ((l.length + 1) * 6) = flatV (l.take i ++ x :: l.drop i) := by
  have e1 : (flatV (l.take i)).length = i * 6 := by rw [flatV_len, List.length_take]; omega
  have e2 : (flatV (l.drop i)).length = (l.length - i) * 6 := by rw [flatV_len, List.length_drop]
  intro R1 R2
  have ht2 : R.take (i * 6) = flatV (l.take i) := by
    rw [flatV_take, ← ht, List.take_take, Nat.min_eq_left (by omega)]
  have h5 : (R.take ((i + 1) * 6)).length = (i + 1) * 6 := by rw [List.length_take, hR]; omega
  have l1 : R1.length = G * 6 := by
    show (R.take ((i + 1) * 6) ++ flatV (l.drop i) ++ R.drop ((i + 1) * 6 + (l.length - i) * 6)).length = _
    rw [List.length_append, List.length_append, h5, e2, List.length_drop, hR]; omega
  have h6 : R1.take (i * 6) = flatV (l.take i) := by
    show (R.take ((i + 1) * 6) ++ flatV (l.drop i) ++ R.drop ((i + 1) * 6 + (l.length - i) * 6)).take (i * 6) = _
    rw [List.append_assoc, List.take_append_of_le_length (by rw [h5]; omega), List.take_take, Nat.min_eq_left (by omega), ht2]
  have h7 : R1.drop (i * 6 + 6) = flatV (l.drop i) ++ R.drop ((i + 1) * 6 + (l.length - i) * 6) := by
    show (R.take ((i + 1) * 6) ++ flatV (l.drop i) ++ R.drop ((i + 1) * 6 + (l.length - i) * 6)).drop (i * 6 + 6) = _
    rw [List.append_assoc, List.drop_append, List.drop_of_length_le (by rw [h5]; omega), h5, show i * 6 + 6 - (i + 1) * 6 = 0 by omega, List.drop_zero, List.nil_append]
  have hR2 : R2 = (flatV (l.take i) ++ vcells x ++ flatV (l.drop i)) ++ R.drop ((i + 1) * 6 + (l.length - i) * 6) := by
    show R1.take (i * 6) ++ vcells x ++ R1.drop (i * 6 + 6) = _
    rw [h6, h7]
    simp only [List.append_assoc]
  have h8 : (flatV (l.take i) ++ vcells x ++ flatV (l.drop i)).length = (l.length + 1) * 6 := by rw [List.length_append, List.length_append, e1, e2, vcells_len]; omega
  refine ⟨l1, ?_, ?_⟩
  · rw [hR2, List.length_append, h8, List.length_drop, hR]; omega
  · rw [hR2, List.take_append, List.take_of_length_le (by omega), h8, Nat.sub_self, List.take_zero, List.append_nil, flatV_append, flatV_cons, List.append_assoc]

theorem z98 (w : World) : (sizeOf 98).run Tryz.prog w = .ok 6 w := by kernel_rfl
set_option maxHeartbeats 4000000 in
theorem insert_room {w0 w : World} (g cap i : Nat) (l : List Ver) (x : Ver) (xb : Nat) (hv : MineV w0 w (.slice (some ⟨g, 0, none⟩) l.length cap) l) (hx : Blk w xb (vcells x).toArray 98) (hne : xb ≠ g) (hn : l.length ≤ 1048576) (hi : i < l.length) (hc : l.length + 1 ≤ cap) :
    Calls Tryz.prog 68 #[.slice (some ⟨g, 0, none⟩) l.length cap, .int .i64 (i : Int), .slice (some ⟨xb, 0, none⟩) 1 1] w fun e w' => ∃ v', e = .returned v' ∧ MineV w0 w' v' (l.take i ++ x :: l.drop i) := by
  have HV := Lib.hid hv
  have HX := Lib.hid hx
  clear hv hx
  obtain ⟨_, ⟨e, _⟩ | ⟨g', cap', cur, e, hB, hg, hnc, hm, hcs, ht⟩⟩ := HV.out.1
  · cases e
  cases e
  obtain ⟨i0, hi0, hz0, hzs, hzb⟩ := info_parts (by kernel_rfl : (Tryz.prog.info? 98).map (fun i => (i.zero, i.size, i.bytes)) = some (some zV, 6, 48))
  have hdl : (flatV (l.drop i)).length = (l.length - i) * 6 := by rw [flatV_len, List.length_drop]
  have hrow := ins_room cur.toList l x i cap hi (by rw [Array.length_toList]; exact hcs) hc ht
  have hov : ∀ lb cb, (callFunc 98 #[.slice (some ⟨xb, 0, none⟩) 1 1, .slice (some ⟨g, (i + 1) * 6, none⟩) lb cb]).run Tryz.prog w = .ok (.value (.bool false)) w := fun lb cb => by
    rw [run_callFunc_extern Tryz.func98 (by kernel_rfl) (by kernel_rfl) (by kernel_rfl) (e := Extern.SlicesOverlaps.overlaps #[96, 96] #[4]) (by kernel_rfl),
      Lib.run_overlaps_apart w 96 4 98 Tryz.underlying96 6 z98 ⟨xb, 0, none⟩ ⟨g, (i + 1) * 6, none⟩ 1 1 lb cb hne 98 98 6 cur.size (by simp [World.shape?, show w.heap[xb]? = some (.cells (vcells x).toArray 98 (0, 0)) from HX.out, vcells]) (by simp [World.shape?, hg]) (by omega) (HX.out.free 0) (HX.out.free 6)]
    rfl
  obtain ⟨hr1, hr2, hr3⟩ := hrow
  have hcp1 : ∀ W : World, W.heap = w.heap → ∀ ty dc sc, (Builtin.copy_ #[96, 96] ty #[.slice (some ⟨g, (i + 1) * 6, none⟩) (l.length - i) dc, .slice (some ⟨g, i * 6, none⟩) (l.length + 1 - i) sc]).run Tryz.prog W = .ok (goInt ((l.length - i : Nat) : Int)) (W.setRow g (cur.toList.take ((i + 1) * 6) ++ flatV (l.drop i) ++ cur.toList.drop ((i + 1) * 6 + (l.length - i) * 6)).toArray) := fun W hW ty dc sc => by
    have hm1 : Nat.min (l.length + 1 - i) (l.length - i) = l.length - i := Nat.min_eq_right (by omega)
    have h := run_copy_k W 96 96 ty 98 6 g ((i + 1) * 6) (l.length - i) dc ⟨g, i * 6, none⟩ (l.length + 1 - i) sc cur 98 (flatV (l.drop i)) Tryz.underlying96 (by rw [hi0]; simp [hzs]) (by rw [hW]; exact hg) (by rw [hm1]; exact hdl) (fun j u hj => by
      have hc := rd_cell HV.out.rd (i * 6 + j) u (by rw [flatV_drop, List.getElem?_drop] at hj; exact hj)
      rw [Addr.add_lit]
      simpa [World.cell?, hW] using hc) (by rw [hdl, hcs]; omega) (fun u hu => flatV_one _ u hu)
    rw [hm1, hdl] at h
    exact h
  obtain ⟨L1, hL1⟩ : ∃ L1, L1 = cur.toList.take ((i + 1) * 6) ++ flatV (l.drop i) ++ cur.toList.drop ((i + 1) * 6 + (l.length - i) * 6) := ⟨_, rfl⟩
  rw [← hL1] at hr1 hr2 hr3 hcp1
  have hcp2 : ∀ W : World, W.heap = (w.setRow g L1.toArray).heap → ∀ ty dc, (Builtin.copy_ #[96, 96] ty #[.slice (some ⟨g, i * 6, none⟩) (l.length + 1 - i) dc, .slice (some ⟨xb, 0, none⟩) 1 1]).run Tryz.prog W = .ok (goInt 1) (W.setRow g (L1.take (i * 6) ++ vcells x ++ L1.drop (i * 6 + (vcells x).length)).toArray) := fun W hW ty dc => by
    have hm1 : Nat.min 1 (l.length + 1 - i) = 1 := by simp only [Nat.min_def]; split <;> omega
    have hxx : W.heap[xb]? = some (.cells (vcells x).toArray 98 (0, 0)) := by rw [hW, setRow_other w g xb _ hne]; exact HX.out
    have h := run_copy_k W 96 96 ty 98 6 g (i * 6) (l.length + 1 - i) dc ⟨xb, 0, none⟩ 1 1 L1.toArray 98 (vcells x) Tryz.underlying96 (by rw [hi0]; simp [hzs]) (by rw [hW]; exact setRow_heap w g cur _ 98 _ hg) (by rw [hm1]; rfl) (fun j u hj => by
      rw [Addr.add_lit, Nat.zero_add]
      simpa [World.cell?, hxx] using hj) (by rw [vcells_len, List.size_toArray, hr1]; omega) (fun u hu => flatV_one [x] u (by simpa [flatV] using hu))
    rw [hm1] at h
    exact h
  have hgw := cells_lt hg
  have hgw0 : w0.heap.size ≤ g := HV.out.2.1 g rfl
  have hz2 : ((i : Int) == (l.length : Int)) = false := bne_of (by omega)
  have hz3 : ¬ (cap : Int) < (l.length : Int) + 1 := by omega
  have hz4 : (l.length : Int) + 1 ≤ (cap : Int) := by omega
  have hb3 : (i : Int) ≤ (l.length : Int) := by omega
  have hb4 : (i : Int) ≤ (cap : Int) := by omega
  have hb5 : (0 : Int) ≤ (i : Int) := by omega
  have hb9 : (i : Int) ≤ (l.length : Int) + 1 := by omega
  have hb6 : (i : Int) + 1 ≤ (cap : Int) := by omega
  have hb7 : (0 : Int) ≤ (i : Int) + 1 := by omega
  have htn : ((i : Int) + 1).toNat = i + 1 := by omega
  have hgi : ¬ (cap = i + 1) := by omega
  have hci : ¬ (cap = i) := by omega
  have hb8 : (i : Int) + 1 ≤ (l.length : Int) + 1 := by omega
  have hw8 : IntKind.i64.wrap ((i : Int) + 1) = (i : Int) + 1 := by rw [IntKind.wrap_i64]; omega
  have hcm := Lib.hid hm
  clear hL1 ht hm
  go_enter Tryz.func68, Tryz.ntmps68
  go_wp2_with (simp only [hov])
  go_region_law (refine step_copy_at rfl _ _ 96 96 rfl (.slice (some ⟨g, (i + 1) * 6, none⟩) (l.length - i) (cap - (i + 1))) (.slice (some ⟨g, i * 6, none⟩) (l.length + 1 - i) (cap - i)) (by simp [Act.eval, Act.put]) (by simp [Act.eval, Act.put]) (hcp1 w.drew rfl 3 (cap - (i + 1)) (cap - i)) ?_)
  have hcp3 : (Builtin.copy_ #[96, 96] 3 #[.slice (some ⟨g, i * 6, none⟩) (l.length + 1 - i) (cap - i), .slice (some ⟨xb, 0, none⟩) 1 1]).run Tryz.prog (w.drew.setRow g L1.toArray) = _ := hcp2 (w.drew.setRow g L1.toArray) rfl 3 (cap - i)
  have hfin : MineV w0 ((w.drew.setRow g L1.toArray).setRow g (L1.take (i * 6) ++ vcells x ++ L1.drop (i * 6 + (vcells x).length)).toArray) (.slice (some ⟨g, 0, none⟩) (l.length + 1) cap) (l.take i ++ x :: l.drop i) := by
    have hll : (l.take i ++ x :: l.drop i).length = l.length + 1 := by simp; omega
    unfold MineV
    rw [hll]
    refine ⟨⟨by rw [flatV_len, hll], .inr ⟨g, cap, _, rfl, Nat.zero_le _, setRow_heap _ _ L1.toArray _ 98 _ (setRow_heap _ _ cur _ 98 _ hg), hc, hcm.out, ?_, ?_⟩⟩, fun b hb => ?_, ?_⟩
    · rw [List.size_toArray]; exact hr2
    · exact hr3
    · have e : g = b := by simpa [Value.ownBlock] using hb
      omega
    · exact below_setRow (below_setRow (bel_drew HV.out.2.2) hgw0 _) hgw0 _
  clear hr1 hr2 hr3 hcp2 hcp1
  generalize (w.drew.setRow g L1.toArray).setRow g _ = W3 at hfin hcp3
  have HF := Lib.hid hfin
  clear hfin hg
  go_wp2_with (simp only [hcp3])
  go_ret
  exact ⟨_, rfl, HF.out⟩

/-- a version laid in its place -/
theorem insert_any {w0 w : World} (v : Value) (i : Nat) (l : List Ver) (x : Ver) (xb : Nat) (hv : MineV w0 w v l) (hx : Blk w xb (vcells x).toArray 98) (hne : v.ownBlock ≠ some xb) (hn : l.length ≤ 1048576) (hi : i ≤ l.length) :
    Calls Tryz.prog 68 #[v, .int .i64 (i : Int), .slice (some ⟨xb, 0, none⟩) 1 1] w fun e w' => ∃ v', e = .returned v' ∧ MineV w0 w' v' (l.take i ++ x :: l.drop i) := by
  have hxr : RdV w (.slice (some ⟨xb, 0, none⟩) 1 1) [x] := ⟨rfl, some ⟨xb, 0, none⟩, 1, rfl, by simp, by simp [maxLen], (fun h => by cases h), fun j u hj => ⟨xb, 0, rfl, by
    rw [Nat.zero_add, hx.cell j, ← Array.getElem?_toList]
    simpa [flatV] using hj⟩⟩
  by_cases hil : i = l.length
  · subst hil
    have := insert_end v l x xb hv hxr hn
    rw [List.take_length, List.drop_length]
    exact this
  · obtain ⟨hl, ⟨e, h0⟩ | ⟨g, cap, cur, e, hB, hg, hnc, hm, hcs, ht⟩⟩ := hv.1
    · omega
    · subst e
      by_cases hc : cap < l.length + 1
      · exact insert_grow g cap i l x xb hv hxr hn (by omega) hc
      · exact insert_room g cap i l x xb hv hx (fun e => hne (by rw [e]; rfl)) hn (by omega) (by omega)
end Go.Proofs.YtplieoalfbpniaaGreat
