/- Which writes are a shard's: the document's Part (15); equal writes: SameWrite (35), SameWrites (13). -/
import Derived.Test.YtmmilgcbjpbelaaW7
import Derived.Test.YtmmilgcbjpbelaaW1
namespace Go.Proofs.Ytmmilgcbjpbelaa
open Go.RowKit Go.Kt Go.Ix

/-- the home of a write -/
def wHome (N : Int) (m : Wr) : Int := homeZ (mkS (textL m.st)) N
def partL (L : List Wr) (N S : Int) : List Wr := L.filter fun m => wHome N m == S
theorem partL_yes {L : List Wr} {k : Nat} {m : Wr} {N S : Int} (h : L[k]? = some m) (e : wHome N m = S) : partL (L.take (k + 1)) N S = partL (L.take k) N S ++ [m] := by
  obtain ⟨hk, rfl⟩ := List.getElem?_eq_some_iff.1 h
  rw [List.take_succ_eq_append_getElem hk, partL, List.filter_append]
  simp [partL, e]
theorem partL_no {L : List Wr} {k : Nat} {m : Wr} {N S : Int} (h : L[k]? = some m) (e : wHome N m ≠ S) : partL (L.take (k + 1)) N S = partL (L.take k) N S := by
  obtain ⟨hk, rfl⟩ := List.getElem?_eq_some_iff.1 h
  rw [List.take_succ_eq_append_getElem hk, partL, List.filter_append]
  simp [partL, e]
theorem partL_len (L : List Wr) (N S : Int) (k : Nat) : (partL (L.take k) N S).length ≤ k := by
  have h1 : (partL (L.take k) N S).length ≤ (L.take k).length := List.length_filter_le _ _
  have h2 : (L.take k).length ≤ k := List.length_take_le _ _
  omega
theorem partL_mem {L : List Wr} {N S : Int} {m : Wr} (h : m ∈ partL L N S) : m ∈ L := (List.mem_filter.1 h).1

/-- texts short enough to be made -/
def FitW (L : List Wr) : Prop := ∀ m ∈ L, m.st.length ≤ 1048576 ∧ (textL m.st).length ≤ 140737488355328

set_option maxHeartbeats 1000000 in
theorem part_any (v : Value) (L : List Wr) (N S : Int) (w : World) (hv : RdW w v L) (hlen : L.length ≤ 1048576) (hf : FitW L) (hN : -9223372036854775808 ≤ N ∧ N ≤ 9223372036854775807) :
    Calls Try.prog 15 #[v, .int .i64 N, .int .i64 S] w fun e w' => ∃ v', e = .returned v' ∧ Mine 88 5 w w' v' (partL L N S).length (flatW (partL L N S)) := by
  obtain ⟨a, cap, rfl, hcap, hbig, hcell⟩ := hv.open
  have Hcell := Lib.hid hcell
  have HV := Lib.hid hv
  have HF := Lib.hid hf
  have HN := Lib.hid hN
  clear hcell hv hf hN
  go_enter Try.func15, Try.ntmps15
  go_wp2_with fail
  go_loopw [7, 8] (fun v i wr => ∃ k : Nat, k ≤ L.length ∧ i = .int .i64 k ∧ Hid (Mine 88 5 w wr v (partL (L.take k) N S).length (flatW (partL (L.take k) N S)))) (fun _ i _ => L.length - (intOf i).toNat)
  case atStart => exact ⟨0, by omega, rfl, Lib.hid (mine_nil 88 5 w)⟩
  case round =>
    obtain ⟨k, hk, rfl, HM⟩ := hrel
    by_cases hlt : k < L.length
    · obtain ⟨m, hm⟩ : ∃ x, L[k]? = some x := ⟨L[k], List.getElem?_eq_getElem hlt⟩
      obtain ⟨b, o, rfl, lb, c0, c1, c2, c3, c4⟩ := Hcell.out k m hm
      have HB := Lib.hid HM.out.2.2
      have HP := Lib.hid hm
      have HR := Lib.hid ((HV.out.2 m (List.mem_of_getElem? hm)).below HB.out)
      obtain ⟨sa, scap, hsv, _⟩ := HR.out.open
      rw [hsv] at c0
      have HC : Hid (∀ w', Below wr.heap.size wr w' → w'.cell? ⟨b, o + k * 5, none⟩ = some (.slice sa m.st.length scap) ∧ w'.cell? ⟨b, o + k * 5 + 1, none⟩ = some (.int .i64 m.t) ∧ w'.cell? ⟨b, o + k * 5 + 2, none⟩ = some (.int .i64 m.k) ∧ w'.cell? ⟨b, o + k * 5 + 3, none⟩ = some (.int .i64 m.n) ∧ w'.cell? ⟨b, o + k * 5 + 4, none⟩ = some (.string m.x)) :=
        Lib.hid (fun w' h => by
          have h2 := bel_trans HB.out h
          exact ⟨(h2.cell (p := ⟨b, o + k * 5, none⟩) lb).trans c0, (h2.cell (p := ⟨b, o + k * 5 + 1, none⟩) lb).trans c1, (h2.cell (p := ⟨b, o + k * 5 + 2, none⟩) lb).trans c2, (h2.cell (p := ⟨b, o + k * 5 + 3, none⟩) lb).trans c3, (h2.cell (p := ⟨b, o + k * 5 + 4, none⟩) lb).trans c4⟩)
      have HFm := Lib.hid (HF.out m (List.mem_of_getElem? hm))
      have HFm2 : Hid ((textL m.st).length ≤ maxLen) := Lib.hid (by have := HFm.out.2; simp only [maxLen]; omega)
      have HLe := Lib.hid (partL_len L N S k)
      obtain ⟨d0, d1, d2, d3, d4⟩ := HC.out wr (bel_refl wr)
      have HSV := Lib.hid hsv
      have hk1 : (0 : Int) ≤ (k : Int) := by omega
      have hk2 : (k : Int) < (L.length : Int) := by omega
      clear c0 c1 c2 c3 c4 hm lb hsv
      by_cases hh : wHome N m = S
      · have HT := Lib.hid (partL_yes HP.out hh)
        have hz : (homeZ (mkS (textL m.st)) N == S) = true := by rw [beq_iff_eq]; exact hh
        clear hh
        go_wp2_with (first | (go_at_call 36; refine (reftext_any (.slice sa m.st.length scap) m.st _ (by rw [← HSV.out]; exact HR.out) HFm.out.2).mono ?_; rintro e w3 ⟨rfl, hb3⟩; obtain ⟨e0, e1, e2, e3, e4⟩ := HC.out w3 hb3; replace hb3 := Lib.hid hb3) | (go_at_call 10; refine (refhome_any _ _ _ (by rw [mkS_size]; exact HFm2.out) HN.out).mono ?_; rintro e w4 ⟨rfl, rfl⟩) | (at_builtin; apply Hold.mk) | fail)
        unfold Hold
        refine mine_app rfl _ _ 22 rfl ok22 (by rfl) (by rfl) (HM.out.below hb3.out) (by repeat (first | exact bel_refl _ | apply bel_alloc | apply bel_drew)) (by exact rd_lit 5 #[_, _, _, _, _] 1 (by simp) one_le rfl) (by exact wcells_one (m.with (.slice sa m.st.length scap)) rfl) (by have := HLe.out; simp only [maxLen]; omega) (by have := HLe.out; omega) ?_
        intro v7 w7 hm7 hg7
        have HM7 : Hid (Mine 88 5 w w7 v7 (partL (L.take (k + 1)) N S).length (flatW (partL (L.take (k + 1)) N S))) := Lib.hid (by
          rw [HT.out, flatW_append, List.length_append]
          have : flatW [m] = [.slice sa m.st.length scap, .int .i64 m.t, .int .i64 m.k, .int .i64 m.n, .string m.x] := by rw [← HSV.out]; rfl
          rw [this]
          exact hm7)
        clear hm7 hg7
        go_wp2_with fail
        go_roundw
        case rel => exact ⟨k + 1, by omega, by go_num, HM7⟩
        case measure => simp [intOf]; omega
      · have HT := Lib.hid (partL_no HP.out hh)
        have hz : (homeZ (mkS (textL m.st)) N == S) = false := by rw [beq_eq_false_iff_ne]; exact hh
        clear hh
        go_wp2_with (first | (go_at_call 36; refine (reftext_any (.slice sa m.st.length scap) m.st _ (by rw [← HSV.out]; exact HR.out) HFm.out.2).mono ?_; rintro e w3 ⟨rfl, hb3⟩; obtain ⟨e0, e1, e2, e3, e4⟩ := HC.out w3 hb3; replace hb3 := Lib.hid hb3) | (go_at_call 10; refine (refhome_any _ _ _ (by rw [mkS_size]; exact HFm2.out) HN.out).mono ?_; rintro e w4 ⟨rfl, rfl⟩) | fail)
        go_roundw
        case rel => exact ⟨k + 1, by omega, by go_num, Lib.hid (by rw [HT.out]; exact HM.out.below hb3.out)⟩
        case measure => simp [intOf]; omega
    · obtain rfl : k = L.length := by omega
      rw [List.take_length] at HM
      go_wp2_with fail
      go_ret
      exact ⟨_, rfl, HM.out⟩

set_option maxHeartbeats 1000000 in
theorem samewrite_yes (m : Wr) (u : Value) (w : World) (hv : RdP w m.sv m.st) (hu : RdP w u m.st) :
    Calls Try.prog 35 #[wagg m, wagg (m.with u)] w fun e w' => e = .returned (.bool true) ∧ Below w.heap.size w w' := by
  obtain ⟨st, t, k, n, x, sv⟩ := m
  simp only at hv hu
  obtain ⟨a, cap, rfl, _⟩ := hv.open
  obtain ⟨a2, cap2, rfl, _⟩ := hu.open
  have HV := Lib.hid hv
  have HU := Lib.hid hu
  clear hv hu
  unfold wagg Wr.with
  go_enter Try.func35, Try.ntmps35
  go_wp2_with (first | (go_at_call 28; refine (same_yes (.slice a st.length cap) (.slice a2 st.length cap2) st _ (HV.out.below (by repeat (first | exact bel_refl _ | apply bel_alloc | apply bel_drew))) (HU.out.below (by repeat (first | exact bel_refl _ | apply bel_alloc | apply bel_drew)))).mono ?_; rintro e w2 ⟨rfl, t2, rfl⟩) | fail)
  go_ret
  exact ⟨rfl, by repeat (first | exact bel_refl _ | apply bel_drewN | apply bel_alloc | apply bel_drew)⟩

set_option maxHeartbeats 1000000 in
theorem samewrites_yes (v u : Value) (L M : List Wr) (w : World) (hv : RdW w v L) (hu : RdW w u M) (he : L.map Wr.bare = M.map Wr.bare) :
    Calls Try.prog 13 #[v, u] w fun e w' => e = .returned (.bool true) ∧ Below w.heap.size w w' := by
  have hl : M.length = L.length := by have := congrArg List.length he; simpa using this.symm
  obtain ⟨a, cap, rfl, hcap, hbig, hcell⟩ := hv.open
  obtain ⟨a2, cap2, rfl, hcap2, hbig2, hcell2⟩ := hu.open
  rw [hl] at hcap2 ⊢
  have HV := Lib.hid hv
  have HU := Lib.hid hu
  have Hcell := Lib.hid hcell
  have Hcell2 := Lib.hid hcell2
  have HE := Lib.hid he
  have HL := Lib.hid hl
  clear hcell hv hcell2 hu he hl
  go_enter Try.func13, Try.ntmps13
  go_wp2_with fail
  go_loopw [5] (fun i wr => ∃ k : Nat, k ≤ L.length ∧ i = .int .i64 k ∧ Hid (Below w.heap.size w wr)) (fun i _ => L.length - (intOf i).toNat)
  case atStart => exact ⟨0, by omega, rfl, Lib.hid (bel_refl w)⟩
  case round =>
    obtain ⟨k, hk, rfl, HB⟩ := hrel
    by_cases hlt : k < L.length
    · obtain ⟨m, hm⟩ : ∃ x, L[k]? = some x := ⟨L[k], List.getElem?_eq_getElem hlt⟩
      obtain ⟨m2, hm2⟩ : ∃ x, M[k]? = some x := ⟨M[k]'(by have := HL.out; omega), List.getElem?_eq_getElem (by have := HL.out; omega)⟩
      have hmm : m2 = m.with m2.sv := by
        have := congrArg (fun l => l[k]?) HE.out
        simp only [List.getElem?_map, hm, hm2, Option.map_some, Option.some.injEq] at this
        obtain ⟨s1, t1, k1, n1, x1, v1⟩ := m
        obtain ⟨s2, t2, k2, n2, x2, v2⟩ := m2
        simp only [Wr.bare, Wr.mk.injEq] at this
        obtain ⟨rfl, rfl, rfl, rfl, rfl, _⟩ := this
        rfl
      obtain ⟨b, o, rfl, lb, c0, c1, c2, c3, c4⟩ := Hcell.out k m hm
      obtain ⟨b2, o2, rfl, lb2, d0, d1, d2, d3, d4⟩ := Hcell2.out k m2 hm2
      have HR := Lib.hid ((HV.out.2 m (List.mem_of_getElem? hm)).below HB.out)
      have HR2 := Lib.hid ((HU.out.2 m2 (List.mem_of_getElem? hm2)).below HB.out)
      generalize m2.sv = u2 at hmm d0 HR2
      subst hmm
      simp only [Wr.with] at d1 d2 d3 d4 HR2
      obtain ⟨st, t, kk, n, x, sv⟩ := m
      simp only at c0 c1 c2 c3 c4 d0 d1 d2 d3 d4 HR HR2
      obtain ⟨sa, scap, rfl, _⟩ := HR.out.open
      obtain ⟨sa2, scap2, rfl, _⟩ := HR2.out.open
      have HC : Hid (∀ w', Below wr.heap.size wr w' → w'.cell? ⟨b, o + k * 5, none⟩ = some (.slice sa st.length scap) ∧ w'.cell? ⟨b, o + k * 5 + 1, none⟩ = some (.int .i64 t) ∧ w'.cell? ⟨b, o + k * 5 + 2, none⟩ = some (.int .i64 kk) ∧ w'.cell? ⟨b, o + k * 5 + 3, none⟩ = some (.int .i64 n) ∧ w'.cell? ⟨b, o + k * 5 + 4, none⟩ = some (.string x) ∧
          w'.cell? ⟨b2, o2 + k * 5, none⟩ = some (.slice sa2 st.length scap2) ∧ w'.cell? ⟨b2, o2 + k * 5 + 1, none⟩ = some (.int .i64 t) ∧ w'.cell? ⟨b2, o2 + k * 5 + 2, none⟩ = some (.int .i64 kk) ∧ w'.cell? ⟨b2, o2 + k * 5 + 3, none⟩ = some (.int .i64 n) ∧ w'.cell? ⟨b2, o2 + k * 5 + 4, none⟩ = some (.string x)) :=
        Lib.hid (fun w' h => by
          have h2 := bel_trans HB.out h
          exact ⟨(h2.cell (p := ⟨b, o + k * 5, none⟩) lb).trans c0, (h2.cell (p := ⟨b, o + k * 5 + 1, none⟩) lb).trans c1, (h2.cell (p := ⟨b, o + k * 5 + 2, none⟩) lb).trans c2, (h2.cell (p := ⟨b, o + k * 5 + 3, none⟩) lb).trans c3, (h2.cell (p := ⟨b, o + k * 5 + 4, none⟩) lb).trans c4,
            (h2.cell (p := ⟨b2, o2 + k * 5, none⟩) lb2).trans d0, (h2.cell (p := ⟨b2, o2 + k * 5 + 1, none⟩) lb2).trans d1, (h2.cell (p := ⟨b2, o2 + k * 5 + 2, none⟩) lb2).trans d2, (h2.cell (p := ⟨b2, o2 + k * 5 + 3, none⟩) lb2).trans d3, (h2.cell (p := ⟨b2, o2 + k * 5 + 4, none⟩) lb2).trans d4⟩)
      have hk1 : (0 : Int) ≤ (k : Int) := by omega
      have hk2 : (k : Int) < (L.length : Int) := by omega
      have hx5 := bel_refl wr
      clear c0 c1 c2 c3 c4 d0 d1 d2 d3 d4 lb lb2 hm hm2
      obtain ⟨k0, k1, k2, k3, k4, l0, l1, l2, l3, l4⟩ := HC.out _ hx5
      go_wp2_with fail
      go_region_held3 (fun w' => w'.cell? ⟨b, o + k * 5, none⟩ = some (.slice sa st.length scap) ∧ w'.cell? ⟨b, o + k * 5 + 1, none⟩ = some (.int .i64 t) ∧ w'.cell? ⟨b, o + k * 5 + 2, none⟩ = some (.int .i64 kk) ∧ w'.cell? ⟨b, o + k * 5 + 3, none⟩ = some (.int .i64 n) ∧ w'.cell? ⟨b, o + k * 5 + 4, none⟩ = some (.string x) ∧
          w'.cell? ⟨b2, o2 + k * 5, none⟩ = some (.slice sa2 st.length scap2) ∧ w'.cell? ⟨b2, o2 + k * 5 + 1, none⟩ = some (.int .i64 t) ∧ w'.cell? ⟨b2, o2 + k * 5 + 2, none⟩ = some (.int .i64 kk) ∧ w'.cell? ⟨b2, o2 + k * 5 + 3, none⟩ = some (.int .i64 n) ∧ w'.cell? ⟨b2, o2 + k * 5 + 4, none⟩ = some (.string x))
        (first | (with_reducible exact ⟨k0, k1, k2, k3, k4, l0, l1, l2, l3, l4⟩) | (with_reducible refine HC.out _ ?_; (repeat (first | assumption | apply bel_alloc | apply bel_drew)); done) | go_keep)
        (first
          | (go_simp; go_at_call 35; refine (samewrite_yes ⟨st, t, kk, n, x, .slice sa st.length scap⟩ (.slice sa2 st.length scap2) _ (HR.out.below (by repeat (first | exact bel_refl _ | assumption | apply bel_alloc | apply bel_drew))) (HR2.out.below (by repeat (first | exact bel_refl _ | assumption | apply bel_alloc | apply bel_drew)))).mono ?_; rintro e w6 ⟨rfl, hb6⟩; have hx6 : Below wr.heap.size wr w6 := bel_trans (by repeat (first | assumption | apply bel_alloc | apply bel_drew)) hb6; clear hb6))
      go_wp2_with fail
      go_roundw
      case rel => exact ⟨k + 1, by omega, by go_num, Lib.hid (bel_trans HB.out (by repeat (first | assumption | apply bel_alloc | apply bel_drew)))⟩
      case measure => simp [intOf]; omega
    · obtain rfl : k = L.length := by omega
      go_wp2_with fail
      go_ret
      exact ⟨rfl, HB.out⟩
end Go.Proofs.Ytmmilgcbjpbelaa
