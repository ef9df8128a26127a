/- Slices of labels; whether labels are a set: label.Right (44), the document's (52). -/
import Derived.Test.YtplieoalfbpniaaGreatI2
import Derived.Test.YtplieoalfbpniaaGreatKtB
import Derived.Test.YtplieoalfbpniaaGreatKtL
import Derived.BigQuiet
import Derived.Deep.QuietTactic
import Derived.Deep.RegionHeld3
import Derived.Deep.DeepFit
import Derived.Deep.CutBlock
import Derived.Deep.DeepCutAuto
namespace Go.Proofs.YtplieoalfbpniaaGreat
open Go.RowKit Go.Kt Go.Ix
set_option maxRecDepth 100000

theorem ok75 : ElemOk Tryz.prog 33 69 (.agg #[.string ⟨#[]⟩, .string ⟨#[]⟩]) 2 32 := ⟨Tryz.underlying33, info_parts (by kernel_rfl), rfl, by decide⟩
theorem ok112 : ElemOk Tryz.prog 41 152 (.agg #[.string ⟨#[]⟩, .string ⟨#[]⟩]) 2 32 := ⟨Tryz.underlying41, info_parts (by kernel_rfl), rfl, by decide⟩

def flatP : List Pr → List Value
  | [] => []
  | p :: t => .string p.n :: .string p.v :: flatP t
theorem flatP_len (T : List Pr) : (flatP T).length = T.length * 2 := by
  induction T with
  | nil => rfl
  | cons x t ih => simp only [flatP, List.length_cons, ih]; omega
theorem flatP_append (T S : List Pr) : flatP (T ++ S) = flatP T ++ flatP S := by
  induction T with
  | nil => rfl
  | cons x t ih => simp only [List.cons_append, flatP, ih]
theorem flatP_get (T : List Pr) : ∀ (i : Nat) (x : Pr), T[i]? = some x → (flatP T)[i * 2]? = some (.string x.n) ∧ (flatP T)[i * 2 + 1]? = some (.string x.v) := by
  induction T with
  | nil => intro i x h; simp at h
  | cons y t ih =>
    intro i x h
    match i with
    | 0 => simp at h; subst h; exact ⟨rfl, rfl⟩
    | i + 1 =>
      simp only [List.getElem?_cons_succ] at h
      have := ih i x h
      rw [show (i + 1) * 2 = i * 2 + 1 + 1 by omega]
      exact this
theorem flatP_one (T : List Pr) : ∀ u ∈ flatP T, u.oneCell' = true := by
  induction T with
  | nil => intro u hu; simp [flatP] at hu
  | cons y t ih =>
    intro u hu
    simp only [flatP, List.mem_cons] at hu
    rcases hu with rfl | rfl | hu
    · rfl
    · rfl
    · exact ih u hu
theorem flatP_take (T : List Pr) (k : Nat) (x : Pr) (h : T[k]? = some x) : flatP (T.take (k + 1)) = flatP (T.take k) ++ [.string x.n, .string x.v] := by
  obtain ⟨hk, rfl⟩ := List.getElem?_eq_some_iff.1 h
  rw [List.take_succ_eq_append_getElem hk, flatP_append]; rfl

def RdP (w : World) (v : Value) (l : List Pr) : Prop := RdRow 2 w v l.length (flatP l)
def OwnP (e : TypeId) (w : World) (v : Value) (l : List Pr) : Prop := Own e 2 w v l.length (flatP l)
/-- the texts are no longer than texts can be -/
def Fit (l : List Pr) : Prop := ∀ p ∈ l, p.n.size ≤ maxLen ∧ p.v.size ≤ maxLen
theorem RdP.below {w w' : World} {v : Value} {l : List Pr} (h : RdP w v l) (hb : Below w.heap.size w w') : RdP w' v l := RdRow.below h hb
theorem OwnP.rd {e : TypeId} {w : World} {v : Value} {l : List Pr} (h : OwnP e w v l) : RdP w v l := Own.rd h
theorem OwnP.below {e : TypeId} {w w' : World} {v : Value} {l : List Pr} (h : OwnP e w v l) (hb : Below w.heap.size w w') : OwnP e w' v l := Own.below' h hb
theorem RdP.open {w : World} {v : Value} {l : List Pr} (h : RdP w v l) : ∃ a cap, v = .slice a l.length cap ∧ l.length ≤ cap ∧ cap ≤ 9223372036854775807 ∧
    ∀ (i : Nat) (x : Pr), l[i]? = some x → ∃ b o, a = some ⟨b, o, none⟩ ∧ w.cell? ⟨b, o + i * 2, none⟩ = some (.string x.n) ∧ w.cell? ⟨b, o + i * 2 + 1, none⟩ = some (.string x.v) := by
  obtain ⟨_, a, cap, rfl, h1, h2, _, h5⟩ := h
  refine ⟨a, cap, rfl, h1, h2, fun i x hi => ?_⟩
  obtain ⟨c1, c2⟩ := flatP_get l i x hi
  obtain ⟨b, o, rfl, hc⟩ := h5 _ _ c1
  obtain ⟨b', o', e, hc'⟩ := h5 _ _ c2
  cases e
  exact ⟨b, o, rfl, hc, by rw [Nat.add_assoc]; exact hc'⟩

open Classical in
/-- whether P -/
noncomputable def pb (P : Prop) : Bool := decide P
theorem pb_yes {P : Prop} (h : P) : pb P = true := by simp [pb, h]
theorem pb_no {P : Prop} (h : ¬ P) : pb P = false := by simp [pb, h]
theorem of_pb {P : Prop} (h : pb P = true) : P := by simpa [pb] using h
theorem of_not_pb {P : Prop} (h : pb P = false) : ¬ P := by simpa [pb] using h
theorem says_pb {P : Prop} {e : Ending} (h : Says P e) : e = .returned (.bool (pb P)) := by
  obtain ⟨b, rfl, hb⟩ := h
  cases b with
  | true => rw [pb_yes (hb.1 rfl)]
  | false => rw [pb_no (fun h => by cases hb.2 h)]
theorem says_of {P : Prop} {b : Bool} (h : b = pb P) : Says P (.returned (.bool b)) := by
  subst h
  by_cases h : P
  · rw [pb_yes h]; exact says_yes h
  · rw [pb_no h]; exact says_no h
theorem name_quiet (s : ByteArray) (hs : s.size ≤ maxLen) (W : World) : Calls Tryz.prog 71 #[.string s] W fun e w' => e = .returned (.bool (pb (NameP (bl s)))) ∧ w' = W := (isName_any s W hs).mono fun _ _ h => ⟨says_pb h.1, h.2.symm⟩
theorem value_quiet (s : ByteArray) (hs : s.size ≤ maxLen) (W : World) : Calls Tryz.prog 72 #[.string s] W fun e w' => e = .returned (.bool (pb (ValP (bl s)))) ∧ w' = W := (isValue_any s W hs).mono fun _ _ h => ⟨says_pb h.1, h.2.symm⟩
theorem refname_quiet (s : ByteArray) (hs : s.size ≤ maxLen) (W : World) : Calls Tryz.prog 74 #[.string s] W fun e w' => e = .returned (.bool (pb (NameP (bl s)))) ∧ w' = W := (refIsName_any s W hs).mono fun _ _ h => ⟨says_pb h.1, h.2.symm⟩
theorem refvalue_quiet (s : ByteArray) (hs : s.size ≤ maxLen) (W : World) : Calls Tryz.prog 75 #[.string s] W fun e w' => e = .returned (.bool (pb (ValP (bl s)))) ∧ w' = W := (refIsValue_any s W hs).mono fun _ _ h => ⟨says_pb h.1, h.2.symm⟩

/-- the first k labels are as a set's -/
def RightTo (l : List Pr) (k : Nat) : Prop := ∀ i (h : i < l.length), i < k → PairP l[i] ∧ ∀ j (hj : j < l.length), i = j + 1 → Less l[j].n l[i].n
theorem rightTo_next {l : List Pr} {k : Nat} (h : RightTo l k) {p : Pr} (hp : l[k]? = some p) (h1 : PairP p) (h2 : ∀ q, 0 < k → l[k - 1]? = some q → Less q.n p.n) : RightTo l (k + 1) := by
  intro i hi hk
  by_cases e : i = k
  · subst e
    have e1 : l[i] = p := by rw [List.getElem?_eq_getElem hi] at hp; exact Option.some.inj hp
    rw [e1]
    refine ⟨h1, fun j hj e2 => h2 _ (by omega) ?_⟩
    subst e2
    rw [Nat.add_sub_cancel]
    exact List.getElem?_eq_getElem hj
  · exact h i hi (by omega)
theorem right_not {l : List Pr} {k : Nat} {p : Pr} (hp : l[k]? = some p) (h : ¬ PairP p ∨ ∃ q, 0 < k ∧ l[k - 1]? = some q ∧ ¬ Less q.n p.n) : ¬ RightP l := by
  intro hr
  obtain ⟨hi, e⟩ := List.getElem?_eq_some_iff.1 hp
  obtain ⟨h1, h2⟩ := hr.2 k hi
  rcases h with h | ⟨q, h0, hq, h⟩
  · exact h (e ▸ h1)
  · obtain ⟨hj, e2⟩ := List.getElem?_eq_some_iff.1 hq
    have := h2 (k - 1) hj (by omega)
    rw [e, e2] at this
    exact h this
theorem not_pair1 {p : Pr} (h : ¬ NameP (bl p.n)) : ¬ PairP p := fun h1 => h h1.1
theorem not_pair2 {p : Pr} (h : ¬ ValP (bl p.v)) : ¬ PairP p := fun h1 => h h1.2

set_option maxHeartbeats 1000000 in
theorem right_any (v : Value) (l : List Pr) (w : World) (hv : RdP w v l) (hf : Fit l) :
    Calls Tryz.prog 50 #[v] w fun e w' => Says (RightP l) e ∧ Below w.heap.size w w' := by
  obtain ⟨a, cap, rfl, hcap, hbig, hcell⟩ := hv.open
  have Hcell := Lib.hid hcell
  have Hf := Lib.hid hf
  clear hcell hv hf
  by_cases h16 : 16 < l.length
  · go_enter Tryz.func50, Tryz.ntmps50
    go_wp2_with fail
    go_ret
    exact ⟨says_no (fun h => by have := h.1; omega), bel_refl w⟩
  go_enter Tryz.func50, Tryz.ntmps50
  go_wp2_with fail
  go_loopw [3, 4, 10] (fun _ _ i wr => ∃ k : Nat, k ≤ l.length ∧ i = .int .i64 k ∧ Hid (RightTo l k) ∧ Hid (Below w.heap.size w wr)) (fun _ _ i _ => l.length - (intOf i).toNat)
  case atStart => exact ⟨0, by omega, rfl, Lib.hid (fun i hi hk => by omega), Lib.hid (bel_refl w)⟩
  case round =>
    obtain ⟨k, hk, rfl, HR, Hb⟩ := hrel
    by_cases hlt : k < l.length
    · obtain ⟨p, hp⟩ : ∃ x, l[k]? = some x := ⟨l[k], List.getElem?_eq_getElem hlt⟩
      obtain ⟨b, o, rfl, c1, c2⟩ := Hcell.out k p hp
      have hpf := Hf.out p (List.mem_of_getElem? hp)
      have lb := World.block_lt_of_cell? w _ c1
      have c1' : wr.cell? ⟨b, o + k * 2, none⟩ = some (.string p.n) := (Hb.out.cell (p := ⟨b, o + k * 2, none⟩) lb).trans c1
      have c2' : wr.cell? ⟨b, o + k * 2 + 1, none⟩ = some (.string p.v) := (Hb.out.cell (p := ⟨b, o + k * 2 + 1, none⟩) lb).trans c2
      have hbb : b < wr.heap.size := Nat.lt_of_lt_of_le lb Hb.out.size
      have HN := Lib.hid (fun W => name_quiet p.n hpf.1 W)
      have HV := Lib.hid (fun W => value_quiet p.v hpf.2 W)
      have HP := Lib.hid hp
      clear c1 c2 hp hpf lb
      cases hn : pb (NameP (bl p.n)) with
      | false =>
        have HX := Lib.hid (right_not HP.out (.inl (not_pair1 (of_not_pb hn))))
        rw [hn] at HN
        clear hn
        go_wp2_with fail
        go_quiet (first | (go_at_call 71; exact Calls.quiet_of_same (HN.out _)) | (go_at_call 72; exact Calls.quiet_of_same (HV.out _)))
        go_wp2_with fail
        go_ret
        exact ⟨says_no HX.out, bel_drewN (bel_alloc Hb.out) _⟩
      | true =>
        cases hv : pb (ValP (bl p.v)) with
        | false =>
          have HX := Lib.hid (right_not HP.out (.inl (not_pair2 (of_not_pb hv))))
          rw [hn] at HN
          rw [hv] at HV
          clear hn hv
          go_wp2_with fail
          go_quiet (first | (go_at_call 71; exact Calls.quiet_of_same (HN.out _)) | (go_at_call 72; exact Calls.quiet_of_same (HV.out _)))
          go_wp2_with fail
          go_ret
          exact ⟨says_no HX.out, bel_drewN (bel_alloc Hb.out) _⟩
        | true =>
          have HPP := Lib.hid (show PairP p from ⟨of_pb hn, of_pb hv⟩)
          rw [hn] at HN
          rw [hv] at HV
          clear hn hv
          by_cases hk0 : k = 0
          · have HR' := Lib.hid (rightTo_next HR.out HP.out HPP.out (fun q h => by omega))
            have Hk0 := Lib.hid hk0
            have d0 : decide (0 < (k : Int)) = false := by simp only [decide_eq_false_iff_not]; omega
            have d1 : decide (0 < k) = false := by simp only [decide_eq_false_iff_not]; omega
            clear hk0
            go_wp2_with fail
            go_quiet (first | (go_at_call 71; exact Calls.quiet_of_same (HN.out _)) | (go_at_call 72; exact Calls.quiet_of_same (HV.out _)))
            go_wp2_with fail
            go_roundw
            case rel => exact ⟨k + 1, by omega, by go_num, HR', Lib.hid (bel_drewN (bel_alloc Hb.out) _)⟩
            case measure => simp [intOf]; omega
          · obtain ⟨j, rfl⟩ : ∃ j, k = j + 1 := ⟨k - 1, by omega⟩
            obtain ⟨q, hq⟩ : ∃ x, l[j]? = some x := ⟨l[j], List.getElem?_eq_getElem (by omega)⟩
            obtain ⟨b', o', e, c3, _⟩ := Hcell.out j q hq
            cases e
            have lb := World.block_lt_of_cell? w _ c3
            have c3' : wr.cell? ⟨b, o + j * 2, none⟩ = some (.string q.n) := (Hb.out.cell (p := ⟨b, o + j * 2, none⟩) lb).trans c3
            clear c3 lb
            have HQ := Lib.hid hq
            clear hq
            have hj1 : (0 : Int) ≤ (j : Int) := by omega
            have hj2 : (j : Int) < (l.length : Int) := by omega
            cases hless : Op.bytesLess q.n.toList p.n.toList with
            | true =>
              have HR' := Lib.hid (rightTo_next HR.out HP.out HPP.out (fun q' _ h => by
                rw [Nat.add_sub_cancel, HQ.out] at h
                cases h
                exact hless))
              go_wp2_with fail
              go_quiet (first | (go_at_call 71; exact Calls.quiet_of_same (HN.out _)) | (go_at_call 72; exact Calls.quiet_of_same (HV.out _)))
              go_wp2_with fail
              go_roundw
              case rel => exact ⟨j + 1 + 1, by omega, by go_num, HR', Lib.hid (bel_drewN (bel_alloc Hb.out) _)⟩
              case measure => simp [intOf]; omega
            | false =>
              have HX := Lib.hid (right_not HP.out (.inr ⟨q, by omega, by rw [Nat.add_sub_cancel]; exact HQ.out, by unfold Less; rw [hless]; simp⟩))
              go_wp2_with fail
              go_quiet (first | (go_at_call 71; exact Calls.quiet_of_same (HN.out _)) | (go_at_call 72; exact Calls.quiet_of_same (HV.out _)))
              go_wp2_with fail
              go_ret
              exact ⟨says_no HX.out, bel_drewN (bel_alloc Hb.out) _⟩
    · obtain rfl : k = l.length := by omega
      go_wp2_with fail
      go_ret
      exact ⟨says_yes ⟨by omega, fun i hi => HR.out i hi hi⟩, Hb.out⟩

set_option maxHeartbeats 1000000 in
theorem refright_any (v : Value) (l : List Pr) (w : World) (hv : RdP w v l) (hf : Fit l) :
    Calls Tryz.prog 52 #[v] w fun e w' => Says (RightP l) e ∧ ∃ t, w' = w.drewN t := by
  obtain ⟨a, cap, rfl, hcap, hbig, hcell⟩ := hv.open
  have Hcell := Lib.hid hcell
  have Hf := Lib.hid hf
  clear hcell hv hf
  go_enter Tryz.func52, Tryz.ntmps52
  go_wp2_with fail
  go_loopw [3] (fun i wr => ∃ k : Nat, k ≤ l.length ∧ i = .int .i64 k ∧ Hid (RightTo l k) ∧ Hid (∃ t, wr = w.drewN t)) (fun i _ => l.length - (intOf i).toNat)
  case atStart => exact ⟨0, by omega, rfl, Lib.hid (fun i hi hk => by omega), Lib.hid ⟨0, rfl⟩⟩
  case round =>
    obtain ⟨k, hk, rfl, HR, HT⟩ := hrel
    have Hb : Hid (Below w.heap.size w wr) := Lib.hid (by
      obtain ⟨t, ht⟩ := HT.out
      rw [ht]
      exact bel_drewN (bel_refl w) t)
    by_cases hlt : k < l.length
    · obtain ⟨p, hp⟩ : ∃ x, l[k]? = some x := ⟨l[k], List.getElem?_eq_getElem hlt⟩
      obtain ⟨b, o, rfl, c1, c2⟩ := Hcell.out k p hp
      have hpf := Hf.out p (List.mem_of_getElem? hp)
      have lb := World.block_lt_of_cell? w _ c1
      have c1' : wr.cell? ⟨b, o + k * 2, none⟩ = some (.string p.n) := (Hb.out.cell (p := ⟨b, o + k * 2, none⟩) lb).trans c1
      have c2' : wr.cell? ⟨b, o + k * 2 + 1, none⟩ = some (.string p.v) := (Hb.out.cell (p := ⟨b, o + k * 2 + 1, none⟩) lb).trans c2
      have hk1 : (0 : Int) ≤ (k : Int) := by omega
      have hk2 : (k : Int) < (l.length : Int) := by omega
      have HN := Lib.hid (fun W => refname_quiet p.n hpf.1 W)
      have HV := Lib.hid (fun W => refvalue_quiet p.v hpf.2 W)
      have HP := Lib.hid hp
      clear c1 c2 hp hpf lb
      cases hn : pb (NameP (bl p.n)) with
      | false =>
        have HX := Lib.hid (right_not HP.out (.inl (not_pair1 (of_not_pb hn))))
        rw [hn] at HN
        clear hn
        go_wp2_with (first | (go_at_call 74; refine (HN.out _).mono ?_; rintro e w1 ⟨rfl, rfl⟩) | (go_at_call 75; refine (HV.out _).mono ?_; rintro e w1 ⟨rfl, rfl⟩) | fail)
        go_ret
        exact ⟨says_no HX.out, HT.out⟩
      | true =>
        cases hv : pb (ValP (bl p.v)) with
        | false =>
          have HX := Lib.hid (right_not HP.out (.inl (not_pair2 (of_not_pb hv))))
          rw [hn] at HN
          rw [hv] at HV
          clear hn hv
          go_wp2_with (first | (go_at_call 74; refine (HN.out _).mono ?_; rintro e w1 ⟨rfl, rfl⟩) | (go_at_call 75; refine (HV.out _).mono ?_; rintro e w1 ⟨rfl, rfl⟩) | fail)
          go_ret
          exact ⟨says_no HX.out, HT.out⟩
        | true =>
          have HPP := Lib.hid (show PairP p from ⟨of_pb hn, of_pb hv⟩)
          rw [hn] at HN
          rw [hv] at HV
          clear hn hv
          by_cases hk0 : k = 0
          · have HR' := Lib.hid (rightTo_next HR.out HP.out HPP.out (fun q h => by omega))
            have Hk0 := Lib.hid hk0
            have d0 : decide (0 < (k : Int)) = false := by simp only [decide_eq_false_iff_not]; omega
            have d1 : decide (0 < k) = false := by simp only [decide_eq_false_iff_not]; omega
            clear hk0
            go_wp2_with (first | (go_at_call 74; refine (HN.out _).mono ?_; rintro e w1 ⟨rfl, rfl⟩) | (go_at_call 75; refine (HV.out _).mono ?_; rintro e w1 ⟨rfl, rfl⟩) | fail)
            go_quiet (fail)
            go_wp2_with fail
            go_roundw
            case rel => exact ⟨k + 1, by omega, by go_num, HR', Lib.hid (by
              obtain ⟨t, ht⟩ := HT.out
              rw [ht]
              exact ⟨_, World.drewN_drewN _ _ _⟩)⟩
            case measure => simp [intOf]; omega
          · obtain ⟨j, rfl⟩ : ∃ j, k = j + 1 := ⟨k - 1, by omega⟩
            obtain ⟨q, hq⟩ : ∃ x, l[j]? = some x := ⟨l[j], List.getElem?_eq_getElem (by omega)⟩
            obtain ⟨b', o', e, c3, _⟩ := Hcell.out j q hq
            cases e
            have lb := World.block_lt_of_cell? w _ c3
            have c3' : wr.cell? ⟨b, o + j * 2, none⟩ = some (.string q.n) := (Hb.out.cell (p := ⟨b, o + j * 2, none⟩) lb).trans c3
            clear c3 lb
            have HQ := Lib.hid hq
            clear hq
            have hj1 : (0 : Int) ≤ (j : Int) := by omega
            have hj2 : (j : Int) < (l.length : Int) := by omega
            cases hless : Op.bytesLess q.n.toList p.n.toList with
            | true =>
              have HR' := Lib.hid (rightTo_next HR.out HP.out HPP.out (fun q' _ h => by
                rw [Nat.add_sub_cancel, HQ.out] at h
                cases h
                exact hless))
              go_wp2_with (first | (go_at_call 74; refine (HN.out _).mono ?_; rintro e w1 ⟨rfl, rfl⟩) | (go_at_call 75; refine (HV.out _).mono ?_; rintro e w1 ⟨rfl, rfl⟩) | fail)
              go_quiet (fail)
              go_wp2_with fail
              go_roundw
              case rel => exact ⟨j + 1 + 1, by omega, by go_num, HR', Lib.hid (by
                obtain ⟨t, ht⟩ := HT.out
                rw [ht]
                exact ⟨_, World.drewN_drewN _ _ _⟩)⟩
              case measure => simp [intOf]; omega
            | false =>
              have HX := Lib.hid (right_not HP.out (.inr ⟨q, by omega, by rw [Nat.add_sub_cancel]; exact HQ.out, by unfold Less; rw [hless]; simp⟩))
              go_wp2_with (first | (go_at_call 74; refine (HN.out _).mono ?_; rintro e w1 ⟨rfl, rfl⟩) | (go_at_call 75; refine (HV.out _).mono ?_; rintro e w1 ⟨rfl, rfl⟩) | fail)
              go_quiet (fail)
              go_wp2_with fail
              go_ret
              exact ⟨says_no HX.out, by
                obtain ⟨t, ht⟩ := HT.out
                rw [ht]
                exact ⟨_, World.drewN_drewN _ _ _⟩⟩
    · obtain rfl : k = l.length := by omega
      by_cases h16 : l.length ≤ 16
      · have d : decide ((l.length : Int) ≤ 16) = true := by simp only [decide_eq_true_eq]; omega
        go_wp2_with fail
        go_ret
        exact ⟨says_yes ⟨by omega, fun i hi => HR.out i hi hi⟩, HT.out⟩
      · have d : decide ((l.length : Int) ≤ 16) = false := by simp only [decide_eq_false_iff_not]; omega
        go_wp2_with fail
        go_ret
        exact ⟨says_no (fun h => by have := h.1; omega), HT.out⟩
end Go.Proofs.YtplieoalfbpniaaGreat
