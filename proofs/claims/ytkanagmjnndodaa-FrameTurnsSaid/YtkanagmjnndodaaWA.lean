/- The contracts of From (function 20) and Same (function 19): pieces as the document's; are two slices of pieces the same? -/
import Derived.Test.YtkanagmjnndodaaW9
namespace Go.Proofs.Ytkanagmjnndodaa
open Go.RowKit Go.Kt

/-- the form in which a walk reads pieces -/
theorem rdPcs_open {w : World} {v : Value} {T : List Pc} (h : RdRow 2 w v T.length (cellsOf T)) : ∃ a cap, v = .slice a T.length cap ∧ T.length ≤ cap ∧ cap ≤ maxLen ∧
    ∀ (i : Nat) (x : Pc), T[i]? = some x → ∃ b o, a = some ⟨b, o, none⟩ ∧ w.cell? ⟨b, o + i * 2, none⟩ = some (.int .u8 (x.1.toNat : Int)) ∧ w.cell? ⟨b, o + i * 2 + 1, none⟩ = some x.2.1 := by
  obtain ⟨_, a, cap, rfl, h1, h2, _, h5⟩ := h
  refine ⟨a, cap, rfl, h1, h2, fun i x hi => ?_⟩
  obtain ⟨c1, c2⟩ := cellsOf_get T i x hi
  obtain ⟨b, o, rfl, hc⟩ := h5 _ _ c1
  obtain ⟨b', o', e, hc'⟩ := h5 _ _ c2
  cases e
  exact ⟨b, o, rfl, hc, by rw [Nat.add_assoc]; exact hc'⟩
theorem cellsOf_take (T : List Pc) (k : Nat) (x : Pc) (h : T[k]? = some x) : cellsOf (T.take (k + 1)) = cellsOf (T.take k) ++ [by8 x.1, x.2.1] := by
  obtain ⟨hk, rfl⟩ := List.getElem?_eq_some_iff.1 h
  rw [List.take_succ_eq_append_getElem hk, cellsOf_append]; rfl

set_option maxHeartbeats 1000000 in
theorem from_any (v : Value) (ps : List (UInt8 × List UInt8)) (w : World) (hv : RdPcs w v ps) (hlen : ps.length < 1000000000) :
    Calls Try.prog 20 #[v] w fun e w' => ∃ v', e = .returned v' ∧ RdPcs w' v' ps ∧ Below w.heap.size w w' := by
  obtain ⟨T, hT, hrow, hbod⟩ := hv
  have hTl : T.length < 1000000000 := by rw [← hT] at hlen; simpa [plain] using hlen
  clear hlen
  obtain ⟨a, cap, rfl, hcap, hbig, hcell⟩ := rdPcs_open hrow
  have Hbod := Lib.hid hbod
  have Hcell := Lib.hid hcell
  have HT := Lib.hid hT
  unfold maxLen at hbig
  clear hcell hbod hrow hT
  go_enter Try.func20, Try.ntmps20
  go_wp2_with fail
  go_loopw [3, 5, 8] (fun out _ i wr => ∃ k : Nat, k ≤ T.length ∧ i = .int .i64 k ∧ Hid (Own 48 2 wr out k (cellsOf (T.take k))) ∧ Hid (∀ b, out.ownBlock = some b → w.heap.size ≤ b) ∧ Hid (Below w.heap.size w wr)) (fun _ _ i _ => T.length - (intOf i).toNat)
  case atStart => exact ⟨0, by omega, rfl, Lib.hid (by simpa [cellsOf] using own_nil w 48 2), Lib.hid (fun b hb => by cases hb), Lib.hid (Below.refl _ _)⟩
  case round =>
    obtain ⟨k, hk, rfl, Ho, Hob, Hb⟩ := hrel
    by_cases hlt : k < T.length
    · obtain ⟨x, hx⟩ : ∃ x, T[k]? = some x := ⟨T[k], List.getElem?_eq_getElem hlt⟩
      obtain ⟨b, o, rfl, c1, c2⟩ := Hcell.out k x hx
      have Htk := Lib.hid (cellsOf_take T k x hx)
      have lb := World.block_lt_of_cell? w _ c1
      have c1' : wr.cell? ⟨b, o + k * 2, none⟩ = some (.int .u8 (x.1.toNat : Int)) := (Hb.out.cell (p := ⟨b, o + k * 2, none⟩) lb).trans c1
      have c2' : wr.cell? ⟨b, o + k * 2 + 1, none⟩ = some x.2.1 := (Hb.out.cell (p := ⟨b, o + k * 2 + 1, none⟩) lb).trans c2
      obtain ⟨xa, xc, hxv, -⟩ := (Hbod.out x (List.mem_of_getElem? hx)).open
      generalize hxx : x.2.1 = xv at *
      subst hxv
      clear c1 c2 hx
      have Hxx := Lib.hid hxx
      clear hxx
      generalize hkk : x.1 = kk at *
      have Hkk := Lib.hid hkk
      clear hkk
      go_wp2_with (at_builtin; apply Hold.mk)
      unfold Hold
      have B2 : Below wr.heap.size wr ((wr.alloc (.cells #[.int .u8 (kk.toNat : Int), .slice xa x.2.2.length xc] 52)).alloc (.cells #[.int .u8 (kk.toNat : Int), .slice xa x.2.2.length xc] 48)) := ((Below.refl _ _).alloc (Nat.le_refl _) _).alloc (by simp) _
      have o2 := own_lit (wr.alloc (.cells #[.int .u8 (kk.toNat : Int), .slice xa x.2.2.length xc] 52)) 48 2 #[by8 kk, .slice xa x.2.2.length xc] 1 (by simp [maxLen]) rfl
      simp only [World.size_alloc] at o2
      refine wpList_app rfl _ _ 41 rfl ok41 (by rfl) (by rfl) (Ho.out.below' B2) o2.rd ?_ (by simp only [maxLen]; omega) (by omega) ?_
      · intro u hu
        simp at hu
        rcases hu with rfl | rfl <;> rfl
      intro v' w' h2 h3 h4
      have Ho2 : Hid (Own 48 2 w' v' (k + 1) (cellsOf (T.take (k + 1)))) := Lib.hid (by rw [Htk.out]; exact h2)
      have Hob2 : Hid (∀ b, v'.ownBlock = some b → w.heap.size ≤ b) := Lib.hid (fun b hb => (h4 b hb).elim (Hob.out b) (fun h => by have := Hb.out.size; simp at h; omega))
      have Hb2 : Hid (Below w.heap.size w w') := Lib.hid ((Hb.out.trans (B2.mono Hb.out.size)).grown h3 (by have := Hb.out.size; simp; omega) (fun b hb => Hob.out b hb))
      clear h2 h3 h4 B2 o2 Ho Hob Hb c1' c2'
      go_wp2_with fail
      go_roundw
      case rel => exact ⟨k + 1, by omega, by go_num, Ho2, Hob2, Hb2⟩
      case measure => simp [intOf]; omega
    · obtain rfl : k = T.length := by omega
      go_wp2_with fail
      go_ret
      refine ⟨_, rfl, ⟨T, HT.out, ?_, fun x hx => (Hbod.out x hx).below Hb.out⟩, Hb.out⟩
      have := Ho.out.rd
      rw [List.take_length] at this
      exact this

theorem plain_get (T : List Pc) (i : Nat) (x : Pc) (h : T[i]? = some x) : (plain T)[i]? = some (x.1, x.2.2) := by
  simp [plain, h]
theorem below_drewN2 (w : World) (n m : Nat) : Below w.heap.size w ((w.drewN n).drewN m) := ⟨rfl, rfl, rfl, Nat.le_refl _, fun _ _ => rfl⟩

set_option maxHeartbeats 2000000 in
theorem same_any (v1 v2 : Value) (ps qs : List (UInt8 × List UInt8)) (w : World) (hv1 : RdPcs w v1 ps) (hv2 : RdPcs w v2 qs) :
    Calls Try.prog 19 #[v1, v2] w fun e w' => e = .returned (.bool (decide (ps = qs))) ∧ Below w.heap.size w w' := by
  obtain ⟨T, hT, hrow, hbod⟩ := hv1
  obtain ⟨S, hS, hrow', hbod'⟩ := hv2
  have HT := Lib.hid hT
  have HS := Lib.hid hS
  clear hT hS
  obtain ⟨a, cap, rfl, hcap, hbig, hcell⟩ := rdPcs_open hrow
  obtain ⟨a', cap', rfl, hcap', hbig', hcell'⟩ := rdPcs_open hrow'
  have Hbod := Lib.hid hbod
  have Hcell := Lib.hid hcell
  have Hbod' := Lib.hid hbod'
  have Hcell' := Lib.hid hcell'
  unfold maxLen at hbig hbig'
  clear hcell hbod hrow hcell' hbod' hrow'
  generalize hans : decide (ps = qs) = ans
  have Hans := Lib.hid hans
  clear hans
  by_cases hne : T.length = S.length
  case neg =>
    have Ha : Hid (ans = false) := Lib.hid (by
      rw [← Hans.out, decide_eq_false_iff_not]
      intro h
      have := congrArg List.length h
      rw [← HT.out, ← HS.out] at this
      simp [plain] at this
      exact hne this)
    have ht : ((T.length : Int) != (S.length : Int)) = true := by rw [bne_iff_ne]; omega
    clear hne
    go_enter Try.func19, Try.ntmps19
    go_wp2_with fail
    go_ret
    exact ⟨by rw [Ha.out]; rfl, Below.refl _ _⟩
  have Hne := Lib.hid hne
  have ht : ((T.length : Int) != (S.length : Int)) = false := by rw [hne]; simp
  have hSl : S.length ≤ T.length := by omega
  have hTl : T.length ≤ S.length := by omega
  clear hne
  go_enter Try.func19, Try.ntmps19
  go_wp2_with fail
  go_loopw [5] (fun i wr => ∃ k : Nat, k ≤ T.length ∧ i = .int .i64 k ∧ (∃ q, wr = w.drewN q) ∧ Hid (∀ i, i < k → ps[i]? = qs[i]?)) (fun i _ => T.length - (intOf i).toNat)
  case atStart => exact ⟨0, by omega, rfl, ⟨0, rfl⟩, Lib.hid (by intro i hi; omega)⟩
  case round =>
    obtain ⟨k, hk, rfl, ⟨q, rfl⟩, Hk⟩ := hrel
    by_cases hlt : k < T.length
    · obtain ⟨x, hx⟩ : ∃ x, T[k]? = some x := ⟨T[k], List.getElem?_eq_getElem hlt⟩
      obtain ⟨y, hy⟩ : ∃ y, S[k]? = some y := ⟨S[k], List.getElem?_eq_getElem (by omega)⟩
      obtain ⟨b, o, rfl, c1, c2⟩ := Hcell.out k x hx
      obtain ⟨b', o', rfl, c1', c2'⟩ := Hcell'.out k y hy
      have sx := fun n => run_str8 (P := Try.prog) (dst := 9) Try.underlying23 Try.underlying5 Try.underlying9 ((Hbod.out x (List.mem_of_getElem? hx)).drewN n)
      have sy := fun n => run_str8 (P := Try.prog) (dst := 9) Try.underlying23 Try.underlying5 Try.underlying9 ((Hbod'.out y (List.mem_of_getElem? hy)).drewN n)
      have px := plain_get T k x hx
      have py := plain_get S k y hy
      rw [HT.out] at px
      rw [HS.out] at py
      clear hx hy
      have hi1 : (k : Int) < ↑T.length := by omega
      have hi2 : (k : Int) < ↑S.length := by omega
      have Hb8 := Lib.hid (bne8 x.1 y.1 _ rfl)
      generalize x.1 = kx at *
      generalize y.1 = ky at *
      generalize x.2.1 = vx at *
      generalize y.2.1 = vy at *
      generalize x.2.2 = lx at *
      generalize y.2.2 = ly at *
      have Hpx := Lib.hid px
      have Hpy := Lib.hid py
      clear px py
      by_cases hkk : kx = ky
      · have hd : ((kx.toNat : Int) != (ky.toNat : Int)) = false := by rw [Hb8.out, hkk]; simp
        by_cases hll : lx = ly
        · have hd2 : (lx == ly) = true := by simpa using hll
          have Hnext : Hid (∀ i, i < k + 1 → ps[i]? = qs[i]?) := Lib.hid (by
            intro i hi
            by_cases hik : i = k
            · rw [hik, Hpx.out, Hpy.out, hkk, hll]
            · exact Hk.out i (by omega))
          clear hkk hll
          go_wp2_with fail
          go_quiet (fail)
          go_wp2_with fail
          go_roundw
          case rel => exact ⟨k + 1, by omega, by go_num, ⟨_, rfl⟩, Hnext⟩
          case measure => simp [intOf]; omega
        · have hd2 : (lx == ly) = false := by simpa using hll
          have Ha : Hid (ans = false) := Lib.hid (by
            rw [← Hans.out, decide_eq_false_iff_not]
            intro h
            rw [h, Hpy.out] at Hpx
            have := Hpx.out
            simp only [Option.some.injEq, Prod.mk.injEq] at this
            exact hll this.2.symm)
          clear hkk hll
          go_wp2_with fail
          go_quiet (fail)
          go_wp2_with fail
          go_ret
          exact ⟨by rw [Ha.out]; rfl, below_drewN2 _ _ _⟩
      · have hd : ((kx.toNat : Int) != (ky.toNat : Int)) = true := by rw [Hb8.out]; simpa using hkk
        have Ha : Hid (ans = false) := Lib.hid (by
          rw [← Hans.out, decide_eq_false_iff_not]
          intro h
          rw [h, Hpy.out] at Hpx
          have := Hpx.out
          simp only [Option.some.injEq, Prod.mk.injEq] at this
          exact hkk this.1.symm)
        clear hkk
        go_wp2_with fail
        go_quiet (fail)
        go_wp2_with fail
        go_ret
        exact ⟨by rw [Ha.out]; rfl, below_drewN2 _ _ _⟩
    · obtain rfl : k = T.length := by omega
      have Ha : Hid (ans = true) := Lib.hid (by
        rw [← Hans.out, decide_eq_true_iff]
        apply List.ext_getElem?
        intro i
        by_cases hi : i < T.length
        · exact Hk.out i hi
        · rw [← HT.out, ← HS.out, List.getElem?_eq_none (by simp [plain]; omega), List.getElem?_eq_none (by simp [plain]; omega)])
      go_wp2_with fail
      go_ret
      exact ⟨by rw [Ha.out]; rfl, below_drewN _ _⟩
end Go.Proofs.Ytkanagmjnndodaa
