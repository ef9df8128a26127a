/- The document's Compare of sets (70). -/
import Derived.Test.YtplieoalfbpniaaGreatDA
set_option linter.unusedVariables false
set_option linter.unusedSimpArgs false
namespace Go.Proofs.YtplieoalfbpniaaGreat
open Go.RowKit Go.Kt Go.Ix Go.Sx
set_option maxRecDepth 100000
theorem drew_some {w W : World} (h : ∃ t, W = w.drewN t) (n : Nat) : ∃ t, W.drewN n = w.drewN t := by
  obtain ⟨t, rfl⟩ := h
  exact ⟨_, World.drewN_drewN _ _ _⟩
set_option maxHeartbeats 2000000 in
theorem compare_all (v u : Value) (l m : List Pr) (w : World) (hv : RdP w v l) (hu : RdP w u m) :
    Calls Tryz.prog 70 #[v, u] w fun e w' => e = .returned (.int .i64 (cmpS l m)) ∧ ∃ t, w' = w.drewN t := by
  obtain ⟨a, cap, rfl, hcap, hbig, hcell⟩ := hv.open
  obtain ⟨a2, cap2, rfl, hcap2, hbig2, hcell2⟩ := hu.open
  have Hcell := Lib.hid hcell
  have Hcell2 := Lib.hid hcell2
  generalize hz : cmpS l m = Z
  have HZ := Lib.hid hz
  clear hcell hv hcell2 hu hz
  go_enter Tryz.func70, Tryz.ntmps70
  go_wp2_with fail
  go_loopw [5] (fun i wr => ∃ k : Nat, k ≤ l.length ∧ k ≤ m.length ∧ i = .int .i64 k ∧ Hid (Z = cmpS (l.drop k) (m.drop k)) ∧ Hid (∃ t, wr = w.drewN t)) (fun i _ => l.length - (intOf i).toNat)
  case atStart => exact ⟨0, by omega, by omega, rfl, Lib.hid HZ.out.symm, Lib.hid ⟨0, rfl⟩⟩
  case round =>
    obtain ⟨k, hk, hkm, rfl, HE, HT⟩ := hrel
    have Hb : Hid (Below w.heap.size w wr) := Lib.hid (by
      obtain ⟨t, ht⟩ := HT.out
      rw [ht]
      exact bel_drewN (bel_refl w) t)
    by_cases hlt : k < l.length
    · by_cases hlm : k < m.length
      · obtain ⟨p, hp⟩ : ∃ x, l[k]? = some x := ⟨l[k], List.getElem?_eq_getElem hlt⟩
        obtain ⟨q, hq⟩ : ∃ x, m[k]? = some x := ⟨m[k], List.getElem?_eq_getElem hlm⟩
        obtain ⟨b, o, rfl, c1, c2⟩ := Hcell.out k p hp
        obtain ⟨b2, o2, rfl, d1, d2⟩ := Hcell2.out k q hq
        have lb := World.block_lt_of_cell? w _ c1
        have ld := World.block_lt_of_cell? w _ d1
        have c1' : wr.cell? ⟨b, o + k * 2, none⟩ = some (.string p.n) := (Hb.out.cell (p := ⟨b, o + k * 2, none⟩) lb).trans c1
        have c2' : wr.cell? ⟨b, o + k * 2 + 1, none⟩ = some (.string p.v) := (Hb.out.cell (p := ⟨b, o + k * 2 + 1, none⟩) lb).trans c2
        have d1' : wr.cell? ⟨b2, o2 + k * 2, none⟩ = some (.string q.n) := (Hb.out.cell (p := ⟨b2, o2 + k * 2, none⟩) ld).trans d1
        have d2' : wr.cell? ⟨b2, o2 + k * 2 + 1, none⟩ = some (.string q.v) := (Hb.out.cell (p := ⟨b2, o2 + k * 2 + 1, none⟩) ld).trans d2
        have hk1 : (0 : Int) ≤ (k : Int) := by omega
        have hk2 : (k : Int) < (l.length : Int) := by omega
        have hk3 : (k : Int) < (m.length : Int) := by omega
        have HX : Hid (Z = if p.n ≠ q.n then (if Op.bytesLess p.n.toList q.n.toList = true then -1 else 1) else if p.v ≠ q.v then (if Op.bytesLess p.v.toList q.v.toList = true then -1 else 1) else cmpS (l.drop (k + 1)) (m.drop (k + 1))) := Lib.hid (by
          obtain ⟨h1, e1⟩ := List.getElem?_eq_some_iff.1 hp
          obtain ⟨h2, e2⟩ := List.getElem?_eq_some_iff.1 hq
          rw [HE.out, List.drop_eq_getElem_cons h1, List.drop_eq_getElem_cons h2, e1, e2, cmpS_cons])
        clear c1 c2 d1 d2 lb ld hp hq
        by_cases hn : p.n = q.n
        · by_cases hvv : p.v = q.v
          · have HX2 : Hid (Z = cmpS (l.drop (k + 1)) (m.drop (k + 1))) := Lib.hid (by rw [HX.out, if_neg (by simpa using hn), if_neg (by simpa using hvv)])
            rw [← hn] at d1'
            rw [← hvv] at d2'
            clear hn hvv HX
            go_wp2_with fail
            go_quiet (fail)
            go_wp2_with fail
            go_quiet (fail)
            go_wp2_with fail
            go_roundw
            case rel => exact ⟨k + 1, by omega, by omega, by go_num, HX2, Lib.hid (by repeat (first | exact HT.out | apply drew_some))⟩
            case measure => simp [intOf]; omega
          · have hvb : (p.v.toList == q.v.toList) = false := by
              rw [beq_eq_false_iff_ne]
              exact fun e => hvv (toList_inj e)
            have HX2 : Hid (Z = if Op.bytesLess p.v.toList q.v.toList = true then -1 else 1) := Lib.hid (by rw [HX.out, if_neg (by simpa using hn), if_pos hvv])
            rw [← hn] at d1'
            clear hn hvv HX
            cases hl : Op.bytesLess p.v.toList q.v.toList with
            | true =>
              have HX3 : Hid (Z = -1) := Lib.hid (by rw [HX2.out, if_pos hl])
              go_wp2_with fail
              go_quiet (fail)
              go_wp2_with fail
              go_quiet (fail)
              go_wp2_with fail
              go_quiet (fail)
              go_wp2_with fail
              go_ret
              exact ⟨(by rw [HX3.out]; rfl), by repeat (first | exact HT.out | apply drew_some)⟩
            | false =>
              have HX3 : Hid (Z = 1) := Lib.hid (by rw [HX2.out, hl]; rfl)
              go_wp2_with fail
              go_quiet (fail)
              go_wp2_with fail
              go_quiet (fail)
              go_wp2_with fail
              go_quiet (fail)
              go_wp2_with fail
              go_ret
              exact ⟨(by rw [HX3.out]; rfl), by repeat (first | exact HT.out | apply drew_some)⟩
        · have hnb : (p.n.toList == q.n.toList) = false := by
            rw [beq_eq_false_iff_ne]
            exact fun e => hn (toList_inj e)
          have HX2 : Hid (Z = if Op.bytesLess p.n.toList q.n.toList = true then -1 else 1) := Lib.hid (by rw [HX.out, if_pos hn])
          clear hn HX
          cases hl : Op.bytesLess p.n.toList q.n.toList with
          | true =>
            have HX3 : Hid (Z = -1) := Lib.hid (by rw [HX2.out, if_pos hl])
            go_wp2_with fail
            go_quiet (fail)
            go_wp2_with fail
            go_quiet (fail)
            go_wp2_with fail
            go_ret
            exact ⟨(by rw [HX3.out]; rfl), by repeat (first | exact HT.out | apply drew_some)⟩
          | false =>
            have HX3 : Hid (Z = 1) := Lib.hid (by rw [HX2.out, hl]; rfl)
            go_wp2_with fail
            go_quiet (fail)
            go_wp2_with fail
            go_quiet (fail)
            go_wp2_with fail
            go_ret
            exact ⟨(by rw [HX3.out]; rfl), by repeat (first | exact HT.out | apply drew_some)⟩
      · have d1 : decide ((k : Int) < (m.length : Int)) = false := by simp only [decide_eq_false_iff_not]; omega
        have d2 : decide (m.length < l.length) = true := by simp only [decide_eq_true_eq]; omega
        have HX3 : Hid (Z = 1) := Lib.hid (by rw [HE.out, List.drop_of_length_le (l := m) (by omega), List.drop_eq_getElem_cons hlt]; rfl)
        go_wp2_with fail
        go_ret
        exact ⟨(by rw [HX3.out]; rfl), HT.out⟩
    · obtain rfl : k = l.length := by omega
      by_cases hlm : l.length < m.length
      · have HX3 : Hid (Z = -1) := Lib.hid (by rw [HE.out, List.drop_of_length_le (l := l) (by omega), List.drop_eq_getElem_cons hlm]; rfl)
        go_wp2_with fail
        go_ret
        exact ⟨(by rw [HX3.out]; rfl), HT.out⟩
      · have hme : m.length = l.length := by omega
        have HX3 : Hid (Z = 0) := Lib.hid (by rw [HE.out, List.drop_of_length_le (l := l) (by omega), List.drop_of_length_le (l := m) (by omega)]; rfl)
        have Hme := Lib.hid hme
        rw [hme]
        clear hme hlm
        go_wp2_with fail
        go_ret
        exact ⟨(by rw [HX3.out]; rfl), HT.out⟩
end Go.Proofs.YtplieoalfbpniaaGreat
