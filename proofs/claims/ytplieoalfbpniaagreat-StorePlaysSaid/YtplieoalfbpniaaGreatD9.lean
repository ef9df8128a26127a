/- The document's Right of a write (26). -/
import Derived.Test.YtplieoalfbpniaaGreatD8
set_option linter.unusedVariables false
set_option linter.unusedSimpArgs false
namespace Go.Proofs.YtplieoalfbpniaaGreat
open Go.RowKit Go.Kt Go.Ix Go.Sx
set_option maxRecDepth 100000
set_option maxHeartbeats 1000000 in
theorem rrightw_any (m : Wr) (w : World) (hv : RdP w m.sv m.st) (hf : Fit m.st) (hx : m.x.size ≤ maxLen) :
    Calls Tryz.prog 26 #[wagg m] w fun e w' => e = .returned (.bool (pb (RightW m))) ∧ Below w.heap.size w w' := by
  obtain ⟨st, t, k, n, x, sv⟩ := m
  simp only at hv hf hx
  obtain ⟨a, cap, rfl, _⟩ := hv.open
  have HR := Lib.hid (fun (W : World) (h : Below w.heap.size w W) => (refright_any (.slice a st.length cap) st W (hv.below h) hf).mono (fun _ _ (h : _ ∧ _) => And.intro (says_pb h.1) (by obtain ⟨t, rfl⟩ := h.2; exact bel_drewN (bel_refl W) t)))
  have HV := Lib.hid (fun W => rverR_any ⟨⟨0, 0, 0⟩, k, n, x⟩ W hx)
  have HP : Hid (RightW ⟨st, t, k, n, x, .slice a st.length cap⟩ ↔ RightP st ∧ 0 ≤ t ∧ t ≤ 4611686018427387904 ∧ verR ⟨⟨0, 0, 0⟩, k, n, x⟩) := Lib.hid Iff.rfl
  generalize hP : RightW ⟨st, t, k, n, x, .slice a st.length cap⟩ = P at HP ⊢
  clear hP hv hf
  generalize hr : pb (RightP st) = r at HR
  have Hr := Lib.hid hr
  clear hr
  unfold wagg Ver.val at *
  simp only at *
  generalize hd : decide (verR ⟨⟨0, 0, 0⟩, k, n, x⟩) = d at HV
  have Hd := Lib.hid hd
  clear hd
  have blk := Lib.hid (Blk.new w #[.slice a st.length cap, .int .i64 t, .int .i64 k, .int .i64 n, .string x] 43)
  cases r with
  | false =>
    have HE : Hid (pb P = false) := Lib.hid (pb_no (fun h => of_not_pb Hr.out (HP.out.1 h).1))
    go_enter Tryz.func26, Tryz.ntmps26
    go_wp2_with (first | (go_at_call 52; refine (HR.out _ (below_alloc w _)).mono ?_; rintro e w2 ⟨rfl, hb2⟩; have HB2 := Lib.hid (bel_trans (below_alloc w _) hb2); clear hb2) | fail)
    go_ret
    exact ⟨ret_bool HE.out.symm, HB2.out⟩
  | true =>
    by_cases h1 : 0 ≤ t
    · by_cases h2 : t ≤ 4611686018427387904
      · have HE : Hid (pb P = d) := Lib.hid (by
          cases d with
          | true => exact pb_yes (HP.out.2 ⟨of_pb Hr.out, h1, h2, of_decide_eq_true Hd.out⟩)
          | false => exact pb_no (fun h => of_decide_eq_false Hd.out (HP.out.1 h).2.2.2))
        go_enter Tryz.func26, Tryz.ntmps26
        go_wp2_with (first
          | (go_at_call 52; refine (HR.out _ (below_alloc w _)).mono ?_; rintro e w2 ⟨rfl, hb2⟩; have HB2 := Lib.hid (bel_trans (below_alloc w _) hb2); have hx := blk.out.next hb2; have x1 : w2.cell? ⟨w.heap.size, 1, none⟩ = some (.int .i64 t) := hx.cell 1; have x2 : w2.cell? ⟨w.heap.size, 2, none⟩ = some (.int .i64 k) := hx.cell 2; have x3 : w2.cell? ⟨w.heap.size, 3, none⟩ = some (.int .i64 n) := hx.cell 3; have x4 : w2.cell? ⟨w.heap.size, 4, none⟩ = some (.string x) := hx.cell 4; clear hb2 hx)
          | (go_at_call 53; refine (HV.out _).mono ?_; rintro e w3 ⟨rfl, hb3⟩; have HB3 := Lib.hid (bel_trans HB2.out hb3); clear hb3)
          | fail)
        go_ret
        exact ⟨ret_bool HE.out.symm, HB3.out⟩
      · have HE : Hid (pb P = false) := Lib.hid (pb_no (fun h => h2 (HP.out.1 h).2.2.1))
        have h3' : decide (t ≤ 4611686018427387904) = false := by simpa using h2
        go_enter Tryz.func26, Tryz.ntmps26
        go_wp2_with (first
          | (go_at_call 52; refine (HR.out _ (below_alloc w _)).mono ?_; rintro e w2 ⟨rfl, hb2⟩; have HB2 := Lib.hid (bel_trans (below_alloc w _) hb2); have hx := blk.out.next hb2; have x1 : w2.cell? ⟨w.heap.size, 1, none⟩ = some (.int .i64 t) := hx.cell 1; clear hb2 hx)
          | fail)
        go_ret
        exact ⟨ret_bool HE.out.symm, HB2.out⟩
    · have HE : Hid (pb P = false) := Lib.hid (pb_no (fun h => h1 (HP.out.1 h).2.1))
      have h3' : decide (0 ≤ t) = false := by simpa using h1
      go_enter Tryz.func26, Tryz.ntmps26
      go_wp2_with (first
        | (go_at_call 52; refine (HR.out _ (below_alloc w _)).mono ?_; rintro e w2 ⟨rfl, hb2⟩; have HB2 := Lib.hid (bel_trans (below_alloc w _) hb2); have hx := blk.out.next hb2; have x1 : w2.cell? ⟨w.heap.size, 1, none⟩ = some (.int .i64 t) := hx.cell 1; clear hb2 hx)
        | fail)
      go_ret
      exact ⟨ret_bool HE.out.symm, HB2.out⟩
end Go.Proofs.YtplieoalfbpniaaGreat
