/- Index.Add (25): no index, no set, a set that is there. -/
import Derived.Test.YtmmilgcbjpbelaaWE
import Derived.Test.YtmmilgcbjpbelaaWC
namespace Go.Proofs.Ytmmilgcbjpbelaa
open Go.RowKit Go.Kt Go.Ix

variable {F : Nat → Prop} {w w' : World} {g bm pm : Nat} {sv : Value} {us : List Value} {bf : Lit → Option Value} {Q : Post} {D : List (List Pr)} {E : List Ent}
theorem right_cost {d : List Pr} (h : RightP d) : cost d ≤ 99 * d.length := by
  have key : ∀ l : List Pr, (∀ p ∈ l, p.n.size ≤ 32 ∧ p.v.size ≤ 64) → cost l ≤ 99 * l.length := by
    intro l
    induction l with
    | nil => intro _; exact Nat.le_refl _
    | cons p t ih =>
      intro hl
      have h1 := hl p (by simp)
      have h2 := ih (fun q hq => hl q (by simp [hq]))
      simp only [cost, List.length_cons]
      omega
  refine key d (fun p hp => ?_)
  obtain ⟨i, hi, rfl⟩ := List.mem_iff_getElem.1 hp
  have h1 := (h.2 i hi).1
  have h2 := h1.1.2.1
  have h3 := h1.2.2.1
  rw [bl_len] at h2 h3
  exact ⟨h2, h3⟩
theorem right_text_len {d : List Pr} (h : RightP d) : (textL d).length ≤ 6400 := by
  have h1 := right_cost h
  have h2 := textL_cost d
  have h3 := h.1
  omega
theorem right_fit {d : List Pr} (h : RightP d) : Fit d := by
  intro p hp
  obtain ⟨i, hi, rfl⟩ := List.mem_iff_getElem.1 hp
  have h1 := (h.2 i hi).1
  have h2 := h1.1.2.1
  have h3 := h1.2.2.1
  rw [bl_len] at h2 h3
  simp only [maxLen]
  omega
theorem zero3 (w : World) : (zeroValue 3).run Try.prog w = .ok (.int .i64 0) w := by kernel_rfl
theorem kl_text (d : List Pr) : kl (mkS (textL d)) = .string (textL d) := by unfold kl mkS; rw [bl_mk]
theorem IdxAt.find_yes (h : IdxAt F w g sv us bm pm bf Q D E) {i : Nat} {d : List Pr} (hd : D[i]? = some d) : bf (.string (textL d)) = some (.int .i64 (i : Int)) := (h.byD _ _).2 ⟨i, d, hd, rfl, rfl⟩
theorem IdxAt.find_no (h : IdxAt F w g sv us bm pm bf Q D E) {d : List Pr} (hr : RightP d) (hd : d ∉ D) : bf (.string (textL d)) = none := by
  cases hf : bf (.string (textL d)) with
  | none => rfl
  | some v =>
    obtain ⟨i, d', hd', e, _⟩ := (h.byD _ _).1 hf
    injection e with e
    have := right_text hr (h.ok d' (List.mem_of_getElem? hd')) e
    subst this
    exact absurd (List.mem_of_getElem? hd') hd

theorem add_nil (v : Value) (w : World) (hv : v.oneCell' = true) : Calls Try.prog 25 #[.pointer none, v] w fun e w' => e = .returned (.tuple #[.int .i64 0, .int .i64 2]) ∧ w = w' := by
  go_enter Try.func25, Try.ntmps25
  go_wp2_with fail
  refine bodyPost_ret (v := .tuple #[.int .i64 0, .int .i64 2]) (by simp [results, Try.results25, go_sem, *]) rfl ?_
  exact ⟨rfl, rfl⟩

set_option maxHeartbeats 1000000 in
theorem add_bad (v : Value) (d : List Pr) (g : Nat) (w : World) (hv : RdP w v d) (hf : Fit d) (hr : ¬ RightP d) :
    Calls Try.prog 25 #[.pointer (some ⟨g, 0, none⟩), v] w fun e w' => e = .returned (.tuple #[.int .i64 0, .int .i64 40]) ∧ Below w.heap.size w w' := by
  obtain ⟨a, c, rfl, _⟩ := hv.open
  have HV := Lib.hid hv
  have HF := Lib.hid hf
  have HR := Lib.hid (pb_no hr)
  clear hv hf hr
  go_enter Try.func25, Try.ntmps25
  go_wp2_with (first | (go_at_call 44; refine (right_any (.slice a d.length c) d _ HV.out HF.out).mono ?_; rintro e w3 ⟨he, hb3⟩; obtain rfl := says_pb he; rw [HR.out]; have HB3 := Lib.hid hb3; clear he hb3) | fail)
  refine bodyPost_ret (v := .tuple #[.int .i64 0, .int .i64 40]) (by simp [results, Try.results25, go_sem, *]) rfl ?_
  exact ⟨rfl, HB3.out⟩

set_option maxHeartbeats 1000000 in
theorem add_old (v : Value) (d : List Pr) (i : Nat) (w : World) (h : Idx F w g D) (hv : RdP w v d) (hd : D[i]? = some d) :
    Calls Try.prog 25 #[.pointer (some ⟨g, 0, none⟩), v] w fun e w' => e = .returned (.tuple #[.int .i64 (i : Int), .int .i64 0]) ∧ Below w.heap.size w w' := by
  obtain ⟨sv, us, bm, pm, bf, Q, h, _⟩ := h
  obtain ⟨a, c, rfl, _⟩ := hv.open
  have hr := h.ok d (List.mem_of_getElem? hd)
  have HI := Lib.hid h
  have HV := Lib.hid hv
  have HRt := Lib.hid hr
  have HR := Lib.hid (pb_yes hr)
  have HFi := Lib.hid (h.find_yes hd)
  clear hv hr h hd
  go_enter Try.func25, Try.ntmps25
  go_wp2_with (first
    | (go_at_call 44; refine (right_any (.slice a d.length c) d _ HV.out (right_fit HRt.out)).mono ?_; rintro e w3 ⟨he, hb3⟩; obtain rfl := says_pb he; rw [HR.out]; have HB3 := Lib.hid hb3; clear he hb3)
    | (go_at_call 32; refine (text_any (.slice a d.length c) d _ (HV.out.below HB3.out) (by have := HRt.out.1; omega) (by have := right_text_len HRt.out; omega)).mono ?_; rintro e w4 ⟨rfl, hb4⟩; have HB4 := Lib.hid (bel_trans HB3.out hb4); have hI4 := HI.out.next HB4.out; have k1 : w4.cell? ⟨g, 1, none⟩ = some (.map (some bm)) := hI4.blk.cell 1; have hlook := hI4.by_.look key9 Try.underlying100 (zero3 w4) (keyOf9 (mkS (textL d)) (by rw [mkS_size]; have := right_text_len HRt.out; simp only [maxLen]; omega)); rw [kl_text, HFi.out] at hlook; simp only [Option.getD, Option.isSome] at hlook; clear hb4 hI4)
    | fail)
  refine bodyPost_ret (v := .tuple #[.int .i64 (i : Int), .int .i64 0]) (by simp [results, Try.results25, go_sem, *]) rfl ?_
  exact ⟨rfl, HB4.out⟩
end Go.Proofs.Ytmmilgcbjpbelaa
