/- sealed (27), whole (24), the document's Whole (36). -/
import Derived.Test.YtokmiphgalpahaaPX
import Derived.Test.YtokmiphgalpahaaV1
namespace Go.Proofs.Ytokmiphgalpahaa
open Go.RowKit Go.Kt
set_option maxRecDepth 100000
variable {w w' w0 W : World}

theorem ok22 : ElemOk Try.prog 22 5 (.int .u8 0) 1 1 := ⟨Try.underlying22, info_parts (by kernel_rfl), rfl, by decide⟩
theorem sealed_any (k : UInt8) (v : Value) (l : List UInt8) (w : World) (hv : Rd8 w v l) (hshort : l.length ≤ 1048576) :
    Calls Try.prog 27 #[by8 k, v] w fun e w' => ∃ v', e = .returned v' ∧ Mine8 5 w w' v' (Fm.Fr.sealed k l) ∧ Below w.heap.size w w' := by
  have H := Lib.hid hv
  clear hv
  have HC : Hid (∀ W, Rd8 W v l → Calls Try.prog 51 #[by8 k, v] W fun e w' => ∃ v', e = .returned (.tuple #[v', .int .i64 0]) ∧ Mine8 5 W w' v' (Fm.Fr.sealed k l) ∧ Below W.heap.size W w') := Lib.hid (fun W hW => Fm.seal_ok k v l W hW hshort)
  unfold by8 at HC ⊢
  go_enter Try.func27, Try.ntmps27
  go_wp2_with fail
  refine (HC.out _ H.out).mono ?_
  rintro e w1 ⟨v', rfl, hm, hb⟩
  have HM := Lib.hid hm
  have HB := Lib.hid hb
  clear hm hb
  go_wp2_with fail
  go_ret
  exact ⟨_, rfl, HM.out, HB.out⟩
theorem sealed_at (k : UInt8) (v : Value) (l : List UInt8) (w : World) (hv : Rd8 w v l) (hshort : l.length ≤ 1048576) :
    Calls Try.prog 27 #[.int .u8 (k.toNat : Int), v] w fun e w' => ∃ v', e = .returned v' ∧ Mine8 5 w w' v' (Fm.Fr.sealed k l) ∧ Below w.heap.size w w' := sealed_any k v l w hv hshort
theorem recsB_app (a b : List (List UInt8)) : recsB (a ++ b) = recsB a ++ recsB b := by simp [recsB]
theorem recsB_one (p : List UInt8) : recsB [p] = Fm.Fr.sealed 1 p := by simp [recsB]
theorem recsB_take (recs : List (List UInt8)) (k : Nat) (p : List UInt8) (h : recs[k]? = some p) : recsB (recs.take (k + 1)) = recsB (recs.take k) ++ Fm.Fr.sealed 1 p := by
  obtain ⟨hk, rfl⟩ := List.getElem?_eq_some_iff.1 h
  rw [List.take_succ_eq_append_getElem hk, recsB_app, recsB_one]
theorem recsB_le (recs : List (List UInt8)) (k : Nat) : (recsB (recs.take k)).length ≤ (recsB recs).length := by
  have h := recsB_app (recs.take k) (recs.drop k)
  rw [List.take_append_drop] at h
  rw [h, List.length_append]
  omega
set_option maxHeartbeats 1000000 in
theorem whole_any (fv rv : Value) (base : List UInt8) (recs : List (List UInt8)) (w : World) (hf : Rd8 w fv base) (hr : RdBs w rv recs) (hbase : base.length ≤ 1048576) (hrecs : ∀ r ∈ recs, r.length ≤ 1048576) (hlen : (wholeW base recs).length ≤ 1000000000) :
    Calls Try.prog 24 #[fv, rv] w fun e w' => ∃ v', e = .returned v' ∧ Mine8 5 w w' v' (wholeW base recs) ∧ Below w.heap.size w w' := by
  have HF := Lib.hid hf
  obtain ⟨a, cap, rfl, hcap, hbig, hc⟩ := hr.open
  have HC := Lib.hid hc
  have Hrecs := Lib.hid hrecs
  have HW : Hid ((Fm.Fr.sealed 2 base ++ recsB recs).length + 9 ≤ 1000000000) := Lib.hid (by
    have e2 := Fm.Fr.sealed_len 3 []
    unfold wholeW at hlen
    rw [List.length_append, e2] at hlen
    simpa using hlen)
  have HS2 : Hid (∀ W, Rd8 W fv base → Calls Try.prog 27 #[.int .u8 2, fv] W fun e w' => ∃ v', e = .returned v' ∧ Mine8 5 W w' v' (Fm.Fr.sealed 2 base) ∧ Below W.heap.size W w') := Lib.hid (fun W hW => sealed_any 2 fv base W hW hbase)
  have HS1 : Hid (∀ (W : World) (v : Value) (p : List UInt8), Rd8 W v p → p.length ≤ 1048576 → Calls Try.prog 27 #[.int .u8 1, v] W fun e w' => ∃ v', e = .returned v' ∧ Mine8 5 W w' v' (Fm.Fr.sealed 1 p) ∧ Below W.heap.size W w') := Lib.hid (fun W v p hW hp => sealed_any 1 v p W hW hp)
  have HS3 : Hid (∀ (W : World), Calls Try.prog 27 #[.int .u8 3, .slice none 0 0] W fun e w' => ∃ v', e = .returned v' ∧ Mine8 5 W w' v' (Fm.Fr.sealed 3 []) ∧ Below W.heap.size W w') := Lib.hid (fun W => sealed_any 3 _ [] W (own_nil W 5 1).rd (by simp))
  clear hf hr hc hrecs hlen hbase
  go_enter Try.func24, Try.ntmps24
  go_wp2_with fail
  refine (HS2.out _ HF.out).mono ?_
  rintro e w1 ⟨v1, rfl, hm1, hb1⟩
  have HM1 := Lib.hid hm1
  have HB1 := Lib.hid hb1
  clear hm1 hb1
  go_wp2_with fail
  go_loopw [5, 7, 12] (fun out _ iv wr => ∃ k : Nat, k ≤ recs.length ∧ iv = .int .i64 k ∧ Hid (Mine8 5 w wr out (Fm.Fr.sealed 2 base ++ recsB (recs.take k))) ∧ Hid (Below w.heap.size w wr)) (fun _ _ iv _ => recs.length - (intOf iv).toNat)
  case atStart => exact ⟨0, by omega, rfl, Lib.hid (by simpa [recsB] using HM1.out), HB1⟩
  case round =>
    obtain ⟨k, hk, rfl, Hm, Hb⟩ := hrel
    by_cases hlt : k < recs.length
    · obtain ⟨p, hp⟩ : ∃ p, recs[k]? = some p := ⟨recs[k], List.getElem?_eq_getElem hlt⟩
      obtain ⟨bb, o, x, rfl, c1, hx⟩ := HC.out k p hp
      have lb := World.block_lt_of_cell? w _ c1
      have c1' : wr.cell? ⟨bb, o + k, none⟩ = some x := (Hb.out.cell (p := ⟨bb, o + k, none⟩) lb).trans c1
      have Hx := Lib.hid (hx.below Hb.out)
      have Htk := Lib.hid (recsB_take recs k p hp)
      have Hle := Lib.hid (recsB_le recs (k + 1))
      have hpl := Hrecs.out p (List.mem_of_getElem? hp)
      obtain ⟨xa, xc, rfl, hxc, hxb, -, -⟩ := hx.open
      clear c1 hx hp
      go_wp2_with fail
      refine (HS1.out _ _ p Hx.out hpl).mono ?_
      rintro e w2 ⟨fv2, rfl, hm2, hb2⟩
      have Hf2 := Lib.hid hm2.rd
      have Hm2 := Lib.hid (Hm.out.below hb2)
      have Hb2 := Lib.hid (bel_trans Hb.out hb2)
      have hl2 : (Fm.Fr.sealed 2 base ++ recsB (List.take k recs)).length + (Fm.Fr.sealed 1 p).length ≤ 1000000000 := by
        have e1 := HW.out
        have e2 := Hle.out
        rw [Htk.out] at e2
        simp only [List.length_append] at e1 e2 ⊢
        omega
      clear hm2 hb2 Hm Hb c1'
      go_wp2_with (at_builtin; apply Hold.mk)
      unfold Hold
      refine wpList_app8_mine rfl _ _ 22 rfl ok22 _ (Fm.Fr.sealed 1 p) (by rfl) (by rfl) w Hb2.out Hm2.out Hf2.out (by omega) ?_
      intro v3 w3 hm3 hb3 _ _
      have Hm3 : Hid (Mine8 5 w w3 v3 (Fm.Fr.sealed 2 base ++ recsB (recs.take (k + 1)))) := Lib.hid (by rw [Htk.out, ← List.append_assoc]; exact hm3)
      have Hb3 := Lib.hid hb3
      clear hm3 hb3 Hm2 Hb2 Hf2
      go_wp2_with fail
      go_roundw
      case rel => exact ⟨k + 1, by omega, by go_num, Hm3, Hb3⟩
      case measure => simp [intOf]; omega
    · have hke : k = recs.length := by omega
      subst hke
      rw [List.take_length] at Hm
      go_wp2_with fail
      refine (HS3.out _).mono ?_
      rintro e w2 ⟨fv2, rfl, hm2, hb2⟩
      have Hf2 := Lib.hid hm2.rd
      have Hm2 := Lib.hid (Hm.out.below hb2)
      have Hb2 := Lib.hid (bel_trans Hb.out hb2)
      have hl2 : (Fm.Fr.sealed 2 base ++ recsB recs).length + (Fm.Fr.sealed 3 []).length ≤ 1000000000 := by
        have e1 := HW.out
        have e2 := Fm.Fr.sealed_len 3 []
        rw [e2]
        simpa using e1
      clear hm2 hb2 Hm Hb
      go_wp2_with (at_builtin; apply Hold.mk)
      unfold Hold
      refine wpList_app8_mine rfl _ _ 22 rfl ok22 _ (Fm.Fr.sealed 3 []) (by rfl) (by rfl) w Hb2.out Hm2.out Hf2.out (by omega) ?_
      intro v3 w3 hm3 hb3 _ _
      have Hm3 : Hid (Mine8 5 w w3 v3 (wholeW base recs)) := Lib.hid hm3
      have Hb3 := Lib.hid hb3
      clear hm3 hb3 Hm2 Hb2 Hf2
      go_wp2_with fail
      go_ret
      exact ⟨_, rfl, Hm3.out, Hb3.out⟩
end Go.Proofs.Ytokmiphgalpahaa
