/- The document's Whole (36). -/
import Derived.Test.YtokmiphgalpahaaV2
namespace Go.Proofs.Ytokmiphgalpahaa
open Go.RowKit Go.Kt
set_option maxRecDepth 100000
set_option maxHeartbeats 1000000 in
theorem refwhole_any (fv rv : Value) (base : List UInt8) (recs : List (List UInt8)) (w : World) (hf : Rd8 w fv base) (hr : RdBs w rv recs) (hbase : base.length ≤ 1048576) (hrecs : ∀ r ∈ recs, r.length ≤ 1048576) (hlen : (wholeW base recs).length ≤ 1000000000) :
    Calls Try.prog 36 #[fv, rv] w fun e w' => ∃ v', e = .returned v' ∧ Mine8 5 w w' v' (wholeW base recs) ∧ Below w.heap.size w w' := by
  have HF := Lib.hid hf
  obtain ⟨a, cap, rfl, hcap, hbig, hc⟩ := hr.open
  have HC := Lib.hid hc
  have Hrecs := Lib.hid hrecs
  have HW : Hid ((Fm.Fr.sealed 2 base ++ recsB recs).length + 9 ≤ 1000000000) := Lib.hid (by
    have e2 := Fm.Fr.sealed_len 3 []
    unfold wholeW at hlen
    rw [List.length_append, e2] at hlen
    simpa using hlen)
  have HS2 : Hid (∀ W, Rd8 W fv base → Calls Try.prog 40 #[.int .u8 2, fv] W fun e w' => ∃ v', e = .returned (.tuple #[v', .int .i64 0]) ∧ Mine8 5 W w' v' (Fm.Fr.sealed 2 base) ∧ Below W.heap.size W w') := Lib.hid (fun W hW => Fm.refseal_ok 2 fv base W hW hbase)
  have HS1 : Hid (∀ (W : World) (v : Value) (p : List UInt8), Rd8 W v p → p.length ≤ 1048576 → Calls Try.prog 40 #[.int .u8 1, v] W fun e w' => ∃ v', e = .returned (.tuple #[v', .int .i64 0]) ∧ Mine8 5 W w' v' (Fm.Fr.sealed 1 p) ∧ Below W.heap.size W w') := Lib.hid (fun W v p hW hp => Fm.refseal_ok 1 v p W hW hp)
  have HS3 : Hid (∀ (W : World), Calls Try.prog 40 #[.int .u8 3, .slice none 0 0] W fun e w' => ∃ v', e = .returned (.tuple #[v', .int .i64 0]) ∧ Mine8 5 W w' v' (Fm.Fr.sealed 3 []) ∧ Below W.heap.size W w') := Lib.hid (fun W => Fm.refseal_ok 3 _ [] W (own_nil W 5 1).rd (by simp))
  clear hf hr hc hrecs hlen hbase
  go_enter Try.func36, Try.ntmps36
  go_wp2_with fail
  refine (HS2.out _ HF.out).mono ?_
  rintro e w1 ⟨v1, rfl, hm1, hb1⟩
  have HM1 := Lib.hid hm1
  have HB1 := Lib.hid hb1
  clear hm1 hb1
  go_wp2_with fail
  go_loopw [5, 7, 8, 9] (fun out iv _ _ wr => ∃ k : Nat, k ≤ recs.length ∧ iv = .int .i64 k ∧ Hid (Mine8 5 w wr out (Fm.Fr.sealed 2 base ++ recsB (recs.take k))) ∧ Hid (Below w.heap.size w wr)) (fun _ iv _ _ _ => recs.length - (intOf iv).toNat)
  case atStart => exact ⟨0, by omega, rfl, Lib.hid (by simpa [recsB] using HM1.out), HB1⟩
  case round =>
    obtain ⟨k, hk, rfl, Hm, Hb⟩ := hrel
    by_cases hlt : k < recs.length
    · obtain ⟨p, hp⟩ : ∃ p, recs[k]? = some p := ⟨recs[k], List.getElem?_eq_getElem hlt⟩
      obtain ⟨bb, o, x, rfl, c1, hx⟩ := HC.out k p hp
      have lb := World.block_lt_of_cell? w _ c1
      have c1' : wr.cell? ⟨bb, o + k, none⟩ = some x := (Hb.out.cell (p := ⟨bb, o + k, none⟩) lb).trans c1
      have Hx := Lib.hid (hx.below Hb.out)
      have Htk := Lib.hid (recsB_take recs k p hp)
      have Hle := Lib.hid (recsB_le recs (k + 1))
      have hpl := Hrecs.out p (List.mem_of_getElem? hp)
      obtain ⟨xa, xc, rfl, hxc, hxb, -, -⟩ := hx.open
      clear c1 hx hp
      go_wp2_with fail
      refine (HS1.out _ _ p Hx.out hpl).mono ?_
      rintro e w2 ⟨fv2, rfl, hm2, hb2⟩
      have Hf2 := Lib.hid hm2.rd
      have Hm2 := Lib.hid (Hm.out.below hb2)
      have Hb2 := Lib.hid (bel_trans Hb.out hb2)
      have hl2 : (Fm.Fr.sealed 2 base ++ recsB (List.take k recs)).length + (Fm.Fr.sealed 1 p).length ≤ 1000000000 := by
        have e1 := HW.out
        have e2 := Hle.out
        rw [Htk.out] at e2
        simp only [List.length_append] at e1 e2 ⊢
        omega
      clear hm2 hb2 Hm Hb c1'
      go_wp2_with (at_builtin; apply Hold.mk)
      unfold Hold
      refine wpList_app8_mine rfl _ _ 22 rfl ok22 _ (Fm.Fr.sealed 1 p) (by rfl) (by rfl) w Hb2.out Hm2.out Hf2.out (by omega) ?_
      intro v3 w3 hm3 hb3 _ _
      have Hm3 : Hid (Mine8 5 w w3 v3 (Fm.Fr.sealed 2 base ++ recsB (recs.take (k + 1)))) := Lib.hid (by rw [Htk.out, ← List.append_assoc]; exact hm3)
      have Hb3 := Lib.hid hb3
      clear hm3 hb3 Hm2 Hb2 Hf2
      go_wp2_with fail
      go_roundw
      case rel => exact ⟨k + 1, by omega, by go_num, Hm3, Hb3⟩
      case measure => simp [intOf]; omega
    · have hke : k = recs.length := by omega
      subst hke
      rw [List.take_length] at Hm
      go_wp2_with fail
      refine (HS3.out _).mono ?_
      rintro e w2 ⟨fv2, rfl, hm2, hb2⟩
      have Hf2 := Lib.hid hm2.rd
      have Hm2 := Lib.hid (Hm.out.below hb2)
      have Hb2 := Lib.hid (bel_trans Hb.out hb2)
      have hl2 : (Fm.Fr.sealed 2 base ++ recsB recs).length + (Fm.Fr.sealed 3 []).length ≤ 1000000000 := by
        have e1 := HW.out
        have e2 := Fm.Fr.sealed_len 3 []
        rw [e2]
        simpa using e1
      clear hm2 hb2 Hm Hb
      go_wp2_with (at_builtin; apply Hold.mk)
      unfold Hold
      refine wpList_app8_mine rfl _ _ 22 rfl ok22 _ (Fm.Fr.sealed 3 []) (by rfl) (by rfl) w Hb2.out Hm2.out Hf2.out (by omega) ?_
      intro v3 w3 hm3 hb3 _ _
      have Hm3 : Hid (Mine8 5 w w3 v3 (wholeW base recs)) := Lib.hid hm3
      have Hb3 := Lib.hid hb3
      clear hm3 hb3 Hm2 Hb2 Hf2
      go_wp2_with fail
      go_ret
      exact ⟨_, rfl, Hm3.out, Hb3.out⟩
end Go.Proofs.Ytokmiphgalpahaa
