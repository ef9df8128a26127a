/- Open (6). -/
import Derived.Test.YtokmiphgalpahaaV4
import Derived.Test.YtokmiphgalpahaaV7
namespace Go.Proofs.Ytokmiphgalpahaa
open Go.RowKit Go.Kt
set_option maxRecDepth 100000
variable {F G K : Nat → Prop} {w w' w0 w1 w2 W : World} {d mb : Nat}

theorem rdz_cell {w w' : World} {a : Option Addr} {n cap : Nat} {l : List Int} (h : RdZ w (.slice a n cap) l) {k : Nat} {z : Int} (hz : l[k]? = some z) (hb : Below w.heap.size w w') : ∃ b o, a = some ⟨b, o, none⟩ ∧ w'.cell? ⟨b, o + k, none⟩ = some (.int .i64 z) := by
  obtain ⟨_, a', c', e', -, -, -, hc⟩ := h.below hb
  cases e'
  obtain ⟨bb, o, rfl, c1⟩ := hc k (encZ z) (by rw [List.getElem?_map, hz]; rfl)
  exact ⟨bb, o, rfl, c1⟩
/-- what is known where the log is laid anew -/
structure Anew (w wc : World) (P : Pd) (fv rv : Value) : Prop where
  first : In8 (fun x => w.heap.size ≤ x) wc fv (anewW P).1
  recs : OwnBs (fun x => w.heap.size ≤ x) wc rv (anewW P).2
  len : (wholeW (anewW P).1 (anewW P).2).length ≤ 1000000000
  base : (anewW P).1.length ≤ 1048576
  all : ∀ r ∈ (anewW P).2, r.length ≤ 1048576
  no : wholeP P = none
theorem anew_of {P : Pd} {p : Pg} {s : Std} {fv rv : Value} {wc : World} (h1 : anewW P = (s.base, s.recs)) (h2 : wholeP P = none) (h3 : StdOk p.b s) (h4 : p.b.length ≤ 67108864) (h5 : In8 (fun x => w.heap.size ≤ x ∧ x < wc.heap.size) wc fv s.base) (h6 : OwnBs (fun x => w.heap.size ≤ x ∧ x < wc.heap.size) wc rv s.recs) : Anew w wc P fv rv := by
  have h7 := h3.whole
  refine ⟨?_, ?_, ?_, ?_, ?_, h2⟩ <;> rw [h1]
  · exact h5.more (fun x hx _ => hx.1)
  · exact h6.more (fun x hx _ => hx.1)
  · simp only; omega
  · exact h3.base
  · exact h3.recs
theorem nextW_rng {P : Pd} (hok : PdOk P) (hN : ∀ p ∈ P.L, p.n ≤ 4611686018427387904) : Rng (nextW P) := by
  cases h : P.L.getLast? with
  | none => unfold nextW; rw [h]; exact ⟨by simp, by simp⟩
  | some p =>
    have hm := List.mem_of_getLast? h
    have h1 := hN p hm
    have h2 := (hok.seg p hm).2.1
    unfold nextW
    rw [h]
    exact ⟨by simp only; omega, by simp only; omega⟩
theorem numsP_rng {P : Pd} (hok : PdOk P) : ∀ z ∈ numsP P, Rng z := by
  intro z hz
  obtain ⟨p, hp, rfl⟩ := List.mem_map.1 hz
  obtain ⟨_, h1, h2⟩ := hok.seg p hp
  exact ⟨by omega, h2⟩
set_option maxHeartbeats 4000000 in
theorem open_up {P : Pd} (h : DAt F w d mb P) (hd : P.down = false) (hN : ∀ p ∈ P.L, p.n ≤ 4611686018427387904) : Calls Try.prog 6 #[.pointer (some ⟨d, 0, none⟩)] w (OpenIs F w d mb P) := by
  have hok := h.ok
  have HD := Lib.hid h.tight
  have HS := Lib.hid (segs_up h hd)
  have HR : Hid (∀ W, Below w.heap.size w W → ∀ p ∈ P.L, Calls Try.prog 21 #[.pointer (some ⟨d, 0, none⟩), .int .i64 p.n] W fun e w' => ∃ v, e = .returned (.tuple #[v, .int .i64 0]) ∧ Mine8 5 W w' v p.b ∧ Below W.heap.size W w') := Lib.hid (fun W hW p hp => read_at (h.next hW) hd hp)
  have Hok := Lib.hid hok
  have HN := Lib.hid hN
  have hlen := hok.len
  have HO : Hid (openW P = match wholeP P with
    | some (p, s) => (0, some ⟨p.n, s.base, s.recs⟩, P)
    | none =>
      if (layW P (nextW P) (wholeW (anewW P).1 (anewW P).2) (numsP P)).1 ≠ 0 then ((layW P (nextW P) (wholeW (anewW P).1 (anewW P).2) (numsP P)).1, none, (layW P (nextW P) (wholeW (anewW P).1 (anewW P).2) (numsP P)).2)
      else (0, some ⟨nextW P, (anewW P).1, (anewW P).2⟩, (layW P (nextW P) (wholeW (anewW P).1 (anewW P).2) (numsP P)).2)) := Lib.hid (by unfold openW; rw [if_neg (by rw [hd]; simp)]; rfl)
  have hnl : (numsP P).length = P.L.length := by simp [numsP]
  have Hng : Hid (∀ (k : Nat) (p : Pg), P.L[k]? = some p → (numsP P)[k]? = some p.n) := Lib.hid (fun k p hk => by simp [numsP, hk])
  clear h hd hN hok
  go_enter Try.func6, Try.ntmps6
  go_wp2_with fail
  refine HS.out.mono ?_
  rintro e w1 ⟨sv, rfl, hz, hzb, hb1⟩
  obtain ⟨_, sa, sc, rfl, hs1, hs2, -, -⟩ := id hz
  rw [hnl] at hs1
  unfold maxLen at hs2
  have HZ : Hid (RdZ w1 (.slice sa P.L.length sc) (numsP P)) := Lib.hid (by rw [← hnl]; exact hz)
  have HZB : Hid (∀ x, (Value.slice sa P.L.length sc).ownBlock = some x → w.heap.size ≤ x ∧ x < w1.heap.size) := Lib.hid (fun x hx => hzb x (by rw [hnl]; exact hx))
  have HB1 := Lib.hid hb1
  rw [hnl]
  clear hz hzb hb1
  go_upto_if 25 with (fail)
  go_cut [3, 4, 7] (fun fv rv nv wc => fv = .slice none 0 0 ∧ rv = .slice none 0 0 ∧ nv = .int .i64 (nextW P) ∧ wc = w1)
  case first =>
    by_cases h0 : P.L.length = 0
    · have He : Hid (nextW P = 1) := Lib.hid (nextW_nil (List.eq_nil_of_length_eq_zero h0))
      go_wp2_with fail
      go_meet
      exact ⟨rfl, rfl, by rw [He.out], rfl⟩
    · obtain ⟨p, hp⟩ : ∃ p, P.L[P.L.length - 1]? = some p := ⟨P.L[P.L.length - 1], List.getElem?_eq_getElem (by omega)⟩
      obtain ⟨bb, o, rfl, c1⟩ := rdz_cell HZ.out (Hng.out _ p hp) (bel_refl w1)
      have He : Hid (nextW P = p.n + 1) := Lib.hid (nextW_last hp)
      have hpn := HN.out p (List.mem_of_getElem? hp)
      have hp1 := (Hok.out.seg p (List.mem_of_getElem? hp)).2.1
      have i1 : (0 : Int) ≤ (P.L.length : Int) - 1 := by omega
      have i2 : ((P.L.length : Int) - 1).toNat = P.L.length - 1 := by omega
      clear hp
      go_wp2_with fail
      go_meet
      exact ⟨rfl, rfl, by rw [He.out], rfl⟩
  case rest =>
    obtain ⟨rfl, rfl, rfl, hw⟩ := hcut
    have hw' := hw.symm
    subst hw'
    clear hw
    go_upto_block 0 with (fail)
    go_cut [3, 4] (fun fv rv wc => Hid (Anew w wc P fv rv) ∧ Hid (Below w1.heap.size w1 wc))
    case first =>
      go_wp2_with fail
      go_loopw [3, 4, 8, 9, 10, 11, 12, 13, 14] (fun fv rv iv _ _ _ _ _ _ wr => fv = .slice none 0 0 ∧ rv = .slice none 0 0 ∧ ∃ k : Nat, k ≤ P.L.length ∧ iv = .int .i64 ((k : Int) - 1) ∧ Hid (findW P = lastF P.L k) ∧ Hid (Below w1.heap.size w1 wr)) (fun _ _ iv _ _ _ _ _ _ _ => (intOf iv + 1).toNat)
      case atStart => exact ⟨rfl, rfl, P.L.length, by omega, by go_num, Lib.hid rfl, Lib.hid (bel_refl _)⟩
      case round =>
        obtain ⟨rfl, rfl, k, hk, rfl, HF, HBr⟩ := hrel
        cases k with
        | zero =>
          have Hf0 : Hid (findW P = none) := Lib.hid HF.out
          go_wp2_with fail
          go_meet
          refine ⟨Lib.hid ⟨?_, ?_, ?_, ?_, ?_, ?_⟩, HBr⟩
          all_goals first
            | (simp only [anewW, Hf0.out]; first
                | exact in8_nil _ _
                | exact ownBs_nil _ _
                | (simp only [wholeW, recsB, List.length_append, Fm.Fr.sealed_len]; simp)
                | simp)
            | (unfold wholeP; rw [Hf0.out])
        | succ j =>
          obtain ⟨p, hp⟩ : ∃ p, P.L[j]? = some p := ⟨P.L[j], List.getElem?_eq_getElem (by omega)⟩
          obtain ⟨bb, o, e1, c1⟩ := rdz_cell HZ.out (Hng.out _ p hp) HBr.out
          have hmem := List.mem_of_getElem? hp
          have hsm := Hok.out.small hmem
          have HBw := Lib.hid (bel_trans HB1.out HBr.out)
          have HF1 := Lib.hid (HF.out.trans (lastF_succ hp))
          have Hp0 : Hid (j = 0 → P.L.length = 1 → (numsP P)[0]? = some p.n) := Lib.hid (fun h0 _ => by subst h0; exact Hng.out _ p hp)
          have hsa := e1
          subst hsa
          have i1 : (0 : Int) ≤ ((j + 1 : Nat) : Int) - 1 := by omega
          have i2 : (((j + 1 : Nat) : Int) - 1).toNat = j := by omega
          have i3 : ((j + 1 : Nat) : Int) - 1 = (j : Int) := by omega
          rw [i3]
          clear hp HF
          go_wp2_with fail
          refine (HR.out _ HBw.out p hmem).mono ?_
          rintro e w3 ⟨bv, rfl, hm3, hb3⟩
          obtain ⟨ba, bc, rfl, hbc, hbb, -, -⟩ := hm3.rd.open
          unfold maxLen at hbb
          have HM3 := Lib.hid hm3
          have HB3 : Hid (Below w1.heap.size w1 w3) := Lib.hid (bel_trans HBr.out hb3)
          clear hm3 hb3
          go_wp2_with fail
          refine (read_any _ p.b _ HM3.out.rd (by omega)).mono ?_
          rintro e w4 ⟨hre, hb4⟩
          have HB4 : Hid (Below w1.heap.size w1 w4) := Lib.hid (bel_trans HB3.out hb4)
          cases hst : standsW p.b with
          | none =>
            rw [hst] at hre HF1
            obtain rfl := hre
            go_wp2_with fail
            go_roundw
            case rel => exact ⟨rfl, rfl, j, by omega, by go_num, HF1, HB4⟩
            case measure => simp [intOf]
          | some s =>
            rw [hst] at hre HF1
            obtain ⟨pv, rv, rfl, hpv, hrv⟩ := hre
            have hso := stands_ok hst
            have Hst := Lib.hid hst
            have hul := hso.used
            have Hso := Lib.hid hso
            simp only at HF1
            have hb34 := hb4.size
            have hs13 := HB3.out.size
            have hs1w := HB1.out.size
            have HPV : Hid (In8 (fun x => w.heap.size ≤ x ∧ x < w4.heap.size) w4 pv s.base) := Lib.hid ((in8_mine hpv).more (fun x hx _ => ⟨by omega, hx.2⟩))
            have HRV : Hid (OwnBs (fun x => w.heap.size ≤ x ∧ x < w4.heap.size) w4 rv s.recs) := Lib.hid (hrv.more (fun x hx hlt => ⟨by omega, hlt⟩))
            have HDw : Hid (DAt (fun x => F x ∧ x < w.heap.size) w4 d mb P) := Lib.hid (HD.out.next (bel_trans HB1.out HB4.out))
            have Hwh : Hid (wholeP P = if s.used = p.b.length ∧ P.L.length = 1 then some (p, s) else none) := Lib.hid (by unfold wholeP; rw [HF1.out])
            have Han : Hid (anewW P = (s.base, s.recs)) := Lib.hid (by unfold anewW; rw [HF1.out])
            clear hb4 hpv hrv hst hso HM3
            by_cases hu : s.used = p.b.length
            · by_cases hl1 : P.L.length = 1
              · rw [if_pos ⟨hu, hl1⟩] at Hwh
                obtain rfl : j = 0 := by omega
                have c4 : w4.cell? ⟨bb, o + 0, none⟩ = some (.int .i64 p.n) := by
                  obtain ⟨b', o', e', c'⟩ := rdz_cell HZ.out (Hp0.out rfl hl1) HB4.out
                  cases e'
                  exact c'
                simp only [Nat.add_zero] at c4
                have i0 : (0 : Int) < (P.L.length : Int) := by omega
                have b1 : ((P.L.length : Int) == 1) = true := by rw [beq_iff_eq]; omega
                have b2 : ((s.used : Int) == (p.b.length : Int)) = true := by rw [beq_iff_eq]; omega
                have HOe := HO.out
                rw [Hwh.out] at HOe
                simp only at HOe
                have HOh := Lib.hid HOe
                clear HOe
                go_wp2_with fail
                try simp only [Exit.inBlock, Exit.then]
                refine bodyPost_ret (results_tmp4 rfl _ _ _) rfl ?_
                have hba := below_alloc w4 (.cells #[.pointer (some ⟨d, 0, none⟩), .int .i64 p.n] 64)
                refine ⟨fun x => (w.heap.size ≤ x ∧ x < w4.heap.size) ∨ x = w4.heap.size, fun x => F x ∧ x < w.heap.size, ?_, ?_, fun x hx => ⟨.inl hx.1, fun hk => by rcases hk with h | h <;> omega⟩, fun x hx => ?_, Turn.of (bel_trans HB1.out (bel_trans HB4.out hba))⟩
                · rw [HOh.out]
                  exact ⟨_, _, _, rfl, .inr rfl, Blk.new w4 _ 64, (HPV.out.next hba).more (fun x hx _ => .inl hx), (HRV.out.next hba).more (fun x hx _ => .inl hx)⟩
                · rw [HOh.out]
                  exact HDw.out.next hba
                · rw [World.size_alloc]
                  rcases hx with h | h <;> omega
              · rw [if_neg (fun h => hl1 h.2)] at Hwh
                have b1 : ((P.L.length : Int) == 1) = false := by rw [beq_eq_false_iff_ne]; omega
                have b2 : ((s.used : Int) == (p.b.length : Int)) = true := by rw [beq_iff_eq]; omega
                go_wp2_with fail
                go_meet
                exact ⟨Lib.hid (anew_of Han.out Hwh.out Hso.out hsm HPV.out HRV.out), HB4⟩
            · rw [if_neg (fun h => hu h.1)] at Hwh
              have b2 : ((s.used : Int) == (p.b.length : Int)) = false := by rw [beq_eq_false_iff_ne]; omega
              go_wp2_with fail
              go_meet
              exact ⟨Lib.hid (anew_of Han.out Hwh.out Hso.out hsm HPV.out HRV.out), HB4⟩
    case rest =>
      obtain ⟨HA, HBc⟩ := hcut
      have hs1w := HB1.out.size
      have hs1c := HBc.out.size
      go_wp2_with fail
      refine (whole_any _ _ _ _ _ HA.out.first.rd HA.out.recs.rd HA.out.base HA.out.all HA.out.len).mono ?_
      rintro e w5 ⟨v5, rfl, hm5, hb5⟩
      obtain ⟨wa, wb, rfl, -, -, -, -⟩ := hm5.rd.open
      have HM5 := Lib.hid hm5
      have hsc5 := hb5.size
      have HB5 : Hid (Below w1.heap.size w1 w5) := Lib.hid (bel_trans HBc.out hb5)
      have HF5 := Lib.hid (HA.out.first.next hb5)
      have HR5 := Lib.hid (HA.out.recs.next hb5)
      have HBw := Lib.hid (bel_trans HB1.out HB5.out)
      have HOe := HO.out
      rw [HA.out.no] at HOe
      simp only at HOe
      have HLy : Hid (Calls Try.prog 23 #[.pointer (some ⟨d, 0, none⟩), .int .i64 (nextW P), .slice wa (wholeW (anewW P).1 (anewW P).2).length wb, .slice sa P.L.length sc] w5 (Done (fun x => F x ∧ x < w.heap.size) w5 d mb (layW P (nextW P) (wholeW (anewW P).1 (anewW P).2) (numsP P)))) := Lib.hid
        (lay_any (HD.out.next HBw.out) (nextW_rng Hok.out HN.out) HM5.out.rd (fun x hx _ hf => by have := HM5.out.2 x hx; omega) (fun x hx _ => Own.lt HM5.out.1 x hx) (RdRow.below HZ.out HB5.out) (fun x hx => ⟨fun hf => by have := HZB.out x hx; omega, by have := HZB.out x hx; omega⟩) (numsP_rng Hok.out))
      generalize layW P (nextW P) (wholeW (anewW P).1 (anewW P).2) (numsP P) = R at *
      clear hm5 hb5 HA HM5
      go_wp2_with fail
      refine HLy.out.mono ?_
      rintro e w6 ⟨rfl, hD6, hT6⟩
      have HD6 := Lib.hid hD6
      have HT6 := Lib.hid hT6
      have hs56 := hT6.size
      clear hD6 hT6
      have HTw : Hid (Turn F w w6) := Lib.hid ((Turn.of (F := F) HBw.out).trans (HT6.out.mono (fun x hx => hx.1)) (fun x hx => .inl hx))
      by_cases hR : R.1 = 0
      · rw [if_neg (by omega)] at HOe
        have HOh := Lib.hid HOe
        clear HOe
        go_wp2_with fail
        try simp only [Exit.inBlock, Exit.then]
        refine bodyPost_ret (results_tmp4 rfl _ _ _) rfl ?_
        have hba := below_alloc w6 (.cells #[.pointer (some ⟨d, 0, none⟩), .int .i64 (nextW P)] 64)
        refine ⟨fun x => (w.heap.size ≤ x ∧ x < w5.heap.size) ∨ x = w6.heap.size, Plus (fun x => F x ∧ x < w.heap.size) w5 w6, ?_, ?_, fun x hx => ⟨?_, fun hk => ?_⟩, fun x hx => ?_, HTw.out.alloc _⟩
        · rw [HOh.out]
          refine ⟨_, _, _, rfl, .inr rfl, Blk.new w6 _ 64, ?_, ?_⟩
          · exact (((HF5.out.more (G := fun x => w.heap.size ≤ x ∧ x < w5.heap.size) (fun x hx hl => ⟨hx, hl⟩)).keep HT6.out (fun x hx hf => by omega)).next hba).more (fun x hx _ => .inl hx)
          · exact (((HR5.out.more (G := fun x => w.heap.size ≤ x ∧ x < w5.heap.size) (fun x hx hl => ⟨hx, hl⟩)).keep HT6.out (fun x hx hf => by omega)).next hba).more (fun x hx _ => .inl hx)
        · rw [HOh.out]
          exact HD6.out.next hba
        · rcases hx with h | h
          · exact .inl h.1
          · exact .inr ⟨by omega, by rw [World.size_alloc]; omega⟩
        · rcases hx with h | h <;> rcases hk with h2 | h2 <;> omega
        · rw [World.size_alloc]
          rcases hx with h | h <;> omega
      · rw [if_pos hR] at HOe
        have HOh := Lib.hid HOe
        have b1 := bne0 hR
        clear HOe
        go_wp2_with fail
        try simp only [Exit.inBlock, Exit.then]
        refine bodyPost_ret (results_tmp4 rfl _ _ _) rfl ?_
        refine ⟨fun _ => False, Plus (fun x => F x ∧ x < w.heap.size) w5 w6, ?_, ?_, fun x hx => ⟨?_, id⟩, fun x hx => hx.elim, HTw.out⟩
        · rw [HOh.out]; rfl
        · rw [HOh.out]; exact HD6.out
        · rcases hx with h | h
          · exact .inl h.1
          · exact .inr ⟨by omega, h.2⟩
theorem open_any {P : Pd} (h : DAt F w d mb P) (hN : ∀ p ∈ P.L, p.n ≤ 4611686018427387904) : Calls Try.prog 6 #[.pointer (some ⟨d, 0, none⟩)] w (OpenIs F w d mb P) := by
  cases hd : P.down with
  | true => exact open_dn h hd
  | false => exact open_up h hd hN
end Go.Proofs.Ytokmiphgalpahaa
