/- lay (23). -/
import Derived.Test.YtokmiphgalpahaaV2
import Derived.Test.YtokmiphgalpahaaWQ
namespace Go.Proofs.Ytokmiphgalpahaa
open Go.RowKit Go.Kt
set_option maxRecDepth 100000
variable {F G : Nat → Prop} {w w' w0 w1 w2 W : World} {d mb : Nat}

theorem plus_plus {x : Nat} (h : Plus (Plus F w w1) w1 w2 x) (h1 : w.heap.size ≤ w1.heap.size) (h2 : w1.heap.size ≤ w2.heap.size) : Plus F w w2 x := by
  rcases h with (h | h) | h
  · exact .inl h
  · exact .inr ⟨h.1, by omega⟩
  · exact .inr ⟨by omega, h.2⟩
theorem turn_next (ht : Turn F w w1) (h : Turn (Plus F w w1) w1 w2) : Turn F w w2 := ht.trans h (fun x hx => by
  rcases hx with h | h
  · exact .inl h
  · exact .inr h.1)
theorem done_next {r : Int × Pd} {e : Ending} (ht : Turn F w w1) (h : Done (Plus F w w1) w1 d mb r e w2) : Done F w d mb r e w2 :=
  ⟨h.1, h.2.1.more (fun _ hx => plus_plus hx ht.size h.2.2.size), turn_next ht h.2.2⟩
theorem bne0 {z : Int} (h : z ≠ 0) : (z != 0) = true := by simpa using h
theorem dropsW_cons {P : Pd} {n : Int} {t : List Int} : dropsW P (n :: t) = if (P.drop n).1 ≠ 0 then P.drop n else dropsW (P.drop n).2 t := rfl
set_option maxHeartbeats 1000000 in
theorem lay_any {P : Pd} (h : DAt F w d mb P) {n : Int} (hn : Rng n) {v ov : Value} {all : List UInt8} {others : List Int} (hv : Rd8 w v all) (hF : ∀ x, v.ownBlock = some x → all ≠ [] → ¬ F x) (hlt : ∀ x, v.ownBlock = some x → all ≠ [] → x < w.heap.size)
    (ho : RdZ w ov others) (hoF : ∀ x, ov.ownBlock = some x → ¬ F x ∧ x < w.heap.size) (hr : ∀ z ∈ others, Rng z) :
    Calls Try.prog 23 #[.pointer (some ⟨d, 0, none⟩), .int .i64 n, v, ov] w (Done F w d mb (layW P n all others)) := by
  have HA : Hid (Calls Try.prog 26 #[.pointer (some ⟨d, 0, none⟩), .int .i64 n, v] w (Done F w d mb (P.app n all))) := Lib.hid (app_any h hn hv hF hlt)
  obtain ⟨_, oa, oc, rfl, ho1, ho2, ho3, ho4⟩ := id ho
  have HO := Lib.hid ho
  have HOF := Lib.hid hoF
  have HRn := Lib.hid hr
  have Hn := Lib.hid hn
  have HL : Hid (layW P n all others = if (P.app n all).1 ≠ 0 then P.app n all else if ((P.app n all).2.sync n).1 ≠ 0 then (P.app n all).2.sync n else dropsW ((P.app n all).2.sync n).2 others) := Lib.hid rfl
  generalize layW P n all others = R at *
  unfold maxLen at ho2
  clear h hn hv hF hlt ho hoF hr ho3 ho4
  go_enter Try.func23, Try.ntmps23
  go_wp2_with fail
  refine HA.out.mono ?_
  rintro e w1 ⟨rfl, hD1, hT1⟩
  generalize P.app n all = r1 at *
  have HD1 := Lib.hid hD1
  have HT1 := Lib.hid hT1
  clear hD1 hT1
  by_cases h1 : r1.1 = 0
  · rw [if_neg (by omega)] at HL
    go_wp2_with fail
    refine (sync_any HD1.out Hn.out).mono ?_
    rintro e w2 hd2
    obtain ⟨rfl, hD2, hT2⟩ := done_next HT1.out hd2
    generalize r1.2.sync n = r2 at *
    have HD2 := Lib.hid hD2
    have HT2 := Lib.hid hT2
    clear hd2 hD2 hT2
    by_cases h2 : r2.1 = 0
    · rw [if_neg (by omega)] at HL
      go_wp2_with fail
      go_loopw [12, 13, 29] (fun _ _ iv wr => ∃ (k : Nat) (Q : Pd), k ≤ others.length ∧ iv = .int .i64 k ∧ Hid (R = dropsW Q (others.drop k)) ∧ Hid (DAt (Plus F w wr) wr d mb Q) ∧ Hid (Turn F w wr)) (fun _ _ iv _ => others.length - (intOf iv).toNat)
      case atStart => exact ⟨0, r2.2, by omega, rfl, HL, HD2, HT2⟩
      case round =>
        obtain ⟨k, Q, hk, rfl, HQ, HD, HT⟩ := hrel
        by_cases hlt : k < others.length
        · obtain ⟨z, hz⟩ : ∃ z, others[k]? = some z := ⟨others[k], List.getElem?_eq_getElem hlt⟩
          have hrow : RdZ wr (.slice oa others.length oc) others := RdRow.keep HO.out (fun x hx => HT.out.block x (HOF.out x hx).2 (HOF.out x hx).1)
          obtain ⟨_, a', c', e', -, -, -, hc⟩ := hrow
          cases e'
          obtain ⟨bb, o, rfl, c1⟩ := hc k (encZ z) (by rw [List.getElem?_map, hz]; rfl)
          have c1' : wr.cell? ⟨bb, o + k, none⟩ = some (.int .i64 z) := c1
          have Hdr : Hid (others.drop k = z :: others.drop (k + 1)) := Lib.hid (by
            obtain ⟨q1, q2⟩ := List.getElem?_eq_some_iff.1 hz
            rw [List.drop_eq_getElem_cons q1, q2])
          have hzr := HRn.out z (List.mem_of_getElem? hz)
          rw [Hdr.out, dropsW_cons] at HQ
          clear hc c1 hz
          go_wp2_with fail
          refine (drop_any HD.out hzr).mono ?_
          rintro e w3 hd3
          obtain ⟨rfl, hD3, hT3⟩ := done_next HT.out hd3
          generalize Q.drop z = r3 at *
          have HD3 := Lib.hid hD3
          have HT3 := Lib.hid hT3
          clear hd3 hD3 hT3 HD HT
          by_cases h3 : r3.1 = 0
          · rw [if_neg (by omega)] at HQ
            go_wp2_with fail
            go_roundw
            case rel => exact ⟨k + 1, r3.2, by omega, by go_num, HQ, HD3, HT3⟩
            case measure => simp [intOf]; omega
          · rw [if_pos h3] at HQ
            have b3 := bne0 h3
            go_wp2_with fail
            go_ret
            rw [HQ.out]
            exact ⟨rfl, HD3.out, HT3.out⟩
        · obtain rfl : k = others.length := by omega
          rw [List.drop_length] at HQ
          go_wp2_with fail
          go_ret
          rw [HQ.out]
          exact ⟨rfl, HD.out, HT.out⟩
    · rw [if_pos h2] at HL
      have b2 := bne0 h2
      go_wp2_with fail
      go_ret
      rw [HL.out]
      exact ⟨rfl, HD2.out, HT2.out⟩
  · rw [if_pos h1] at HL
    have b1 := bne0 h1
    go_wp2_with fail
    go_ret
    rw [HL.out]
    exact ⟨rfl, HD1.out, HT1.out⟩
end Go.Proofs.Ytokmiphgalpahaa
