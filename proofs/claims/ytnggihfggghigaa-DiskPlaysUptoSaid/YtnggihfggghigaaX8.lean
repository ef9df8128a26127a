/- DiskPlays (6). -/
import Derived.Test.YtnggihfggghigaaX7
namespace Go.Proofs.Ytnggihfggghigaa
open Go.RowKit Go.Kt
variable {w0 w w' W : World} {d mb m : Nat} {P Q : Pd} {H : Nat → Prop}
theorem is_b2 (h : B2 w0 w d mb m P P H) : Calls Try.prog 19 #[.pointer (some ⟨d, 0, none⟩), .pointer (some ⟨m, 0, none⟩)] w fun e w' => e = .returned (.bool true) ∧ B2 w0 w' d mb m P P H := by
  have hok := h.ok
  obtain ⟨⟨F, G, ⟨l, hI, hL⟩, ⟨lv, rs, hR⟩, hF, hG⟩, hbel⟩ := id h
  refine (is_any hI hL hR hok).mono ?_
  rintro e w1 ⟨rfl, hb⟩
  refine ⟨rfl, ⟨⟨F, G, ⟨l, hI.next hb, hL⟩, ⟨lv, rs, hR.next hb⟩, fun x hx => ?_, fun x hx => ?_⟩, bel_trans hbel hb⟩⟩
  · have := hb.size
    obtain ⟨a, b, c, e⟩ := hF x hx
    exact ⟨a, by omega, c, e⟩
  · have := hb.size
    obtain ⟨a, b, e⟩ := hG x hx
    exact ⟨a, by omega, e⟩
theorem b2_new {N : Nat} {w1 w2 w3 : World} (h1 : DS w1 w2 d mb ⟨N, -1, false, []⟩) (hb1 : Below w.heap.size w w1) (h2 : RefIs (fun x => w2.heap.size ≤ x ∧ x < w3.heap.size) w3 m ⟨N, -1, false, []⟩ (.slice none 0 0) []) (hb2 : Below w2.heap.size w2 w3) :
    B2 w w3 d mb m ⟨N, -1, false, []⟩ ⟨N, -1, false, []⟩ (fun _ => False) := by
  have hs1 := hb1.size
  have hs2 := h1.2.size
  have hs3 := hb2.size
  exact ⟨⟨_, _, h1.1.next hb2, ⟨_, _, h2⟩, fun x hx => ⟨by omega, by omega, fun hg => by omega, fun hf => hf⟩, fun x hx => ⟨by omega, hx.2, fun hf => hf⟩⟩, bel_trans (bel_trans hb1 h1.2) hb2⟩
set_option maxRecDepth 100000 in
set_option maxHeartbeats 4000000 in
theorem plays_any (room : Int) (v : Value) (l : List Op) (w : World) (hv : RdO w v l) (hb : ∀ o ∈ l, o.keep.length ≤ 1048576) : Calls Try.prog 6 #[.int .i64 room, v] w fun e w' => e = .returned (.bool true) ∧ Below w.heap.size w w' := by
  obtain ⟨sa, cap, rfl, hcap, hbig, hcell⟩ := hv.open
  have Hcell := Lib.hid hcell
  have Hb := Lib.hid hb
  clear hcell hv hb
  by_cases hno : room < 0 ∨ 67108864 < room
  · have HN : Hid (∀ w, Calls Try.prog 8 #[.int .i64 room] w fun e w' => e = .returned (.tuple #[.pointer none, .int .i64 1]) ∧ w = w') := Lib.hid (fun w => new_no room w hno)
    by_cases h1 : room < 0
    · clear hno
      go_enter Try.func6, Try.ntmps6
      go_wp2_with (first
        | (go_at_call 9; refine (awake_any _).mono ?_; rintro e w2 ⟨rfl, hb⟩; have HB := Lib.hid hb; clear hb)
        | (go_at_call 8; refine (HN.out _).mono ?_; rintro e w1 ⟨rfl, rfl⟩))
      go_ret
      exact ⟨rfl, HB.out⟩
    · have h2 : 67108864 < room := by omega
      have d1 : decide (room < 0) = false := by simp only [decide_eq_false_iff_not]; omega
      clear hno
      go_enter Try.func6, Try.ntmps6
      go_wp2_with (first
        | (go_at_call 9; refine (awake_any _).mono ?_; rintro e w2 ⟨rfl, hb⟩; have HB := Lib.hid hb; clear hb)
        | (go_at_call 8; refine (HN.out _).mono ?_; rintro e w1 ⟨rfl, rfl⟩))
      go_ret
      exact ⟨rfl, HB.out⟩
  obtain ⟨N, rfl⟩ : ∃ N : Nat, room = (N : Int) := ⟨room.toNat, by omega⟩
  have hN : N ≤ 67108864 := by omega
  have d1 : decide ((N : Int) < 0) = false := by simp only [decide_eq_false_iff_not]; omega
  have d2 : decide (67108864 < (N : Int)) = false := by simp only [decide_eq_false_iff_not]; omega
  clear hno
  go_enter Try.func6, Try.ntmps6
  go_wp2_with fail
  refine (awake_any _).mono ?_
  rintro e w1 ⟨rfl, hb1⟩
  have HB1 := Lib.hid hb1
  clear hb1
  go_wp2_with fail
  refine (new_ds N w1 hN).mono ?_
  rintro e w2 ⟨d, mb, rfl, hd2⟩
  have HD2 := Lib.hid hd2
  clear hd2
  go_wp2_with fail
  refine (new_ref (N : Int) w2).mono ?_
  rintro e w3 ⟨rfl, hr3, hb3⟩
  have HB3 := Lib.hid (b2_new HD2.out HB1.out hr3 hb3)
  generalize w2.heap.size = m at *
  clear hr3 hb3 HD2 HB1
  go_wp2_with fail
  go_loopw [8, 9, 39] (fun _ _ iv wr => ∃ (k : Nat) (P : Pd), k ≤ l.length ∧ iv = .int .i64 k ∧ Hid (B2 w wr d mb m P P (fun _ => False))) (fun _ _ iv _ => l.length - (intOf iv).toNat)
  case atStart => exact ⟨0, _, by omega, rfl, HB3⟩
  case round =>
    clear HB3
    obtain ⟨k, P, hk, rfl, HB⟩ := hrel
    by_cases hlt : k < l.length
    · obtain ⟨o, ho⟩ : ∃ x, l[k]? = some x := ⟨l[k], List.getElem?_eq_getElem hlt⟩
      obtain ⟨b, q, pv, kv, rfl, hok, c0, c1, c2, c3⟩ := Hcell.out k o ho
      have hbl := World.block_lt_of_cell? w _ c0
      have k0 : wr.cell? ⟨b, q + k * 4, none⟩ = some (.int .i64 o.kind) := (HB.out.bel.cell (p := ⟨b, q + k * 4, none⟩) hbl).trans c0
      have k1 : wr.cell? ⟨b, q + k * 4 + 1, none⟩ = some (.int .i64 o.n) := (HB.out.bel.cell (p := ⟨b, q + k * 4 + 1, none⟩) hbl).trans c1
      have k2 : wr.cell? ⟨b, q + k * 4 + 2, none⟩ = some pv := (HB.out.bel.cell (p := ⟨b, q + k * 4 + 2, none⟩) hbl).trans c2
      have k3 : wr.cell? ⟨b, q + k * 4 + 3, none⟩ = some kv := (HB.out.bel.cell (p := ⟨b, q + k * 4 + 3, none⟩) hbl).trans c3
      have hkl := Hb.out o (List.mem_of_getElem? ho)
      have Hok := Lib.hid hok
      obtain ⟨pa, pcap, rfl, hb1, hb2, _⟩ := hok.p.open
      obtain ⟨_, ka, kcap, rfl, _⟩ := hok.keep
      have HB1 := Lib.hid (HB.out.next (H' := fun _ => False) (below_alloc wr (.cells #[.int .i64 o.kind, .int .i64 o.n, .slice pa o.p.length pcap, .slice ka o.keep.length kcap] 31)) (fun x hx => hx.elim))
      clear ho c0 c1 c2 c3 hok
      by_cases h60 : (60 : Int) ≤ (k : Int)
      · go_wp2_with fail
        go_ret
        exact ⟨rfl, HB1.out.bel⟩
      have d60 : decide ((60 : Int) ≤ (k : Int)) = false := by simp only [decide_eq_false_iff_not]; omega
      by_cases hlong : 3000 < o.p.length
      · have d3 : decide (3000 < (o.p.length : Int)) = true := by simp only [decide_eq_true_eq]; omega
        go_wp2_with fail
        go_ret
        exact ⟨rfl, HB1.out.bel⟩
      have d3 : decide (3000 < (o.p.length : Int)) = false := by simp only [decide_eq_false_iff_not]; omega
      have hpl : o.p.length ≤ 3000 := by omega
      go_wp2_with fail
      refine (does_any HB1.out o Hok.out hkl hpl).mono ?_
      rintro e w4 ⟨rfl, hB4⟩
      have HB4 := Lib.hid hB4
      clear hB4
      go_wp2_with fail
      refine (is_b2 HB4.out).mono ?_
      rintro e w5 ⟨rfl, hB5⟩
      have HB5 := Lib.hid hB5
      clear hB5
      go_wp2_with fail
      go_roundw
      case rel => exact ⟨k + 1, _, by omega, by go_num, HB5⟩
      case measure => simp [intOf] <;> omega
    · obtain rfl : k = l.length := by omega
      go_wp2_with fail
      go_ret
      exact ⟨rfl, HB.out.bel⟩
end Go.Proofs.Ytnggihfggghigaa
