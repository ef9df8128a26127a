/- DiskPlays (6). -/
import Derived.Test.YtokmiphgalpahaaX7
namespace Go.Proofs.Ytokmiphgalpahaa
open Go.RowKit Go.Kt
set_option maxRecDepth 100000
variable {w0 w w' W : World} {d mb m : Nat} {P Q : Pd} {H : Nat → Prop}
theorem is_b2 (h : B2 w0 w d mb m P P H) : Calls Try.prog 16 #[.pointer (some ⟨d, 0, none⟩), .pointer (some ⟨m, 0, none⟩)] w fun e w' => e = .returned (.bool true) ∧ B2 w0 w' d mb m P P H := by
  have hok := h.ok
  obtain ⟨⟨F, G, ⟨l, hI, hL⟩, ⟨lv, rs, hR⟩, hF, hG⟩, hbel⟩ := id h
  refine (is_any hI hL hR hok).mono ?_
  rintro e w1 ⟨rfl, hb⟩
  refine ⟨rfl, ⟨⟨F, G, ⟨l, hI.next hb, hL⟩, ⟨lv, rs, hR.next hb⟩, fun x hx => ?_, fun x hx => ?_⟩, bel_trans hbel hb⟩⟩
  · have := hb.size
    obtain ⟨a, b, c, e⟩ := hF x hx
    exact ⟨a, by omega, c, e⟩
  · have := hb.size
    obtain ⟨a, b, e⟩ := hG x hx
    exact ⟨a, by omega, e⟩
theorem b2_new {N : Nat} {w1 w2 w3 : World} (h1 : DS w1 w2 d mb ⟨N, -1, false, []⟩) (hb1 : Below w.heap.size w w1) (h2 : RefIs (fun x => w2.heap.size ≤ x ∧ x < w3.heap.size) w3 m ⟨N, -1, false, []⟩ (.slice none 0 0) []) (hb2 : Below w2.heap.size w2 w3) :
    B2 w w3 d mb m ⟨N, -1, false, []⟩ ⟨N, -1, false, []⟩ (fun _ => False) := by
  have hs1 := hb1.size
  have hs2 := h1.2.size
  have hs3 := hb2.size
  exact ⟨⟨_, _, h1.1.next hb2, ⟨_, _, h2⟩, fun x hx => ⟨by omega, by omega, fun hg => by omega, fun hf => hf⟩, fun x hx => ⟨by omega, hx.2, fun hf => hf⟩⟩, bel_trans (bel_trans hb1 h1.2) hb2⟩
end Go.Proofs.Ytokmiphgalpahaa
