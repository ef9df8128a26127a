/- Append (10) to a segment that is there. -/
import Derived.Test.YtokmiphgalpahaaWB
namespace Go.Proofs.Ytokmiphgalpahaa
open Go.RowKit Go.Kt
set_option maxRecDepth 100000
variable {F : Nat → Prop} {w w' : World} {d mb : Nat} {room fuse : Int} {down : Bool} {l : List Sg}
theorem Turn.grown {F : Nat → Prop} {w w' : World} {row : Option Nat} (hg : w.grownBy w' row) (h : ∀ x, row = some x → F x) : Turn F w w' :=
  ⟨hg.os, hg.tape, hg.output, hg.size, fun k hk hn => hg.block k hk (fun e => hn (h k e.symm))⟩
theorem used_swap_app {s' : Sg} {m : Nat} : ∀ l : List Sg, l.Pairwise (fun a b => a.n < b.n) → (∀ t ∈ l, t.n = s'.n → s'.b.length = t.b.length + m) → used (l.map (swap s')) ≤ used l + m
  | [], _, _ => Nat.zero_le _
  | t :: ks, hp, h => by
    obtain ⟨h1, h2⟩ := List.pairwise_cons.1 hp
    have e1 : used ((t :: ks).map (swap s')) = (swap s' t).b.length + used (ks.map (swap s')) := by simp [used]
    have e2 : used (t :: ks) = t.b.length + used ks := by simp [used]
    by_cases e : t.n = s'.n
    · have e3 : swap s' t = s' := if_pos e
      have e4 := h t (by simp) e
      have e5 : used (ks.map (swap s')) = used ks := used_swap s' ks (fun x hx hxn => by have := h1 x hx; omega)
      rw [e3] at e1
      omega
    · have e3 : swap s' t = t := if_neg e
      have := used_swap_app ks h2 (fun x hx => h x (by simp [hx]))
      rw [e3] at e1
      omega
def Plus (F : Nat → Prop) (w w' : World) : Nat → Prop := fun x => F x ∨ (w.heap.size ≤ x ∧ x < w'.heap.size)
set_option maxRecDepth 100000 in
set_option maxHeartbeats 1000000 in
theorem append_yes (h : DiskIs F w d mb room fuse false l) (hf : fuse ≠ 0) {s : Sg} (hs : s ∈ l) {v : Value} {pl : List UInt8} (hv : Rd8 w v pl) (hF : ∀ x, v.ownBlock = some x → pl ≠ [] → ¬ F x) (hlt : ∀ x, v.ownBlock = some x → pl ≠ [] → x < w.heap.size) (hroom : (pl.length : Int) ≤ room - used l) :
    Calls Try.prog 26 #[.pointer (some ⟨d, 0, none⟩), .int .i64 s.n, v] w fun e w' => ∃ v', e = .returned (.int .i64 0) ∧ DiskIs (Plus F w w') w' d mb room (powF fuse) false (l.map (swap { s with v := v', b := s.b ++ pl })) ∧ Turn F w w' := by
  have hl := look_yes h hs
  unfold Sg.ptr at hl
  have h1 := (h.seg s hs).2.2.2.1
  have d1 : decide (s.n < 1) = false := by simp only [decide_eq_false_iff_not]; omega
  obtain ⟨c0, c1, c2, c3⟩ := h.cell
  have hr0 := h.room0
  have hr1 := h.room1
  have ht := h.tot
  have Hv : Hid (Rd8 w v pl) := Lib.hid hv
  have HF := Lib.hid hF
  have Hlt := Lib.hid hlt
  obtain ⟨a, cap, rfl, hcap, hbig, hz1⟩ := hv.open
  clear hz1
  have H := Lib.hid h
  have Hs := Lib.hid hs
  have e1 : decide (fuse ≠ 0) = true := by simpa using hf
  have e2 : decide (fuse = 0) = false := by simpa using hf
  have d2 : decide (room - (used l : Int) < (pl.length : Int)) = false := by simp only [decide_eq_false_iff_not]; omega
  clear h hv hs hF hlt hf
  generalize hu : used l = u at *
  have hw : IntKind.wrap .i64 (room - (u : Int)) = room - u := by
    simp [IntKind.wrap, IntKind.bits, IntKind.signed]
    omega
  have HU : Hid (∀ W, Below w.heap.size w W → Calls Try.prog 38 #[.pointer (some ⟨d, 0, none⟩)] W fun e w' => e = .returned (.int .i64 u) ∧ Below W.heap.size W w') := Lib.hid (fun W hW => by
    have := used_any (H.out.next hW)
    rwa [hu] at this)
  have HC : Hid (∀ W, Below w.heap.size w W → W.cell? ⟨d, 0, none⟩ = some (.int .i64 room) ∧ W.cell? ⟨d, 1, none⟩ = some (.map (some mb)) ∧ W.cell? ⟨d, 2, none⟩ = some (.int .i64 fuse) ∧ W.cell? ⟨d, 3, none⟩ = some (.bool false)) := Lib.hid (fun W hW => (H.out.next hW).cell)
  have hx1 := bel_refl w
  go_enter Try.func26, Try.ntmps26
  go_wp2_with (go_at_call 44; refine (up_any H.out).mono ?_; rintro e w1 ⟨rfl, rfl⟩)
  go_region_law
    (go_simp; go_at_call 38; refine (HU.out _ (by repeat (first | assumption | apply bel_alloc | apply bel_drew))).mono ?_; intro e w3 h3; obtain ⟨rfl, hb3⟩ := h3; have hx3 : Below w.heap.size w w3 := bel_trans (by repeat (first | assumption | apply bel_alloc | apply bel_drew)) hb3; obtain ⟨k0, k1, k2, k3⟩ := HC.out _ hx3; clear hb3)
  all_goals (go_upto_region 15 with (go_at_call 50; refine (power_any (H.out.next hx3)).mono ?_; rw [e1, e2]; rintro e w4 ⟨rfl, hD4, hT4⟩; have HD4 := Lib.hid hD4; have HT4 : Hid (Turn F w w4) := Lib.hid ((Turn.of (F := F) hx3).trans hT4 (fun x hx => .inl (hx ▸ H.out.Fd))); have q0 : w4.cell? ⟨s.g, 0, none⟩ = some s.v := (hD4.seg s Hs.out).1.cell 0; have q1 : w4.frozen? ⟨s.g, 0, none⟩ = false := (hD4.seg s Hs.out).1.free 0; clear hD4 hT4))
  all_goals (obtain ⟨_, va, vcap, hsv, _⟩ := (HD4.out.seg s Hs.out).2.1.rd)
  all_goals (have hq := HD4.out.seg s Hs.out; have Hq := Lib.hid hq; clear hq)
  all_goals (have hsl := HD4.out.small Hs.out; have HR : Hid (Rd8 w4 (.slice a pl.length cap) pl) := Lib.hid (rd8_turn Hv.out HT4.out Hlt.out HF.out); have hx4 := bel_refl w4; have hgl := (Hq.out).1.lt; have Hsv := Lib.hid hsv; rw [hsv] at q0; clear hsv)
  all_goals (go_wp2_with (at_builtin; apply Hold.mk))
  all_goals (unfold Hold)
  all_goals (
    (refine wpList_app rfl _ _ 22 rfl ok28 (by rfl) (by rfl) (by have := Hq.out.2.1; rw [Hsv.out] at this; exact this) (HR.out) (by8_one _) (by simp only [maxLen]; omega) (by omega) ?_; intro v7 w7 ho7 hg7 hn7; obtain ⟨_, ta, tcap, rfl, _⟩ := ho7.rd; have b7 := Hq.out.1.grown hg7 (by rw [← Hsv.out]; exact own_no_blk Hq.out.2.1 Hq.out.1 (by decide)); have k7 : w7.cell? ⟨s.g, 0, none⟩ = some s.v := b7.cell 0; rw [Hsv.out] at k7; have f7 : w7.frozen? ⟨s.g, 0, none⟩ = false := b7.free 0; have hgl7 := b7.lt; have B7 := Lib.hid b7; have HO7 := Lib.hid ho7; have HG7 := Lib.hid hg7; have HN7 := Lib.hid hn7; clear b7 ho7 hg7 hn7))
  all_goals (go_wp2_with fail)
  all_goals go_ret
  all_goals (refine ⟨.slice ta (s.b.length + pl.length) tcap, rfl, ?_, ?_⟩)
  all_goals (have hs4 : w.heap.size ≤ w4.heap.size := HT4.out.size)
  all_goals (have hT5 : Turn (fun x => x = s.g ∨ s.v.ownBlock = some x) w4 w7 := Turn.grown HG7.out (fun x hx => .inr (by rw [Hsv.out]; exact hx)))
  all_goals (have hT6 := hT5.set (a := ⟨s.g, 0, none⟩) (.inl rfl) (.slice ta (s.b.length + pl.length) tcap))
  all_goals (first
    | exact HT4.out.trans hT6 (fun x hx => .inl (by rcases hx with rfl | hx; exact (H.out.Fs s Hs.out).1; exact (H.out.Fs s Hs.out).2 x hx))
    | skip)
  all_goals (refine HD4.out.turn (s' := { s with v := .slice ta (s.b.length + pl.length) tcap, b := s.b ++ pl }) Hs.out rfl rfl hT6 (B7.out.set 0 _) ?_ ?_ ?_ ?_ (fun x hx => .inl hx) ?_)
  all_goals (first
    | (have hne : ∀ b, (Value.slice ta (s.b.length + pl.length) tcap).ownBlock = some b → b ≠ s.g := fun b hb e => by
         subst e
         exact own_no_blk HO7.out B7.out (by decide) hb
       have hz := own_set HO7.out (p := ⟨s.g, 0, none⟩) hne (.slice ta (s.b.length + pl.length) tcap)
       show Own8 5 _ (.slice ta (s.b.length + pl.length) tcap) (s.b ++ pl)
       unfold Own8
       rw [List.length_append, List.map_append]
       exact hz)
    | (show s.sure ≤ (s.b ++ pl).length; rw [List.length_append]; have hz := Hq.out.2.2.1; omega)
    | (intro x hx
       rcases HN7.out x hx with hz | hz
       · exact .inl (by rw [Hsv.out]; exact hz)
       · exact .inr hz)
    | (have hz := used_swap_app (s' := { s with v := .slice ta (s.b.length + pl.length) tcap, b := s.b ++ pl }) (m := pl.length) l H.out.inc (fun t ht e => by rw [H.out.same_n ht Hs.out e]; exact List.length_append)
       rw [hu] at hz
       omega)
    | (intro x hx
       rcases HN7.out x hx with hz | hz
       · exact .inl ((H.out.Fs s Hs.out).2 x (by rw [Hsv.out]; exact hz))
       · refine .inr ⟨by omega, ?_⟩
         have hz2 := HO7.out.lt x hx
         simpa using hz2))
end Go.Proofs.Ytokmiphgalpahaa
