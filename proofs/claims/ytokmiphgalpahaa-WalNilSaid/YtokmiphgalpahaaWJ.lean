/- Append (10) to a segment that is not there: done. -/
import Derived.Test.YtokmiphgalpahaaWI
namespace Go.Proofs.Ytokmiphgalpahaa
open Go.RowKit Go.Kt
set_option maxRecDepth 100000
variable {F : Nat → Prop} {w w' : World} {d mb : Nat} {room fuse : Int} {down : Bool} {l : List Sg}
set_option maxRecDepth 100000 in
set_option maxHeartbeats 1000000 in
theorem append_yes2 (h : DiskIs F w d mb room fuse false l) (hf : fuse ≠ 0) {n : Int} (hn : Rng n) (h1 : 1 ≤ n) (hlk : Lacks l n) (hlen : l.length < 1024) {v : Value} {pl : List UInt8} (hv : Rd8 w v pl) (hF : ∀ x, v.ownBlock = some x → pl ≠ [] → ¬ F x) (hlt : ∀ x, v.ownBlock = some x → pl ≠ [] → x < w.heap.size) (hroom : (pl.length : Int) ≤ room - used l) :
    Calls Try.prog 26 #[.pointer (some ⟨d, 0, none⟩), .int .i64 n, v] w fun e w' => ∃ g v', e = .returned (.int .i64 0) ∧ DiskIs (Plus F w w') w' d mb room (powF fuse) false ((ins (fresh n g) l).map (swap { fresh n g with v := v', b := pl })) ∧ Turn F w w' := by
  have hl := look_no h hn hlk
  have hn2 := hn.2
  have d1 : decide (n < 1) = false := by simp only [decide_eq_false_iff_not]; omega
  obtain ⟨c0, c1, c2, c3⟩ := h.cell
  have hr0 := h.room0
  have hr1 := h.room1
  have ht := h.tot
  have Hv : Hid (Rd8 w v pl) := Lib.hid hv
  have HF := Lib.hid hF
  have Hlt := Lib.hid hlt
  obtain ⟨a, cap, rfl, hcap, hbig, hz1⟩ := hv.open
  clear hz1
  have H := Lib.hid h
  have Hlk := Lib.hid hlk
  have d2 : decide (room - (used l : Int) < (pl.length : Int)) = false := by simp only [decide_eq_false_iff_not]; omega
  have d3 : decide (1024 ≤ (l.length : Int)) = false := by simp only [decide_eq_false_iff_not]; omega
  have e1 : decide (fuse ≠ 0) = true := by simpa using hf
  have e2 : decide (fuse = 0) = false := by simpa using hf
  clear h hv hlk hF hlt hn hf
  have Hp : Hid (1 ≤ n ∧ n ≤ 9223372036854775807 ∧ l.length < 1024) := Lib.hid ⟨h1, hn2, hlen⟩
  generalize hm : l.length = m at *
  generalize hu : used l = u at *
  have hw : IntKind.wrap .i64 (room - (u : Int)) = room - u := by
    simp [IntKind.wrap, IntKind.bits, IntKind.signed]
    omega
  have HU : Hid (∀ W, Below w.heap.size w W → Calls Try.prog 38 #[.pointer (some ⟨d, 0, none⟩)] W fun e w' => e = .returned (.int .i64 u) ∧ Below W.heap.size W w') := Lib.hid (fun W hW => by
    have := used_any (H.out.next hW)
    rwa [hu] at this)
  have HC : Hid (∀ W, Below w.heap.size w W → W.cell? ⟨d, 0, none⟩ = some (.int .i64 room) ∧ W.cell? ⟨d, 1, none⟩ = some (.map (some mb)) ∧ W.cell? ⟨d, 2, none⟩ = some (.int .i64 fuse) ∧ W.cell? ⟨d, 3, none⟩ = some (.bool false) ∧ (Builtin.len_ #[67] 3 #[.map (some mb)]).run Try.prog W = .ok (.int .i64 (m : Int)) W) := Lib.hid (fun W hW => by
    have h1 := (H.out.next hW).cell
    have h2 := run_len48 (H.out.next hW) 3
    rw [hm] at h2
    exact ⟨h1.1, h1.2.1, h1.2.2.1, h1.2.2.2, h2⟩)
  have hx1 := bel_refl w
  go_enter Try.func26, Try.ntmps26
  go_wp2_with (go_at_call 44; refine (up_any H.out).mono ?_; rintro e w1 ⟨rfl, rfl⟩)
  go_region_law
    (go_simp; go_at_call 38; refine (HU.out _ (by repeat (first | assumption | apply bel_alloc | apply bel_drew))).mono ?_; intro e w3 h3; obtain ⟨rfl, hb3⟩ := h3; have hx3 : Below w.heap.size w w3 := bel_trans (by repeat (first | assumption | apply bel_alloc | apply bel_drew)) hb3; obtain ⟨k0, k1, k2, k3, k4⟩ := HC.out _ hx3; clear hb3)
  all_goals (go_upto_region 15 with (go_at_call 50; refine (power_any (H.out.next hx3)).mono ?_; rw [e1, e2]; rintro e w4 ⟨rfl, hD4, hT4⟩; have HD4 := Lib.hid hD4; have HT4 : Hid (Turn F w w4) := Lib.hid ((Turn.of (F := F) hx3).trans hT4 (fun x hx => .inl (hx ▸ H.out.Fd))); have j1 : w4.cell? ⟨d, 1, none⟩ = some (.map (some mb)) := hD4.cell.2.1; have hdl4 := hD4.blk.lt; have hP := (hD4.next (below_alloc w4 (.cells #[.slice none 0 0, .int .i64 0, .bool false] 95))).put (G := fun x => F x ∨ x = w4.heap.size) (g := w4.heap.size) Hlk.out Hp.out.1 Hp.out.2.1 (by have hz := Hp.out.2.2; omega) (Blk.new w4 _ 95) (fun s hs e => by have := (hD4.seg s hs).1.lt; omega) (fun x hx => .inl hx) (.inr rfl); obtain ⟨w5, hrun5, hD5, hG5⟩ := hP; have HD5 := Lib.hid hD5; have HG5 := Lib.hid hG5; clear hD4 hT4 hD5 hG5))
  all_goals (have HT5 : Hid (Turn F w w5) := Lib.hid ((HT4.out.alloc _).trans (Turn.grown HG5.out (F := F) (fun x hx => by injection hx with hx; exact hx ▸ H.out.Fm)) (fun x hx => .inl hx)))
  all_goals (have hmem : fresh n w4.heap.size ∈ ins (fresh n w4.heap.size) l := (mem_ins _ _ _).2 (.inl rfl))
  all_goals (have Hq := Lib.hid (HD5.out.seg _ hmem))
  all_goals (have q0 : w5.cell? ⟨w4.heap.size, 0, none⟩ = some (.slice none 0 0) := Hq.out.1.cell 0; have q1 : w5.frozen? ⟨w4.heap.size, 0, none⟩ = false := Hq.out.1.free 0; have hgl : w4.heap.size < w5.heap.size := Hq.out.1.lt)
  all_goals (have HR : Hid (Rd8 w5 (.slice a pl.length cap) pl) := Lib.hid (rd8_turn Hv.out HT5.out Hlt.out HF.out))
  all_goals (have HS : Hid (w.heap.size ≤ w4.heap.size) := Lib.hid HT4.out.size)
  all_goals (have Hmem := Lib.hid hmem; clear hmem)
  all_goals (generalize hgz : w4.heap.size = gz at *)
  all_goals (go_wp2_with (at_builtin; apply Hold.mk))
  all_goals (unfold Hold)
  all_goals (
    (refine wpList_app rfl _ _ 22 rfl ok28 (by rfl) (by rfl) (by exact (own_nil w5 5 1)) (HR.out) (by8_one _) (by simp only [maxLen]; omega) (by omega) ?_; intro v7 w7 ho7 hg7 hn7; obtain ⟨_, ta, tcap, rfl, _⟩ := ho7.rd; have b7 := Hq.out.1.grown hg7 (by intro e; cases e); have k7 : w7.cell? ⟨gz, 0, none⟩ = some (.slice none 0 0) := b7.cell 0; have f7 : w7.frozen? ⟨gz, 0, none⟩ = false := b7.free 0; have hgl7 : gz < w7.heap.size := b7.lt; have B7 := Lib.hid b7; have HO7 := Lib.hid ho7; have HG7 := Lib.hid hg7; have HN7 := Lib.hid hn7; clear b7 ho7 hg7 hn7; have HO7 : Hid (Own 5 1 w7 (.slice ta pl.length tcap) pl.length (pl.map by8)) := Lib.hid (by have hz := HO7.out; rw [Nat.zero_add] at hz; exact hz); rw [Nat.zero_add] at HN7))
  all_goals (go_wp2_with fail)
  all_goals go_ret
  all_goals (refine ⟨gz, .slice ta pl.length tcap, rfl, ?_, ?_⟩)
  all_goals (have hT5 : Turn (fun x => x = gz) w5 w7 := Turn.grown HG7.out (fun x hx => by cases hx))
  all_goals (have hT6 := hT5.set (a := ⟨gz, 0, none⟩) rfl (.slice ta pl.length tcap))
  all_goals (have hS := HS.out)
  all_goals (first
    | exact HT5.out.trans hT6 (fun x hx => .inr (by rw [hx]; exact hS))
    | skip)
  all_goals (refine HD5.out.turn (s' := { fresh n gz with v := .slice ta pl.length tcap, b := pl }) Hmem.out rfl rfl (hT6.mono (fun x hx => .inl hx)) (B7.out.set 0 _) ?_ ?_ ?_ ?_ (fun x hx => ?_) ?_)
  all_goals (first
    | (have hne : ∀ b, (Value.slice ta pl.length tcap).ownBlock = some b → b ≠ gz := fun b hb e => by
         subst e
         exact own_no_blk HO7.out B7.out (by decide) hb
       have hz := own_set HO7.out (p := ⟨gz, 0, none⟩) hne (.slice ta pl.length tcap)
       show Own8 5 _ (.slice ta pl.length tcap) pl
       unfold Own8
       exact hz)
    | (show (0 : Nat) ≤ _; omega)
    | (intro x hx
       rcases HN7.out x hx with hz | hz
       · cases hz
       · exact .inr hz)
    | (have hz := used_swap_app (s' := { fresh n gz with v := .slice ta pl.length tcap, b := pl }) (m := pl.length) (ins (fresh n gz) l) HD5.out.inc (fun t ht e => by rw [HD5.out.same_n ht Hmem.out e]; exact (Nat.zero_add _).symm)
       rw [used_ins] at hz
       have hz2 : (fresh n gz).b.length = 0 := rfl
       omega)
    | (rcases hx with hx | rfl
       · exact .inl hx
       · refine .inr ⟨by omega, ?_⟩
         simpa using hgl7)
    | (intro x hx
       rcases HN7.out x hx with hz | hz
       · cases hz
       · refine .inr ⟨by omega, ?_⟩
         have hz2 := HO7.out.lt x hx
         simpa using hz2))
end Go.Proofs.Ytokmiphgalpahaa
