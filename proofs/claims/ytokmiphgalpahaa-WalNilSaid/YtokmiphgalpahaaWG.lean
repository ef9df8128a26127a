/- Drop (15). -/
import Derived.Test.YtokmiphgalpahaaWF
namespace Go.Proofs.Ytokmiphgalpahaa
open Go.RowKit Go.Kt
set_option maxRecDepth 100000
variable {F : Nat → Prop} {w w' : World} {d mb : Nat} {room fuse : Int} {down : Bool} {l : List Sg}
theorem drop_yes (h : DiskIs F w d mb room fuse false l) (hf : fuse ≠ 0) {s : Sg} (hs : s ∈ l) : Calls Try.prog 29 #[.pointer (some ⟨d, 0, none⟩), .int .i64 s.n] w fun e w' => e = .returned (.int .i64 0) ∧ DiskIs F w' d mb room (powF fuse) false (del s.n l) ∧ Turn F w w' := by
  have H := Lib.hid h
  have Hs := Lib.hid hs
  have e1 : decide (fuse ≠ 0) = true := by simpa using hf
  have e2 : decide (fuse = 0) = false := by simpa using hf
  clear h hs hf
  go_enter Try.func29, Try.ntmps29
  go_wp2_with (first
    | (go_at_call 47; refine (find_yes H.out Hs.out).mono ?_; rintro e w1 ⟨rfl, rfl⟩)
    | (go_at_call 50; refine (power_any H.out).mono ?_; rw [e1, e2]; rintro e w1 ⟨rfl, hD1, hT1⟩
       obtain ⟨w2, hr, hD2, hg2⟩ := hD1.drop Hs.out 0
       obtain ⟨k0, k1, k2, k3⟩ := hD1.cell
       have HD2 := Lib.hid hD2
       have HT2 : Hid (Turn F w w2) := Lib.hid ((hT1.mono (fun x hx => hx ▸ H.out.Fd)).trans (Turn.grown hg2 (F := F) (fun x hx => by injection hx with hx; exact hx ▸ H.out.Fm)) (fun x hx => .inl hx))
       clear hD1 hT1 hD2 hg2))
  go_ret
  exact ⟨rfl, HD2.out, HT2.out⟩
theorem drop_dead (h : DiskIs F w d mb room 0 false l) {s : Sg} (hs : s ∈ l) : Calls Try.prog 29 #[.pointer (some ⟨d, 0, none⟩), .int .i64 s.n] w fun e w' => e = .returned (.int .i64 5) ∧ DiskIs F w' d mb room 0 true l ∧ Turn F w w' := by
  have H := Lib.hid h
  have Hs := Lib.hid hs
  clear h hs
  go_enter Try.func29, Try.ntmps29
  go_wp2_with (first
    | (go_at_call 47; refine (find_yes H.out Hs.out).mono ?_; rintro e w1 ⟨rfl, rfl⟩)
    | (go_at_call 50; refine (power_any H.out).mono ?_; rintro e w1 ⟨rfl, hD1, hT1⟩
       have HD1 := Lib.hid hD1
       have HT1 := Lib.hid hT1
       clear hD1 hT1))
  go_ret
  exact ⟨rfl, HD1.out, HT1.out.mono (fun x hx => hx ▸ H.out.Fd)⟩
theorem drop_no (h : DiskIs F w d mb room fuse false l) {n : Int} (hn : Rng n) (hl : Lacks l n) : Calls Try.prog 29 #[.pointer (some ⟨d, 0, none⟩), .int .i64 n] w fun e w' => e = .returned (.int .i64 6) ∧ w = w' := by
  have H := Lib.hid h
  have Hn := Lib.hid hn
  have Hl := Lib.hid hl
  clear h hn hl
  go_enter Try.func29, Try.ntmps29
  go_wp2_with (go_at_call 47; refine (find_no H.out Hn.out Hl.out).mono ?_; rintro e w1 ⟨rfl, rfl⟩)
  go_ret
  exact ⟨rfl, rfl⟩
theorem drop_down (h : DiskIs F w d mb room fuse true l) (n : Int) : Calls Try.prog 29 #[.pointer (some ⟨d, 0, none⟩), .int .i64 n] w fun e w' => e = .returned (.int .i64 5) ∧ w = w' := by
  have H := Lib.hid h
  clear h
  go_enter Try.func29, Try.ntmps29
  go_wp2_with (go_at_call 47; refine (find_down H.out n).mono ?_; rintro e w1 ⟨rfl, rfl⟩)
  go_ret
  exact ⟨rfl, rfl⟩
theorem drop_nil (w : World) (n : Int) : Calls Try.prog 29 #[.pointer none, .int .i64 n] w fun e w' => e = .returned (.int .i64 2) ∧ w = w' := by
  go_enter Try.func29, Try.ntmps29
  go_wp2_with (go_at_call 47; refine (find_nil w n).mono ?_; rintro e w1 ⟨rfl, rfl⟩)
  go_ret
  exact ⟨rfl, rfl⟩
end Go.Proofs.Ytokmiphgalpahaa
