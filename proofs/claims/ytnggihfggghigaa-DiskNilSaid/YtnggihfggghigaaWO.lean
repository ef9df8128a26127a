/- DiskNil (7). -/
import Derived.Test.YtnggihfggghigaaWN
namespace Go.Proofs.Ytnggihfggghigaa
open Go.RowKit Go.Kt
set_option maxRecDepth 100000 in
theorem nil_any (n : Int) (a1 a2 : Option Addr) (n1 n2 c1 c2 : Nat) (w : World) : Calls Try.prog 7 #[.int .i64 n, .slice a1 n1 c1, .slice a2 n2 c2] w fun e w' => e = .returned (.bool true) ∧ Below w.heap.size w w' := by
  go_enter Try.func7, Try.ntmps7
  go_wp2_with (first
    | (go_at_call 14; refine (read_nil _ n).mono ?_; rintro e w1 ⟨rfl, rfl⟩)
    | (go_at_call 20; refine (segs_nil _).mono ?_; rintro e w1 ⟨rfl, rfl⟩)
    | (go_at_call 9; refine (awake_any _).mono ?_; rintro e w2 ⟨rfl, hb⟩; have HB := Lib.hid hb; clear hb)
    | (go_at_call 10; refine (append_nil _ n _).mono ?_; rintro e w1 ⟨rfl, rfl⟩)
    | (go_at_call 11; refine (sync_nil _ n).mono ?_; rintro e w1 ⟨rfl, rfl⟩)
    | (go_at_call 15; refine (drop_nil _ n).mono ?_; rintro e w1 ⟨rfl, rfl⟩)
    | (go_at_call 12; refine (fuse_nil _ n).mono ?_; rintro e w1 ⟨rfl, rfl⟩)
    | (go_at_call 13; refine (crash_nil _ _).mono ?_; rintro e w1 ⟨rfl, rfl⟩)
    | (go_at_call 21; refine (used_nil _).mono ?_; rintro e w1 ⟨rfl, rfl⟩)
    | (go_at_call 16; refine (down_nil _).mono ?_; rintro e w1 ⟨rfl, rfl⟩))
  go_ret
  exact ⟨rfl, HB.out⟩
end Go.Proofs.Ytnggihfggghigaa
