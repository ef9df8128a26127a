/- The document's Right of a version (53). -/
import Derived.Test.YtplieoalfbpniaaGreatD7
set_option linter.unusedVariables false
set_option linter.unusedSimpArgs false
namespace Go.Proofs.YtplieoalfbpniaaGreat
open Go.RowKit Go.Kt Go.Ix Go.Sx
set_option maxRecDepth 100000
set_option maxHeartbeats 2000000 in
theorem rverR_any (v : Ver) (w : World) (hs : v.text.size ≤ maxLen) : Calls Tryz.prog 53 #[v.val] w fun e w' => e = .returned (.bool (decide (verR v))) ∧ Below w.heap.size w w' := by
  have hc := verR_cases v
  have hS := Lib.hid (fun (W : World) => refstr_any v.at_ W)
  generalize decide (verR v) = p at hc ⊢
  unfold maxLen at hs
  obtain ⟨⟨aw, at_, am⟩, kd, nm, tx⟩ := v
  unfold Ver.val
  unfold Tm.val at hS
  simp only at hc ⊢ hS hs
  rcases hc with ⟨h1, rfl⟩ | ⟨h1, h2, rfl⟩ | ⟨h1, h2, rfl, hp⟩ | ⟨h1, h2, rfl, hp⟩ | ⟨h1, h2, rfl, h3, rfl⟩ | ⟨h1, h2, rfl, h3, hp⟩ | ⟨h1, h2, h3, rfl⟩ | ⟨h1, h2, h3, rfl⟩
  all_goals rw [h1] at hS
  all_goals clear h1
  · go_enter Tryz.func53, Tryz.ntmps53
    go_wp2_with (go_at_call 76; refine (hS.out _).mono ?_; rintro e w1 ⟨rfl, hb1⟩)
    all_goals (first | (exfalso; omega) | (go_ret; exact ⟨rfl, bel_trans (below_alloc _ _) hb1⟩))
  · go_enter Tryz.func53, Tryz.ntmps53
    go_wp2_with (go_at_call 76; refine (hS.out _).mono ?_; rintro e w1 ⟨rfl, hb1⟩; have hb2 := Lib.hid hb1; have hx := (Blk.new w #[.int .i64 aw, .int .u32 at_, .int .u32 am, .int .i64 kd, .int .i64 nm, .string tx] 127).next hb1; have x3 : w1.cell? ⟨w.heap.size, 3, none⟩ = some (.int .i64 kd) := hx.cell 3; have x4 : w1.cell? ⟨w.heap.size, 4, none⟩ = some (.int .i64 nm) := hx.cell 4; have x5 : w1.cell? ⟨w.heap.size, 5, none⟩ = some (.string tx) := hx.cell 5; clear hb1 hx)
    all_goals (first | (exfalso; omega) | (go_ret; exact ⟨rfl, bel_trans (below_alloc _ _) hb2.out⟩))
  · have Hp := Lib.hid hp
    clear hp
    go_enter Tryz.func53, Tryz.ntmps53
    go_wp2_with (go_at_call 76; refine (hS.out _).mono ?_; rintro e w1 ⟨rfl, hb1⟩; have hb2 := Lib.hid hb1; have hx := (Blk.new w #[.int .i64 aw, .int .u32 at_, .int .u32 am, .int .i64 1, .int .i64 nm, .string tx] 127).next hb1; have x3 : w1.cell? ⟨w.heap.size, 3, none⟩ = some (.int .i64 1) := hx.cell 3; have x4 : w1.cell? ⟨w.heap.size, 4, none⟩ = some (.int .i64 nm) := hx.cell 4; have x5 : w1.cell? ⟨w.heap.size, 5, none⟩ = some (.string tx) := hx.cell 5; clear hb1 hx)
    all_goals (first | (exfalso; omega) | (go_ret; first | exact ⟨ret_bool Hp.out.symm, bel_trans (below_alloc _ _) hb2.out⟩ | exact ⟨ret_bool (by rw [Hp.out]; first | assumption | (symm; assumption) | simp [*]), bel_trans (below_alloc _ _) hb2.out⟩))
  · have Hp := Lib.hid hp
    clear hp
    go_enter Tryz.func53, Tryz.ntmps53
    go_wp2_with (go_at_call 76; refine (hS.out _).mono ?_; rintro e w1 ⟨rfl, hb1⟩; have hb2 := Lib.hid hb1; have hx := (Blk.new w #[.int .i64 aw, .int .u32 at_, .int .u32 am, .int .i64 2, .int .i64 nm, .string tx] 127).next hb1; have x3 : w1.cell? ⟨w.heap.size, 3, none⟩ = some (.int .i64 2) := hx.cell 3; have x4 : w1.cell? ⟨w.heap.size, 4, none⟩ = some (.int .i64 nm) := hx.cell 4; have x5 : w1.cell? ⟨w.heap.size, 5, none⟩ = some (.string tx) := hx.cell 5; clear hb1 hx)
    all_goals (first | (exfalso; omega) | (go_ret; first | exact ⟨ret_bool Hp.out.symm, bel_trans (below_alloc _ _) hb2.out⟩ | exact ⟨ret_bool (by rw [Hp.out]; first | assumption | (symm; assumption) | simp [*]), bel_trans (below_alloc _ _) hb2.out⟩))
  · go_enter Tryz.func53, Tryz.ntmps53
    go_wp2_with (go_at_call 76; refine (hS.out _).mono ?_; rintro e w1 ⟨rfl, hb1⟩; have hb2 := Lib.hid hb1; have hx := (Blk.new w #[.int .i64 aw, .int .u32 at_, .int .u32 am, .int .i64 3, .int .i64 nm, .string tx] 127).next hb1; have x3 : w1.cell? ⟨w.heap.size, 3, none⟩ = some (.int .i64 3) := hx.cell 3; have x4 : w1.cell? ⟨w.heap.size, 4, none⟩ = some (.int .i64 nm) := hx.cell 4; have x5 : w1.cell? ⟨w.heap.size, 5, none⟩ = some (.string tx) := hx.cell 5; clear hb1 hx)
    all_goals (first | (exfalso; omega) | (go_ret; exact ⟨rfl, bel_trans (below_alloc _ _) hb2.out⟩))
  · have Hp := Lib.hid hp
    clear hp
    go_enter Tryz.func53, Tryz.ntmps53
    go_wp2_with (go_at_call 76; refine (hS.out _).mono ?_; rintro e w1 ⟨rfl, hb1⟩; have hb2 := Lib.hid hb1; have hx := (Blk.new w #[.int .i64 aw, .int .u32 at_, .int .u32 am, .int .i64 3, .int .i64 nm, .string tx] 127).next hb1; have x3 : w1.cell? ⟨w.heap.size, 3, none⟩ = some (.int .i64 3) := hx.cell 3; have x4 : w1.cell? ⟨w.heap.size, 4, none⟩ = some (.int .i64 nm) := hx.cell 4; have x5 : w1.cell? ⟨w.heap.size, 5, none⟩ = some (.string tx) := hx.cell 5; clear hb1 hx)
    all_goals (first | (exfalso; omega) | (go_ret; first | exact ⟨ret_bool Hp.out.symm, bel_trans (below_alloc _ _) hb2.out⟩ | exact ⟨ret_bool (by rw [Hp.out]; first | assumption | (symm; assumption) | simp [*]), bel_trans (below_alloc _ _) hb2.out⟩))
  all_goals
    have k1 : (kd == 1) = false := bne_of (by omega)
    have k2 : (kd == 2) = false := bne_of (by omega)
    have k3 : (kd == 3) = false := bne_of (by omega)
    go_enter Tryz.func53, Tryz.ntmps53
    go_wp2_with (go_at_call 76; refine (hS.out _).mono ?_; rintro e w1 ⟨rfl, hb1⟩; have hb2 := Lib.hid hb1; have hx := (Blk.new w #[.int .i64 aw, .int .u32 at_, .int .u32 am, .int .i64 kd, .int .i64 nm, .string tx] 127).next hb1; have x3 : w1.cell? ⟨w.heap.size, 3, none⟩ = some (.int .i64 kd) := hx.cell 3; have x4 : w1.cell? ⟨w.heap.size, 4, none⟩ = some (.int .i64 nm) := hx.cell 4; have x5 : w1.cell? ⟨w.heap.size, 5, none⟩ = some (.string tx) := hx.cell 5; clear hb1 hx)
    all_goals (first | (exfalso; omega) | (go_ret; exact ⟨rfl, bel_trans (below_alloc _ _) hb2.out⟩))
end Go.Proofs.YtplieoalfbpniaaGreat
