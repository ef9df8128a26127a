/- Versions: place$1 (92), Right (51, 53). -/
import Derived.Test.YtplieoalfbpniaaGreatS1
import Derived.Test.YtplieoalfbpniaaGreatKtB
import Derived.BigQuiet
import Derived.Deep.QuietTactic
import Derived.Deep.RegionHeld3
import Derived.Deep.DeepFit
import Derived.WalkLawsBesides
import Derived.Deep.CutBlock
import Derived.Deep.DeepCutAuto
namespace Go.Proofs.YtplieoalfbpniaaGreat
open Go.RowKit Go.Kt Go.Sx
set_option maxRecDepth 100000
def _root_.Go.Sx.Ver.val (v : Ver) : Value := .agg #[.int .i64 v.at_.wall, .int .u32 v.at_.tick, .int .u32 v.at_.mark, .int .i64 v.kind, .int .i64 v.num, .string v.text]
set_option maxHeartbeats 1000000 in
theorem placef_any (v : Ver) (t : Tm) (w : World) : Calls Tryz.prog 92 #[v.val, t.val] w fun e w' => e = .returned (.int .i64 (cmpT v.at_ t)) ∧ Below w.heap.size w w' := by
  obtain ⟨at_, kd, nm, tx⟩ := v
  have hC := Lib.hid (fun (W : World) => compare_any at_ t W)
  obtain ⟨aw, ak, am⟩ := at_
  obtain ⟨bw, bt, bm⟩ := t
  unfold Ver.val Tm.val
  unfold Tm.val at hC
  simp only at hC ⊢
  generalize cmpT ⟨aw, ak, am⟩ ⟨bw, bt, bm⟩ = p at hC ⊢
  go_enter Tryz.func92, Tryz.ntmps92
  go_wp2_with (go_at_call 93; refine (hC.out _).mono ?_; rintro e w1 ⟨rfl, hb1⟩)
  go_ret
  exact ⟨rfl, bel_trans (bel_alloc (below_alloc _ _)) hb1⟩

theorem isEmpty_size (s : ByteArray) : s.toList.isEmpty = decide (s.size = 0) := by
  rw [ByteArray.toList_eq]
  have e : s.data.toList.length = s.size := Array.length_toList
  rw [← e]
  cases s.data.toList with
  | nil => rfl
  | cons _ _ => rfl
theorem verR_cases (v : Ver) : (stR v.at_ = false ∧ decide (verR v) = false) ∨ (stR v.at_ = true ∧ 256 < v.text.size ∧ decide (verR v) = false) ∨
    (stR v.at_ = true ∧ v.text.size ≤ 256 ∧ v.kind = 1 ∧ decide (verR v) = v.text.toList.isEmpty) ∨ (stR v.at_ = true ∧ v.text.size ≤ 256 ∧ v.kind = 2 ∧ decide (verR v) = (v.num == 0)) ∨
    (stR v.at_ = true ∧ v.text.size ≤ 256 ∧ v.kind = 3 ∧ v.text.toList.isEmpty = false ∧ decide (verR v) = false) ∨ (stR v.at_ = true ∧ v.text.size ≤ 256 ∧ v.kind = 3 ∧ v.text.toList.isEmpty = true ∧ decide (verR v) = (v.num == 0)) ∨
    (stR v.at_ = true ∧ v.text.size ≤ 256 ∧ v.kind < 1 ∧ decide (verR v) = false) ∨ (stR v.at_ = true ∧ v.text.size ≤ 256 ∧ 3 < v.kind ∧ decide (verR v) = false) := by
  rw [isEmpty_size]
  have hn : (v.num == 0) = decide (v.num = 0) := by simp [BEq.beq]
  rw [hn]
  unfold stR
  simp only [← Bool.decide_and, decide_eq_true_eq, decide_eq_false_iff_not]
  by_cases h1 : 0 ≤ v.at_.wall ∧ v.at_.wall ≤ 4611686018427387904
  · by_cases h2 : 256 < v.text.size
    · exact .inr (.inl ⟨h1, h2, by unfold verR; omega⟩)
    · have h2' : v.text.size ≤ 256 := by omega
      by_cases k1 : v.kind = 1
      · exact .inr (.inr (.inl ⟨h1, h2', k1, decide_eq_decide.2 (by unfold verR; omega)⟩))
      by_cases k2 : v.kind = 2
      · exact .inr (.inr (.inr (.inl ⟨h1, h2', k2, decide_eq_decide.2 (by unfold verR; omega)⟩)))
      by_cases k3 : v.kind = 3
      · by_cases h3 : v.text.size = 0
        · exact .inr (.inr (.inr (.inr (.inr (.inl ⟨h1, h2', k3, h3, decide_eq_decide.2 (by unfold verR; omega)⟩)))))
        · exact .inr (.inr (.inr (.inr (.inl ⟨h1, h2', k3, h3, by unfold verR; omega⟩))))
      by_cases k4 : v.kind < 1
      · exact .inr (.inr (.inr (.inr (.inr (.inr (.inl ⟨h1, h2', k4, by unfold verR; omega⟩))))))
      · exact .inr (.inr (.inr (.inr (.inr (.inr (.inr ⟨h1, h2', by omega, by unfold verR; omega⟩))))))
  · exact .inl ⟨h1, by unfold verR; omega⟩
theorem bne_of {a b : Int} (h : a ≠ b) : (a == b) = false := by simpa using h
set_option maxHeartbeats 2000000 in
theorem verR_any (v : Ver) (w : World) (hs : v.text.size ≤ maxLen) : Calls Tryz.prog 51 #[v.val] w fun e w' => e = .returned (.bool (decide (verR v))) ∧ Below w.heap.size w w' := by
  have hc := verR_cases v
  have hS := Lib.hid (fun (W : World) => str_any v.at_ W)
  generalize decide (verR v) = p at hc ⊢
  unfold maxLen at hs
  obtain ⟨⟨aw, at_, am⟩, kd, nm, tx⟩ := v
  unfold Ver.val
  unfold Tm.val at hS
  simp only at hc ⊢ hS hs
  rcases hc with ⟨h1, rfl⟩ | ⟨h1, h2, rfl⟩ | ⟨h1, h2, rfl, hp⟩ | ⟨h1, h2, rfl, hp⟩ | ⟨h1, h2, rfl, h3, rfl⟩ | ⟨h1, h2, rfl, h3, hp⟩ | ⟨h1, h2, h3, rfl⟩ | ⟨h1, h2, h3, rfl⟩
  all_goals rw [h1] at hS
  all_goals clear h1
  · go_enter Tryz.func51, Tryz.ntmps51
    go_wp2_with (go_at_call 73; refine (hS.out _).mono ?_; rintro e w1 ⟨rfl, hb1⟩)
    go_ret
    exact ⟨rfl, bel_trans (below_alloc _ _) hb1⟩
  · go_enter Tryz.func51, Tryz.ntmps51
    go_wp2_with (go_at_call 73; refine (hS.out _).mono ?_; rintro e w1 ⟨rfl, hb1⟩; have hb2 := Lib.hid hb1; have hx := (Blk.new w #[.int .i64 aw, .int .u32 at_, .int .u32 am, .int .i64 kd, .int .i64 nm, .string tx] 98).next hb1; have x3 : w1.cell? ⟨w.heap.size, 3, none⟩ = some (.int .i64 kd) := hx.cell 3; have x4 : w1.cell? ⟨w.heap.size, 4, none⟩ = some (.int .i64 nm) := hx.cell 4; have x5 : w1.cell? ⟨w.heap.size, 5, none⟩ = some (.string tx) := hx.cell 5; clear hb1 hx)
    go_ret
    exact ⟨rfl, bel_trans (below_alloc _ _) hb2.out⟩
  · have Hp := Lib.hid hp
    clear hp
    go_enter Tryz.func51, Tryz.ntmps51
    go_wp2_with (go_at_call 73; refine (hS.out _).mono ?_; rintro e w1 ⟨rfl, hb1⟩; have hb2 := Lib.hid hb1; have hx := (Blk.new w #[.int .i64 aw, .int .u32 at_, .int .u32 am, .int .i64 1, .int .i64 nm, .string tx] 98).next hb1; have x3 : w1.cell? ⟨w.heap.size, 3, none⟩ = some (.int .i64 1) := hx.cell 3; have x4 : w1.cell? ⟨w.heap.size, 4, none⟩ = some (.int .i64 nm) := hx.cell 4; have x5 : w1.cell? ⟨w.heap.size, 5, none⟩ = some (.string tx) := hx.cell 5; clear hb1 hx)
    go_ret
    exact ⟨ret_bool Hp.out.symm, bel_trans (below_alloc _ _) hb2.out⟩
  · have Hp := Lib.hid hp
    clear hp
    go_enter Tryz.func51, Tryz.ntmps51
    go_wp2_with (go_at_call 73; refine (hS.out _).mono ?_; rintro e w1 ⟨rfl, hb1⟩; have hb2 := Lib.hid hb1; have hx := (Blk.new w #[.int .i64 aw, .int .u32 at_, .int .u32 am, .int .i64 2, .int .i64 nm, .string tx] 98).next hb1; have x3 : w1.cell? ⟨w.heap.size, 3, none⟩ = some (.int .i64 2) := hx.cell 3; have x4 : w1.cell? ⟨w.heap.size, 4, none⟩ = some (.int .i64 nm) := hx.cell 4; have x5 : w1.cell? ⟨w.heap.size, 5, none⟩ = some (.string tx) := hx.cell 5; clear hb1 hx)
    go_ret
    exact ⟨ret_bool Hp.out.symm, bel_trans (below_alloc _ _) hb2.out⟩
  · go_enter Tryz.func51, Tryz.ntmps51
    go_wp2_with (go_at_call 73; refine (hS.out _).mono ?_; rintro e w1 ⟨rfl, hb1⟩; have hb2 := Lib.hid hb1; have hx := (Blk.new w #[.int .i64 aw, .int .u32 at_, .int .u32 am, .int .i64 3, .int .i64 nm, .string tx] 98).next hb1; have x3 : w1.cell? ⟨w.heap.size, 3, none⟩ = some (.int .i64 3) := hx.cell 3; have x4 : w1.cell? ⟨w.heap.size, 4, none⟩ = some (.int .i64 nm) := hx.cell 4; have x5 : w1.cell? ⟨w.heap.size, 5, none⟩ = some (.string tx) := hx.cell 5; clear hb1 hx)
    go_ret
    exact ⟨rfl, bel_trans (below_alloc _ _) hb2.out⟩
  · have Hp := Lib.hid hp
    clear hp
    go_enter Tryz.func51, Tryz.ntmps51
    go_wp2_with (go_at_call 73; refine (hS.out _).mono ?_; rintro e w1 ⟨rfl, hb1⟩; have hb2 := Lib.hid hb1; have hx := (Blk.new w #[.int .i64 aw, .int .u32 at_, .int .u32 am, .int .i64 3, .int .i64 nm, .string tx] 98).next hb1; have x3 : w1.cell? ⟨w.heap.size, 3, none⟩ = some (.int .i64 3) := hx.cell 3; have x4 : w1.cell? ⟨w.heap.size, 4, none⟩ = some (.int .i64 nm) := hx.cell 4; have x5 : w1.cell? ⟨w.heap.size, 5, none⟩ = some (.string tx) := hx.cell 5; clear hb1 hx)
    go_ret
    exact ⟨ret_bool Hp.out.symm, bel_trans (below_alloc _ _) hb2.out⟩
  all_goals
    have k1 : (kd == 1) = false := bne_of (by omega)
    have k2 : (kd == 2) = false := bne_of (by omega)
    have k3 : (kd == 3) = false := bne_of (by omega)
    clear h3
    go_enter Tryz.func51, Tryz.ntmps51
    go_wp2_with (go_at_call 73; refine (hS.out _).mono ?_; rintro e w1 ⟨rfl, hb1⟩; have hb2 := Lib.hid hb1; have hx := (Blk.new w #[.int .i64 aw, .int .u32 at_, .int .u32 am, .int .i64 kd, .int .i64 nm, .string tx] 98).next hb1; have x3 : w1.cell? ⟨w.heap.size, 3, none⟩ = some (.int .i64 kd) := hx.cell 3; have x4 : w1.cell? ⟨w.heap.size, 4, none⟩ = some (.int .i64 nm) := hx.cell 4; have x5 : w1.cell? ⟨w.heap.size, 5, none⟩ = some (.string tx) := hx.cell 5; clear hb1 hx)
    go_ret
    exact ⟨rfl, bel_trans (below_alloc _ _) hb2.out⟩
end Go.Proofs.YtplieoalfbpniaaGreat
