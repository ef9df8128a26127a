/- Stamps: Right (73, 76), sign (118), Compare (93), Below (12), To (11), From (13), place$1 (92). Versions: place$1 (92), Right (51, 53). -/
import Derived.Test.YtbaflgddpciadaaGreatRows
import Derived.Test.YtbaflgddpciadaaGreatKtU
import Derived.Test.YtbaflgddpciadaaGreatDG
import Derived.Deep.DeepFit
import Derived.BigQuiet
import Derived.Deep.QuietTactic
import Derived.Deep.RegionHeld3
import Derived.WalkLawsBesides
import Derived.Deep.CutBlock
import Derived.Deep.DeepCutAuto
set_option linter.unusedVariables false
set_option linter.unusedSimpArgs false
namespace Go.Proofs.YtbaflgddpciadaaGreat
open Go.RowKit Go.Kt Go.Sx
set_option maxRecDepth 100000

def _root_.Go.Sx.Tm.val (s : Tm) : Value := .agg #[.int .i64 s.wall, .int .u32 s.tick, .int .u32 s.mark]
def _root_.Go.Sx.Tm.cells (s : Tm) : List Value := [.int .i64 s.wall, .int .u32 s.tick, .int .u32 s.mark]
def stR (s : Tm) : Bool := decide (0 ≤ s.wall) && decide (s.wall ≤ 4611686018427387904)
def cmpT (a b : Tm) : Int := if a.lt b then -1 else if b.lt a then 1 else 0
theorem ret_bool {a b : Bool} (h : a = b) : Ending.returned (.bool a) = .returned (.bool b) := by rw [h]
theorem ret_int {k : IntKind} {a b : Int} (h : a = b) : Ending.returned (.int k a) = .returned (.int k b) := by rw [h]
theorem bel_trans {a b c : World} (h : Below a.heap.size a b) (k : Below b.heap.size b c) : Below a.heap.size a c := h.trans (k.mono h.size)
theorem bel_refl (a : World) : Below a.heap.size a a := Below.refl _ _
theorem bel_alloc {x y : World} {o : Obj} (h : Below x.heap.size x y) : Below x.heap.size x (y.alloc o) := h.alloc h.size o
theorem bel_drew {x y : World} (h : Below x.heap.size x y) : Below x.heap.size x y.drew := ⟨h.os, h.tape, h.output, h.size, h.block⟩
theorem bel_drewN {x y : World} (h : Below x.heap.size x y) (n : Nat) : Below x.heap.size x (y.drewN n) := ⟨h.os, h.tape, h.output, h.size, h.block⟩

set_option maxHeartbeats 400000 in
theorem str_any (s : Tm) (w : World) : Calls Tryz.prog 73 #[s.val] w fun e w' => e = .returned (.bool (stR s)) ∧ Below w.heap.size w w' := by
  generalize hp : stR s = p
  have Hp := Lib.hid hp
  clear hp
  obtain ⟨a, t, m⟩ := s
  unfold Tm.val
  unfold stR at Hp
  simp only at Hp ⊢
  by_cases h1 : 0 ≤ a
  · have HH : Hid (p = decide (a ≤ 4611686018427387904)) := Lib.hid (by rw [← Hp.out]; simp [h1])
    go_enter Tryz.func73, Tryz.ntmps73
    go_wp2_with fail
    go_ret
    exact ⟨by rw [HH.out]; rfl, below_alloc _ _⟩
  · have HH : Hid (p = false) := Lib.hid (by rw [← Hp.out]; simp [h1])
    have h3' : decide (0 ≤ a) = false := by simpa using h1
    go_enter Tryz.func73, Tryz.ntmps73
    go_wp2_with fail
    go_ret
    exact ⟨by rw [HH.out]; rfl, below_alloc _ _⟩
theorem to_any1 (s : Tm) (w : World) : Calls Tryz.prog 22 #[s.val] w fun e w' => e = .returned s.val ∧ Below w.heap.size w w' := by
  unfold Tm.val
  go_enter Tryz.func22, Tryz.ntmps22
  go_wp2_with fail
  refine bodyPost_ret (v := s.val) (by simp [results, Tryz.results22, go_sem, Tm.val]) rfl ⟨rfl, (below_alloc _ _).alloc (by simp) _⟩
theorem from_any1 (s : Tm) (w : World) : Calls Tryz.prog 83 #[s.val] w fun e w' => e = .returned s.val ∧ Below w.heap.size w w' := by
  unfold Tm.val
  go_enter Tryz.func83, Tryz.ntmps83
  go_wp2_with fail
  refine bodyPost_ret (v := s.val) (by simp [results, Tryz.results83, go_sem, Tm.val]) rfl ⟨rfl, (below_alloc _ _).alloc (by simp) _⟩
theorem sign_any (b : Bool) (w : World) : Calls Tryz.prog 84 #[.bool b] w fun e w' => e = .returned (.int .i64 (if b then -1 else 1)) ∧ w = w' := by
  cases b
  · go_enter Tryz.func84, Tryz.ntmps84
    go_wp2
    go_ret
    exact ⟨rfl, rfl⟩
  · go_enter Tryz.func84, Tryz.ntmps84
    go_wp2
    go_ret
    exact ⟨rfl, rfl⟩
theorem cmpT_cases (a b : Tm) : (a.wall ≠ b.wall ∧ cmpT a b = if decide (a.wall < b.wall) = true then -1 else 1) ∨ (a.wall = b.wall ∧ a.tick ≠ b.tick ∧ cmpT a b = if decide (a.tick < b.tick) = true then -1 else 1) ∨ (a.wall = b.wall ∧ a.tick = b.tick ∧ a.mark ≠ b.mark ∧ cmpT a b = if decide (a.mark < b.mark) = true then -1 else 1) ∨ (a.wall = b.wall ∧ a.tick = b.tick ∧ a.mark = b.mark ∧ cmpT a b = 0) := by
  unfold cmpT
  simp only [decide_eq_true_eq]
  by_cases p : a.lt b
  · rw [if_pos p]
    unfold Tm.lt at p
    by_cases h1 : a.wall = b.wall
    · by_cases h2 : a.tick = b.tick
      · refine .inr (.inr (.inl ⟨h1, h2, by omega, ?_⟩))
        rw [if_pos (by omega)]
      · refine .inr (.inl ⟨h1, h2, ?_⟩)
        rw [if_pos (by omega)]
    · refine .inl ⟨h1, ?_⟩
      rw [if_pos (by omega)]
  · rw [if_neg p]
    unfold Tm.lt at p
    by_cases q : b.lt a
    · rw [if_pos q]
      unfold Tm.lt at q
      by_cases h1 : a.wall = b.wall
      · by_cases h2 : a.tick = b.tick
        · refine .inr (.inr (.inl ⟨h1, h2, by omega, ?_⟩))
          rw [if_neg (by omega)]
        · refine .inr (.inl ⟨h1, h2, ?_⟩)
          rw [if_neg (by omega)]
      · refine .inl ⟨h1, ?_⟩
        rw [if_neg (by omega)]
    · rw [if_neg q]
      unfold Tm.lt at q
      exact .inr (.inr (.inr ⟨by omega, by omega, by omega, rfl⟩))
set_option maxHeartbeats 1000000 in
theorem compare_any (a b : Tm) (w : World) : Calls Tryz.prog 26 #[a.val, b.val] w fun e w' => e = .returned (.int .i64 (cmpT a b)) ∧ Below w.heap.size w w' := by
  have hc := cmpT_cases a b
  generalize hp : cmpT a b = p at hc ⊢
  clear hp
  obtain ⟨aw, at_, am⟩ := a
  obtain ⟨bw, bt, bm⟩ := b
  unfold Tm.val
  simp only at hc ⊢
  have hS := Lib.hid (fun (c : Bool) (W : World) => sign_any c W)
  rcases hc with ⟨h1, hc⟩ | ⟨rfl, h1, hc⟩ | ⟨rfl, rfl, h1, hc⟩ | ⟨rfl, rfl, rfl, hc⟩
  · have e1 : (aw == bw) = false := by simpa using h1
    clear h1
    by_cases h2 : aw < bw
    · rw [if_pos (by simpa using h2)] at hc
      subst hc
      go_enter Tryz.func26, Tryz.ntmps26
      go_wp2_with (go_at_call 84; refine (hS.out _ _).mono ?_; rintro e w1 ⟨rfl, rfl⟩)
      go_ret
      exact ⟨rfl, bel_alloc (below_alloc _ _)⟩
    · rw [if_neg (by simpa using h2)] at hc
      subst hc
      go_enter Tryz.func26, Tryz.ntmps26
      go_wp2_with (go_at_call 84; refine (hS.out _ _).mono ?_; rintro e w1 ⟨rfl, rfl⟩)
      go_ret
      exact ⟨rfl, bel_alloc (below_alloc _ _)⟩
  · have e1 : (at_ == bt) = false := by simpa using h1
    clear h1
    by_cases h2 : at_ < bt
    · rw [if_pos (by simpa using h2)] at hc
      subst hc
      go_enter Tryz.func26, Tryz.ntmps26
      go_wp2_with (go_at_call 84; refine (hS.out _ _).mono ?_; rintro e w1 ⟨rfl, rfl⟩)
      go_ret
      exact ⟨rfl, bel_alloc (below_alloc _ _)⟩
    · rw [if_neg (by simpa using h2)] at hc
      subst hc
      go_enter Tryz.func26, Tryz.ntmps26
      go_wp2_with (go_at_call 84; refine (hS.out _ _).mono ?_; rintro e w1 ⟨rfl, rfl⟩)
      go_ret
      exact ⟨rfl, bel_alloc (below_alloc _ _)⟩
  · have e1 : (am == bm) = false := by simpa using h1
    clear h1
    by_cases h2 : am < bm
    · rw [if_pos (by simpa using h2)] at hc
      subst hc
      go_enter Tryz.func26, Tryz.ntmps26
      go_wp2_with (go_at_call 84; refine (hS.out _ _).mono ?_; rintro e w1 ⟨rfl, rfl⟩)
      go_ret
      exact ⟨rfl, bel_alloc (below_alloc _ _)⟩
    · rw [if_neg (by simpa using h2)] at hc
      subst hc
      go_enter Tryz.func26, Tryz.ntmps26
      go_wp2_with (go_at_call 84; refine (hS.out _ _).mono ?_; rintro e w1 ⟨rfl, rfl⟩)
      go_ret
      exact ⟨rfl, bel_alloc (below_alloc _ _)⟩
  · subst hc
    go_enter Tryz.func26, Tryz.ntmps26
    go_wp2_with (go_at_call 84; refine (hS.out _ _).mono ?_; rintro e w1 ⟨rfl, rfl⟩)
    go_ret
    exact ⟨rfl, bel_alloc (below_alloc _ _)⟩
end Go.Proofs.YtbaflgddpciadaaGreat
namespace Go.Proofs.YtbaflgddpciadaaGreat
open Go.RowKit Go.Kt Go.Sx
set_option maxRecDepth 100000
def _root_.Go.Sx.Ver.val (v : Ver) : Value := .agg #[.int .i64 v.at_.wall, .int .u32 v.at_.tick, .int .u32 v.at_.mark, .int .i64 v.kind, .int .i64 v.num, .string v.text]
set_option maxHeartbeats 1000000 in
theorem placef_any (v : Ver) (t : Tm) (w : World) : Calls Tryz.prog 220 #[v.val, t.val] w fun e w' => e = .returned (.int .i64 (cmpT v.at_ t)) ∧ Below w.heap.size w w' := by
  obtain ⟨at_, kd, nm, tx⟩ := v
  have hC := Lib.hid (fun (W : World) => compare_any at_ t W)
  obtain ⟨aw, ak, am⟩ := at_
  obtain ⟨bw, bt, bm⟩ := t
  unfold Ver.val Tm.val
  unfold Tm.val at hC
  simp only at hC ⊢
  generalize cmpT ⟨aw, ak, am⟩ ⟨bw, bt, bm⟩ = p at hC ⊢
  go_enter Tryz.func220, Tryz.ntmps220
  go_wp2_with (go_at_call 26; refine (hC.out _).mono ?_; rintro e w1 ⟨rfl, hb1⟩)
  go_ret
  exact ⟨rfl, bel_trans (bel_alloc (below_alloc _ _)) hb1⟩

theorem isEmpty_size (s : ByteArray) : s.toList.isEmpty = decide (s.size = 0) := by
  rw [ByteArray.toList_eq]
  have e : s.data.toList.length = s.size := Array.length_toList
  rw [← e]
  cases s.data.toList with
  | nil => rfl
  | cons _ _ => rfl
theorem verR_cases (v : Ver) : (stR v.at_ = false ∧ decide (verR v) = false) ∨ (stR v.at_ = true ∧ 256 < v.text.size ∧ decide (verR v) = false) ∨
    (stR v.at_ = true ∧ v.text.size ≤ 256 ∧ v.kind = 1 ∧ decide (verR v) = v.text.toList.isEmpty) ∨ (stR v.at_ = true ∧ v.text.size ≤ 256 ∧ v.kind = 2 ∧ decide (verR v) = (v.num == 0)) ∨
    (stR v.at_ = true ∧ v.text.size ≤ 256 ∧ v.kind = 3 ∧ v.text.toList.isEmpty = false ∧ decide (verR v) = false) ∨ (stR v.at_ = true ∧ v.text.size ≤ 256 ∧ v.kind = 3 ∧ v.text.toList.isEmpty = true ∧ decide (verR v) = (v.num == 0)) ∨
    (stR v.at_ = true ∧ v.text.size ≤ 256 ∧ v.kind < 1 ∧ decide (verR v) = false) ∨ (stR v.at_ = true ∧ v.text.size ≤ 256 ∧ 3 < v.kind ∧ decide (verR v) = false) := by
  rw [isEmpty_size]
  have hn : (v.num == 0) = decide (v.num = 0) := by simp [BEq.beq]
  rw [hn]
  unfold stR
  simp only [← Bool.decide_and, decide_eq_true_eq, decide_eq_false_iff_not]
  by_cases h1 : 0 ≤ v.at_.wall ∧ v.at_.wall ≤ 4611686018427387904
  · by_cases h2 : 256 < v.text.size
    · exact .inr (.inl ⟨h1, h2, by unfold verR; omega⟩)
    · have h2' : v.text.size ≤ 256 := by omega
      by_cases k1 : v.kind = 1
      · exact .inr (.inr (.inl ⟨h1, h2', k1, decide_eq_decide.2 (by unfold verR; omega)⟩))
      by_cases k2 : v.kind = 2
      · exact .inr (.inr (.inr (.inl ⟨h1, h2', k2, decide_eq_decide.2 (by unfold verR; omega)⟩)))
      by_cases k3 : v.kind = 3
      · by_cases h3 : v.text.size = 0
        · exact .inr (.inr (.inr (.inr (.inr (.inl ⟨h1, h2', k3, h3, decide_eq_decide.2 (by unfold verR; omega)⟩)))))
        · exact .inr (.inr (.inr (.inr (.inl ⟨h1, h2', k3, h3, by unfold verR; omega⟩))))
      by_cases k4 : v.kind < 1
      · exact .inr (.inr (.inr (.inr (.inr (.inr (.inl ⟨h1, h2', k4, by unfold verR; omega⟩))))))
      · exact .inr (.inr (.inr (.inr (.inr (.inr (.inr ⟨h1, h2', by omega, by unfold verR; omega⟩))))))
  · exact .inl ⟨h1, by unfold verR; omega⟩
theorem bne_of {a b : Int} (h : a ≠ b) : (a == b) = false := by simpa using h
set_option maxHeartbeats 2000000 in
theorem verR_any (v : Ver) (w : World) (hs : v.text.size ≤ maxLen) : Calls Tryz.prog 160 #[v.val] w fun e w' => e = .returned (.bool (decide (verR v))) ∧ Below w.heap.size w w' := by
  have hc := verR_cases v
  have hS := Lib.hid (fun (W : World) => str_any v.at_ W)
  generalize decide (verR v) = p at hc ⊢
  unfold maxLen at hs
  obtain ⟨⟨aw, at_, am⟩, kd, nm, tx⟩ := v
  unfold Ver.val
  unfold Tm.val at hS
  simp only at hc ⊢ hS hs
  rcases hc with ⟨h1, rfl⟩ | ⟨h1, h2, rfl⟩ | ⟨h1, h2, rfl, hp⟩ | ⟨h1, h2, rfl, hp⟩ | ⟨h1, h2, rfl, h3, rfl⟩ | ⟨h1, h2, rfl, h3, hp⟩ | ⟨h1, h2, h3, rfl⟩ | ⟨h1, h2, h3, rfl⟩
  all_goals rw [h1] at hS
  all_goals clear h1
  · go_enter Tryz.func160, Tryz.ntmps160
    go_wp2_with (go_at_call 73; refine (hS.out _).mono ?_; rintro e w1 ⟨rfl, hb1⟩)
    go_ret
    exact ⟨rfl, bel_trans (below_alloc _ _) hb1⟩
  · go_enter Tryz.func160, Tryz.ntmps160
    go_wp2_with (go_at_call 73; refine (hS.out _).mono ?_; rintro e w1 ⟨rfl, hb1⟩; have hb2 := Lib.hid hb1; have hx := (Blk.new w #[.int .i64 aw, .int .u32 at_, .int .u32 am, .int .i64 kd, .int .i64 nm, .string tx] 270).next hb1; have x3 : w1.cell? ⟨w.heap.size, 3, none⟩ = some (.int .i64 kd) := hx.cell 3; have x4 : w1.cell? ⟨w.heap.size, 4, none⟩ = some (.int .i64 nm) := hx.cell 4; have x5 : w1.cell? ⟨w.heap.size, 5, none⟩ = some (.string tx) := hx.cell 5; clear hb1 hx)
    go_ret
    exact ⟨rfl, bel_trans (below_alloc _ _) hb2.out⟩
  · have Hp := Lib.hid hp
    clear hp
    go_enter Tryz.func160, Tryz.ntmps160
    go_wp2_with (go_at_call 73; refine (hS.out _).mono ?_; rintro e w1 ⟨rfl, hb1⟩; have hb2 := Lib.hid hb1; have hx := (Blk.new w #[.int .i64 aw, .int .u32 at_, .int .u32 am, .int .i64 1, .int .i64 nm, .string tx] 270).next hb1; have x3 : w1.cell? ⟨w.heap.size, 3, none⟩ = some (.int .i64 1) := hx.cell 3; have x4 : w1.cell? ⟨w.heap.size, 4, none⟩ = some (.int .i64 nm) := hx.cell 4; have x5 : w1.cell? ⟨w.heap.size, 5, none⟩ = some (.string tx) := hx.cell 5; clear hb1 hx)
    go_ret
    exact ⟨ret_bool Hp.out.symm, bel_trans (below_alloc _ _) hb2.out⟩
  · have Hp := Lib.hid hp
    clear hp
    go_enter Tryz.func160, Tryz.ntmps160
    go_wp2_with (go_at_call 73; refine (hS.out _).mono ?_; rintro e w1 ⟨rfl, hb1⟩; have hb2 := Lib.hid hb1; have hx := (Blk.new w #[.int .i64 aw, .int .u32 at_, .int .u32 am, .int .i64 2, .int .i64 nm, .string tx] 270).next hb1; have x3 : w1.cell? ⟨w.heap.size, 3, none⟩ = some (.int .i64 2) := hx.cell 3; have x4 : w1.cell? ⟨w.heap.size, 4, none⟩ = some (.int .i64 nm) := hx.cell 4; have x5 : w1.cell? ⟨w.heap.size, 5, none⟩ = some (.string tx) := hx.cell 5; clear hb1 hx)
    go_ret
    exact ⟨ret_bool Hp.out.symm, bel_trans (below_alloc _ _) hb2.out⟩
  · go_enter Tryz.func160, Tryz.ntmps160
    go_wp2_with (go_at_call 73; refine (hS.out _).mono ?_; rintro e w1 ⟨rfl, hb1⟩; have hb2 := Lib.hid hb1; have hx := (Blk.new w #[.int .i64 aw, .int .u32 at_, .int .u32 am, .int .i64 3, .int .i64 nm, .string tx] 270).next hb1; have x3 : w1.cell? ⟨w.heap.size, 3, none⟩ = some (.int .i64 3) := hx.cell 3; have x4 : w1.cell? ⟨w.heap.size, 4, none⟩ = some (.int .i64 nm) := hx.cell 4; have x5 : w1.cell? ⟨w.heap.size, 5, none⟩ = some (.string tx) := hx.cell 5; clear hb1 hx)
    go_ret
    exact ⟨rfl, bel_trans (below_alloc _ _) hb2.out⟩
  · have Hp := Lib.hid hp
    clear hp
    go_enter Tryz.func160, Tryz.ntmps160
    go_wp2_with (go_at_call 73; refine (hS.out _).mono ?_; rintro e w1 ⟨rfl, hb1⟩; have hb2 := Lib.hid hb1; have hx := (Blk.new w #[.int .i64 aw, .int .u32 at_, .int .u32 am, .int .i64 3, .int .i64 nm, .string tx] 270).next hb1; have x3 : w1.cell? ⟨w.heap.size, 3, none⟩ = some (.int .i64 3) := hx.cell 3; have x4 : w1.cell? ⟨w.heap.size, 4, none⟩ = some (.int .i64 nm) := hx.cell 4; have x5 : w1.cell? ⟨w.heap.size, 5, none⟩ = some (.string tx) := hx.cell 5; clear hb1 hx)
    go_ret
    exact ⟨ret_bool Hp.out.symm, bel_trans (below_alloc _ _) hb2.out⟩
  all_goals
    have k1 : (kd == 1) = false := bne_of (by omega)
    have k2 : (kd == 2) = false := bne_of (by omega)
    have k3 : (kd == 3) = false := bne_of (by omega)
    clear h3
    go_enter Tryz.func160, Tryz.ntmps160
    go_wp2_with (go_at_call 73; refine (hS.out _).mono ?_; rintro e w1 ⟨rfl, hb1⟩; have hb2 := Lib.hid hb1; have hx := (Blk.new w #[.int .i64 aw, .int .u32 at_, .int .u32 am, .int .i64 kd, .int .i64 nm, .string tx] 270).next hb1; have x3 : w1.cell? ⟨w.heap.size, 3, none⟩ = some (.int .i64 kd) := hx.cell 3; have x4 : w1.cell? ⟨w.heap.size, 4, none⟩ = some (.int .i64 nm) := hx.cell 4; have x5 : w1.cell? ⟨w.heap.size, 5, none⟩ = some (.string tx) := hx.cell 5; clear hb1 hx)
    go_ret
    exact ⟨rfl, bel_trans (below_alloc _ _) hb2.out⟩
end Go.Proofs.YtbaflgddpciadaaGreat
