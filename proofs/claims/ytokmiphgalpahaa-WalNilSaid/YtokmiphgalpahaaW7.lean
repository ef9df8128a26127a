/- The disk's Read (14), Fuse (12), Sync (11). -/
import Derived.Test.YtokmiphgalpahaaW6
namespace Go.Proofs.Ytokmiphgalpahaa
open Go.RowKit Go.Kt
set_option maxRecDepth 100000
variable {F : Nat → Prop} {w w' : World} {d mb : Nat} {room fuse : Int} {down : Bool} {l : List Sg}

theorem used_has {s : Sg} : ∀ {l : List Sg}, s ∈ l → s.b.length ≤ used l
  | [], h => by cases h
  | t :: ks, h => by
    have e : used (t :: ks) = t.b.length + used ks := by simp [used]
    rcases List.mem_cons.1 h with rfl | h
    · omega
    · have := used_has h
      omega
theorem DiskIs.small (h : DiskIs F w d mb room fuse down l) {s : Sg} (hs : s ∈ l) : s.b.length ≤ 67108864 := by
  have := used_has hs
  have := h.tot
  have := h.room1
  omega
/-- Read (14): a copy of the segment's bytes -/
theorem read_yes (h : DiskIs F w d mb room fuse false l) {s : Sg} (hs : s ∈ l) : Calls Try.prog 21 #[.pointer (some ⟨d, 0, none⟩), .int .i64 s.n] w fun e w' => ∃ v, e = .returned (.tuple #[v, .int .i64 0]) ∧ Mine8 5 w w' v s.b ∧ Below w.heap.size w w' := by
  have k0 : w.cell? ⟨s.g, 0, none⟩ = some s.v := (h.seg s hs).1.cell 0
  have hv := (h.seg s hs).2.1.rd
  have hsm := h.small hs
  have H := Lib.hid h
  have Hs := Lib.hid hs
  have Hv : Hid (Rd8 w s.v s.b) := Lib.hid hv
  clear h hs hv
  go_enter Try.func21, Try.ntmps21
  go_wp2_with (first
    | (go_at_call 47; refine (find_yes H.out Hs.out).mono ?_; rintro e w1 ⟨rfl, rfl⟩)
    | (go_at_call 48; refine (clone_any s.v s.b w Hv.out (by omega)).mono ?_; rintro e w2 ⟨v2, rfl, hm, hb⟩; have Hm := Lib.hid hm; have Hb := Lib.hid hb; clear hm hb))
  go_ret2
  exact ⟨_, rfl, Hm.out, Hb.out⟩
theorem read_no (h : DiskIs F w d mb room fuse false l) {n : Int} (hn : Rng n) (hl : Lacks l n) : Calls Try.prog 21 #[.pointer (some ⟨d, 0, none⟩), .int .i64 n] w fun e w' => e = .returned (.tuple #[.slice none 0 0, .int .i64 6]) ∧ w = w' := by
  have H := Lib.hid h
  have Hn := Lib.hid hn
  have Hl := Lib.hid hl
  clear h hn hl
  go_enter Try.func21, Try.ntmps21
  go_wp2_with (go_at_call 47; refine (find_no H.out Hn.out Hl.out).mono ?_; rintro e w1 ⟨rfl, rfl⟩)
  go_ret2
  exact ⟨rfl, rfl⟩
theorem read_down (h : DiskIs F w d mb room fuse true l) (n : Int) : Calls Try.prog 21 #[.pointer (some ⟨d, 0, none⟩), .int .i64 n] w fun e w' => e = .returned (.tuple #[.slice none 0 0, .int .i64 5]) ∧ w = w' := by
  have H := Lib.hid h
  clear h
  go_enter Try.func21, Try.ntmps21
  go_wp2_with (go_at_call 47; refine (find_down H.out n).mono ?_; rintro e w1 ⟨rfl, rfl⟩)
  go_ret2
  exact ⟨rfl, rfl⟩
theorem read_nil (w : World) (n : Int) : Calls Try.prog 21 #[.pointer none, .int .i64 n] w fun e w' => e = .returned (.tuple #[.slice none 0 0, .int .i64 2]) ∧ w = w' := by
  go_enter Try.func21, Try.ntmps21
  go_wp2_with (go_at_call 47; refine (find_nil w n).mono ?_; rintro e w1 ⟨rfl, rfl⟩)
  go_ret2
  exact ⟨rfl, rfl⟩

/-- Fuse (12) -/
theorem fuse_yes (h : DiskIs F w d mb room fuse false l) {n : Int} (hn : Rng n) : Calls Try.prog 32 #[.pointer (some ⟨d, 0, none⟩), .int .i64 n] w fun e w' => e = .returned (.int .i64 0) ∧ DiskIs F w' d mb room (max n (-1)) false l ∧ Turn (· = d) w w' := by
  have hb := h.blk
  have hdl := hb.lt
  have fz2 : w.frozen? ⟨d, 2, none⟩ = false := hb.free 2
  obtain ⟨c0, c1, c2, c3⟩ := h.cell
  obtain ⟨n1, n2⟩ := hn
  have H := Lib.hid h
  have HT : Hid (Turn (· = d) w (w.setCell ⟨d, 2, none⟩ (.int .i64 (max n (-1))))) := Lib.hid ((Turn.refl (· = d) w).set (a := ⟨d, 2, none⟩) rfl _)
  have HD : Hid (DiskIs F (w.setCell ⟨d, 2, none⟩ (.int .i64 (max n (-1)))) d mb room (max n (-1)) false l) := Lib.hid (H.out.own (hb.set 2 _) HT.out (by omega) (by omega))
  clear h hb
  go_enter Try.func32, Try.ntmps32
  go_wp2_with (go_at_call 44; refine (up_any H.out).mono ?_; rintro e w1 ⟨rfl, rfl⟩)
  go_ret
  exact ⟨rfl, HD.out, HT.out⟩
theorem fuse_down (h : DiskIs F w d mb room fuse true l) (n : Int) : Calls Try.prog 32 #[.pointer (some ⟨d, 0, none⟩), .int .i64 n] w fun e w' => e = .returned (.int .i64 5) ∧ w = w' := by
  have H := Lib.hid h
  clear h
  go_enter Try.func32, Try.ntmps32
  go_wp2_with (go_at_call 44; refine (up_any H.out).mono ?_; rintro e w1 ⟨rfl, rfl⟩)
  go_ret
  exact ⟨rfl, rfl⟩
theorem fuse_nil (w : World) (n : Int) : Calls Try.prog 32 #[.pointer none, .int .i64 n] w fun e w' => e = .returned (.int .i64 2) ∧ w = w' := by
  go_enter Try.func32, Try.ntmps32
  go_wp2_with (go_at_call 44; refine (up_nil _).mono ?_; rintro e w1 ⟨rfl, rfl⟩)
  go_ret
  exact ⟨rfl, rfl⟩
end Go.Proofs.Ytokmiphgalpahaa
