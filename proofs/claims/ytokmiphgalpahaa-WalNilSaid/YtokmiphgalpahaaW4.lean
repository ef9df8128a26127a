/- The disk's find (24). -/
import Derived.Test.YtokmiphgalpahaaW3
namespace Go.Proofs.Ytokmiphgalpahaa
open Go.RowKit Go.Kt
set_option maxRecDepth 100000
variable {F : Nat → Prop} {w w' : World} {d mb : Nat} {room fuse : Int} {down : Bool} {l : List Sg}

theorem key3 : Maps.Keyed Try.prog 3 := Maps.int_keyed Try.underlying3
theorem zero52 (w : World) : (zeroValue 90).run Try.prog w = .ok (.pointer none) w := by kernel_rfl
def Rng (n : Int) : Prop := -9223372036854775808 ≤ n ∧ n ≤ 9223372036854775807
theorem wf64 {n : Int} (h : Rng n) : (Lit.int .i64 n).wf = true := by
  obtain ⟨h1, h2⟩ := h
  have e1 : IntKind.i64.min = -9223372036854775808 := by decide
  have e2 : IntKind.i64.max = 9223372036854775807 := by decide
  simp only [Lit.wf, e1, e2]
  simp
  omega
theorem keyOf3 {n : Int} (h : Rng n) : keyOf Try.prog 3 (.int .i64 n) = some (.int .i64 n) := Maps.keyOf_int_mk Try.underlying3 (wf64 h)
def Lacks (l : List Sg) (n : Int) : Prop := ∀ s ∈ l, s.n ≠ n
theorem look_yes (h : DiskIs F w d mb room fuse down l) {s : Sg} (hs : s ∈ l) : (Instr.lookup 67 (.map (some mb)) (.int .i64 s.n) true).run Try.prog w = .ok (.tuple #[s.ptr, .bool true]) w := by
  obtain ⟨f, hm, hf⟩ := h.map
  have h1 := (h.seg s hs).2.2.2
  rw [hm.look key3 Try.underlying67 (zero52 w) (keyOf3 ⟨by omega, by omega⟩), (hf _ _).2 ⟨s, hs, rfl, rfl⟩]
  rfl
theorem look_no (h : DiskIs F w d mb room fuse down l) {n : Int} (hn : Rng n) (hl : Lacks l n) : (Instr.lookup 67 (.map (some mb)) (.int .i64 n) true).run Try.prog w = .ok (.tuple #[.pointer none, .bool false]) w := by
  obtain ⟨f, hm, hf⟩ := h.map
  rw [hm.look key3 Try.underlying67 (zero52 w) (keyOf3 hn)]
  cases he : f (.int .i64 n) with
  | none => rfl
  | some v =>
    obtain ⟨s, hs, e1, _⟩ := (hf _ _).1 he
    injection e1 with _ e1
    exact (hl s hs e1.symm).elim
theorem lacks_or (l : List Sg) (n : Int) : Lacks l n ∨ ∃ s ∈ l, s.n = n := by
  by_cases h : ∃ s ∈ l, s.n = n
  · exact .inr h
  · exact .inl fun s hs hn => h ⟨s, hs, hn⟩

theorem find_yes (h : DiskIs F w d mb room fuse false l) {s : Sg} (hs : s ∈ l) : Calls Try.prog 47 #[.pointer (some ⟨d, 0, none⟩), .int .i64 s.n] w fun e w' => e = .returned (.tuple #[.pointer (some ⟨s.g, 0, none⟩), .int .i64 0]) ∧ w = w' := by
  obtain ⟨c0, c1, c2, c3⟩ := h.cell
  have hl := look_yes h hs
  unfold Sg.ptr at hl
  have H := Lib.hid h
  clear h hs
  go_enter Try.func47, Try.ntmps47
  go_wp2_with (go_at_call 44; refine (up_any H.out).mono ?_; rintro e w1 ⟨rfl, rfl⟩)
  go_ret2
  exact ⟨rfl, rfl⟩
theorem find_no (h : DiskIs F w d mb room fuse false l) {n : Int} (hn : Rng n) (hl : Lacks l n) : Calls Try.prog 47 #[.pointer (some ⟨d, 0, none⟩), .int .i64 n] w fun e w' => e = .returned (.tuple #[.pointer none, .int .i64 6]) ∧ w = w' := by
  obtain ⟨c0, c1, c2, c3⟩ := h.cell
  have hl := look_no h hn hl
  have H := Lib.hid h
  clear h hn
  go_enter Try.func47, Try.ntmps47
  go_wp2_with (go_at_call 44; refine (up_any H.out).mono ?_; rintro e w1 ⟨rfl, rfl⟩)
  go_ret2
  exact ⟨rfl, rfl⟩
theorem find_down (h : DiskIs F w d mb room fuse true l) (n : Int) : Calls Try.prog 47 #[.pointer (some ⟨d, 0, none⟩), .int .i64 n] w fun e w' => e = .returned (.tuple #[.pointer none, .int .i64 5]) ∧ w = w' := by
  have H := Lib.hid h
  clear h
  go_enter Try.func47, Try.ntmps47
  go_wp2_with (go_at_call 44; refine (up_any H.out).mono ?_; rintro e w1 ⟨rfl, rfl⟩)
  go_ret2
  exact ⟨rfl, rfl⟩
theorem find_nil (w : World) (n : Int) : Calls Try.prog 47 #[.pointer none, .int .i64 n] w fun e w' => e = .returned (.tuple #[.pointer none, .int .i64 2]) ∧ w = w' := by
  go_enter Try.func47, Try.ntmps47
  go_wp2_with (go_at_call 44; refine (up_nil _).mono ?_; rintro e w1 ⟨rfl, rfl⟩)
  go_ret2
  exact ⟨rfl, rfl⟩
end Go.Proofs.Ytokmiphgalpahaa
