/- Gates: the contract of find (17). -/
import Derived.Test.YtjeecffhclhbaaaW2
namespace Go.Proofs.Ytjeecffhclhbaaa
open Go.RowKit Go.Kt
theorem key9 : Maps.Keyed Try.prog 9 := Maps.string_keyed Try.underlying9
theorem zero53 (w : World) : (zeroValue 53).run Try.prog w = .ok (.agg #[.int .i64 0, .int .i64 0]) w := by kernel_rfl
def kl (s : ByteArray) : Lit := .string s.data.toList
theorem keyOf9 (s : ByteArray) (hs : s.size ≤ 9223372036854775807) : keyOf Try.prog 9 (.string s) = some (kl s) := WideMaps.keyOf_string_mk Try.underlying9 (by unfold maxLen; exact hs)
def findF (G : Gt) (s : ByteArray) (t : Int) : (Int × Int) := match G.f (kl s) with | none => (G.burst, t) | some b => fillF G b t
theorem find_look {w : World} {g m : Nat} {G : Gt} (h : GateAt w g m G) (s : ByteArray) (hs : s.size ≤ 9223372036854775807) :
    (Instr.lookup 49 (.map (some m)) (.string s) true).run Try.prog w = .ok (.tuple #[((G.f (kl s)).map bkt).getD (.agg #[.int .i64 0, .int .i64 0]), .bool (G.f (kl s)).isSome]) w := by
  rw [h.2.look key9 Try.underlying49 (zero53 w) (keyOf9 s hs)]
  cases G.f (kl s) <;> rfl

set_option maxHeartbeats 1000000 in
theorem find_any (g m : Nat) (G : Gt) (s : ByteArray) (t : Int) (w : World) (hG : GateAt w g m G) (hok : G.ok) (hs : s.size ≤ 9223372036854775807) (h5 : 0 ≤ t) (h6 : t ≤ 4611686018427387904) :
    Calls Try.prog 17 #[.pointer (some ⟨g, 0, none⟩), .string s, .int .i64 t] w fun e w' => e = .returned (.tuple #[.agg #[.int .i64 (findF G s t).1, .int .i64 (findF G s t).2], .bool (G.f (kl s)).isSome]) ∧ Below w.heap.size w w' := by
  obtain ⟨c0, c1, c2, c3⟩ := hG.cell
  have hg := hG.lt
  have hl := find_look (hG.below (below_alloc w (.cells #[.int .i64 0, .int .i64 0] 53))) s hs
  have Hok := Lib.hid hok
  have HG := Lib.hid hG
  generalize hp : findF G s t = p
  have Hp := Lib.hid hp
  clear hp hG hok
  unfold findF at Hp
  cases hf : G.f (kl s) with
  | none =>
    rw [hf] at hl Hp
    have HH : Hid (p = (G.burst, t)) := Lib.hid Hp.out.symm
    simp only [Option.map_none, Option.getD_none, Option.isSome_none] at hl
    clear hf Hp
    go_enter Try.func17, Try.ntmps17
    go_wp2_with fail
    refine bodyPost_ret (v := .tuple #[.agg #[.int .i64 p.1, .int .i64 p.2], .bool false]) (by simp [results, Try.results17, go_sem, HH.out]) rfl ⟨rfl, ?_⟩
    (repeat (first | exact bel_refl _ | assumption | apply bel_alloc | apply bel_drew | apply bel_drewN | (refine bel_set ?_ (by simp))))
  | some b =>
    rw [hf] at hl Hp
    have HH : Hid (p = fillF G b t) := Lib.hid Hp.out.symm
    have Hf := Lib.hid hf
    simp only [Option.map_some, Option.getD_some, Option.isSome_some, bkt] at hl
    clear hf Hp
    go_enter Try.func17, Try.ntmps17
    go_wp2_with fail
    obtain ⟨q1, q2, q3, q4⟩ := Hok.out.has _ b Hf.out
    refine (fill_any g m G b t _ ?_ Hok.out q1 q2 q3 q4 h5 h6).mono ?_
    · exact HG.out.below (bel_alloc (bel_alloc (bel_refl _)))
    rintro e w1 ⟨rfl, hb⟩
    have Hb : Hid (Below w.heap.size w w1) := Lib.hid (bel_trans (bel_alloc (bel_alloc (bel_refl _))) hb)
    have k0 : w1.cell? ⟨w.heap.size, 0, none⟩ = some (.int .i64 0) := (hb.cell (p := ⟨w.heap.size, 0, none⟩) (by simp; omega)).trans (by simp [go_sem])
    have k1 : w1.cell? ⟨w.heap.size, 1, none⟩ = some (.int .i64 0) := (hb.cell (p := ⟨w.heap.size, 1, none⟩) (by simp; omega)).trans (by simp [go_sem])
    have f0 : w1.frozen? ⟨w.heap.size, 0, none⟩ = false := (hb.frozen (p := ⟨w.heap.size, 0, none⟩) (by simp; omega)).trans (by simp [go_sem])
    have f1 : w1.frozen? ⟨w.heap.size, 1, none⟩ = false := (hb.frozen (p := ⟨w.heap.size, 1, none⟩) (by simp; omega)).trans (by simp [go_sem])
    have hz : w.heap.size < w1.heap.size := by have := hb.size; simp at this; omega
    clear hb
    generalize fillF G b t = r at *
    go_wp2_with fail
    refine bodyPost_ret (v := .tuple #[.agg #[.int .i64 p.1, .int .i64 p.2], .bool true]) (by simp [results, Try.results17, go_sem, HH.out, k0, k1]) rfl ⟨rfl, ?_⟩
    exact bel_set (bel_set Hb.out (by simp)) (by simp)
end Go.Proofs.Ytjeecffhclhbaaa
