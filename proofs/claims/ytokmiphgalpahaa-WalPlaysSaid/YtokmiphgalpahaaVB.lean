/- A log on a disk, both made since w0; what the calls do to them. -/
import Derived.Test.YtokmiphgalpahaaV8
import Derived.Test.YtokmiphgalpahaaVA
import Derived.Test.YtokmiphgalpahaaWN
namespace Go.Proofs.Ytokmiphgalpahaa
open Go.RowKit Go.Kt
set_option maxRecDepth 100000
variable {F G K : Nat → Prop} {w w' w0 w1 w2 W : World} {d mb wb : Nat} {P : Pd} {seg : Int}

/-- a log in memory -/
def Lg (w0 w : World) (d mb wb : Nat) (P : Pd) (seg : Int) : Prop :=
  ∃ F : Nat → Prop, DAt F w d mb P ∧ (∀ x, F x → w0.heap.size ≤ x ∧ x < w.heap.size) ∧ ¬ F wb ∧ Blk w wb #[.pointer (some ⟨d, 0, none⟩), .int .i64 seg] 64 ∧ w0.heap.size ≤ wb ∧ Below w0.heap.size w0 w
theorem Lg.ds (h : Lg w0 w d mb wb P seg) : DS w0 w d mb P := by
  obtain ⟨F, h1, h2, _, _, _, h3⟩ := h
  exact ⟨h1.more h2, h3⟩
theorem Lg.next (h : Lg w0 w d mb wb P seg) (hb : Below w.heap.size w w') : Lg w0 w' d mb wb P seg := by
  obtain ⟨F, h1, h2, h3, h4, h5, h6⟩ := h
  exact ⟨F, h1.next hb, fun x hx => ⟨(h2 x hx).1, Nat.lt_of_lt_of_le (h2 x hx).2 hb.size⟩, h3, h4.next hb, h5, bel_trans h6 hb⟩
theorem Lg.bel (h : Lg w0 w d mb wb P seg) : Below w0.heap.size w0 w := by
  obtain ⟨F, h1, h2, h3, h4, h5, h6⟩ := h
  exact h6
theorem lg_open (h : DS w0 w d mb P) (hN : ∀ p ∈ P.L, p.n ≤ 4611686018427387904) {o : Opn} {P' : Pd} (ho : openW P = (0, some o, P')) :
    Calls Try.prog 6 #[.pointer (some ⟨d, 0, none⟩)] w fun e w' => ∃ wb bv rv, e = .returned (.tuple #[.pointer (some ⟨wb, 0, none⟩), bv, rv, .int .i64 0]) ∧ Lg w0 w' d mb wb P' o.seg ∧ Rd8 w' bv o.base ∧ RdBs w' rv o.recs := by
  refine (open_any h.1 hN).mono ?_
  rintro e w1 ⟨K, F', hr, hD, hF, hK, hT⟩
  rw [ho] at hr hD
  obtain ⟨wb, bv, rv, rfl, hwb, hB, h8, hbs⟩ := hr
  have hs := h.2.size
  have hs1 := hT.size
  refine ⟨wb, bv, rv, rfl, ⟨F', hD, fun x hx => ?_, fun hx => (hF _ hx).2 hwb, hB, by have := (hK _ hwb).1; omega, h.2.trans (hT.bel hs (fun x hx => hx.1))⟩, h8.rd, hbs.rd⟩
  rcases (hF x hx).1 with h1 | h1
  · exact ⟨h1.1, by omega⟩
  · exact ⟨by omega, h1.2⟩
theorem lg_open_no (h : DS w0 w d mb P) (hN : ∀ p ∈ P.L, p.n ≤ 4611686018427387904) {z : Int} {P' : Pd} (ho : openW P = (z, none, P')) :
    Calls Try.prog 6 #[.pointer (some ⟨d, 0, none⟩)] w fun e w' => e = .returned (.tuple #[.pointer none, .slice none 0 0, .slice none 0 0, .int .i64 z]) ∧ DS w0 w' d mb P' := by
  refine (open_any h.1 hN).mono ?_
  rintro e w1 ⟨K, F', hr, hD, hF, hK, hT⟩
  rw [ho] at hr hD
  have hs := h.2.size
  have hs1 := hT.size
  refine ⟨hr, hD.more (fun x hx => ?_), h.2.trans (hT.bel hs (fun x hx => hx.1))⟩
  rcases (hF x hx).1 with h1 | h1
  · exact ⟨h1.1, by omega⟩
  · exact ⟨by omega, h1.2⟩
theorem lg_done {r : Int × Pd} {e : Ending} (h2 : ∀ x, F x → w0.heap.size ≤ x ∧ x < w.heap.size) (h3 : ¬ F wb) (h4 : Blk w wb #[.pointer (some ⟨d, 0, none⟩), .int .i64 seg] 64) (h5 : w0.heap.size ≤ wb) (h6 : Below w0.heap.size w0 w) (hd : Done F w d mb r e w') :
    e = .returned (.int .i64 r.1) ∧ Lg w0 w' d mb wb r.2 seg := by
  obtain ⟨k1, k2, k3⟩ := hd
  have hs := h6.size
  have hs1 := k3.size
  have hl := h4.lt
  refine ⟨k1, Plus F w w', k2, fun x hx => ?_, fun hx => ?_, blkT h4 k3 h3, h5, h6.trans (k3.bel hs (fun x hx => (h2 x hx).1))⟩
  · rcases hx with h | h
    · exact ⟨(h2 x h).1, by have := (h2 x h).2; omega⟩
    · exact ⟨by omega, h.2⟩
  · rcases hx with h | h
    · exact h3 h
    · omega
theorem lg_append (h : Lg w0 w d mb wb P seg) (hn : Rng seg) {v : Value} {p : List UInt8} (hv : Rd8 w v p) :
    Calls Try.prog 9 #[.pointer (some ⟨wb, 0, none⟩), v] w fun e w' => e = .returned (.int .i64 (recW P seg p).1) ∧ Lg w0 w' d mb wb (recW P seg p).2 seg := by
  obtain ⟨F, h1, h2, h3, h4, h5, h6⟩ := h
  exact (wal_append h1 h4 h3 hn hv).mono fun _ _ hd => lg_done h2 h3 h4 h5 h6 hd
theorem lg_sync (h : Lg w0 w d mb wb P seg) (hn : Rng seg) :
    Calls Try.prog 10 #[.pointer (some ⟨wb, 0, none⟩)] w fun e w' => e = .returned (.int .i64 (P.sync seg).1) ∧ Lg w0 w' d mb wb (P.sync seg).2 seg := by
  obtain ⟨F, h1, h2, h3, h4, h5, h6⟩ := h
  exact (wal_sync h1 h4 h3 hn).mono fun _ _ hd => lg_done h2 h3 h4 h5 h6 hd
theorem lg_rebase (h : Lg w0 w d mb wb P seg) (hn0 : 0 ≤ seg) (hn1 : seg ≤ 9223372036854775806) {v : Value} {p : List UInt8} (hv : Rd8 w v p) :
    Calls Try.prog 11 #[.pointer (some ⟨wb, 0, none⟩), v] w fun e w' => e = .returned (.int .i64 (rebaseW P seg p).1) ∧ Lg w0 w' d mb wb (rebaseW P seg p).2.2 (rebaseW P seg p).2.1 := by
  obtain ⟨F, h1, h2, h3, h4, h5, h6⟩ := h
  refine (wal_rebase h1 h4 h3 hn0 hn1 hv).mono ?_
  rintro e w1 ⟨rfl, k2, k3, k4⟩
  have hs := h6.size
  have hs1 := k3.size
  have hl := h4.lt
  refine ⟨rfl, Plus F w w1, k2, fun x hx => ?_, fun hx => ?_, k4, h5, h6.trans (k3.bel hs (fun x hx => ?_))⟩
  · rcases hx with h | h
    · exact ⟨(h2 x h).1, by have := (h2 x h).2; omega⟩
    · exact ⟨by omega, h.2⟩
  · rcases hx with h | h
    · exact h3 h
    · omega
  · rcases hx with h | h
    · exact (h2 x h).1
    · omega

/-! ### the document's example (plain) -/
def exB0 : List UInt8 := wholeW [] []
def exB1 : List UInt8 := exB0 ++ Fm.Fr.sealed 1 [97]
def exP (r : Int) (b : List UInt8) (s : Nat) : Pd := ⟨r, -1, false, [⟨1, b, s, true⟩]⟩
theorem ex1 : openW ⟨1000, -1, false, []⟩ = (0, some ⟨1, [], []⟩, exP 1000 exB0 18) := by kernel_rfl
theorem ex2 : recW (exP 1000 exB0 18) 1 [97] = (0, exP 1000 exB1 18) := by kernel_rfl
theorem ex3 : (exP 1000 exB1 18).sync 1 = (0, exP 1000 exB1 28) := by kernel_rfl
theorem ex4 : recW (exP 1000 exB1 28) 1 [98] = (0, exP 1000 (exB1 ++ Fm.Fr.sealed 1 [98]) 28) := by kernel_rfl
theorem ex5 : (exP 1000 (exB1 ++ Fm.Fr.sealed 1 [98]) 28).crash [] = exP 1000 exB1 28 := by kernel_rfl
theorem ex6 : openW (exP 1000 exB1 28) = (0, some ⟨1, [], [[97]]⟩, exP 1000 exB1 28) := by kernel_rfl
theorem ex7 : openW ⟨100, -1, false, []⟩ = (0, some ⟨1, [], []⟩, exP 100 exB0 18) := by kernel_rfl
theorem ex8 : recW (exP 100 exB0 18) 1 [] = (0, exP 100 (exB0 ++ Fm.Fr.sealed 1 []) 18) := by kernel_rfl
end Go.Proofs.Ytokmiphgalpahaa
