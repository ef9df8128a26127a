/- A log on a disk and a row of rows of bytes apart from both; what the calls do. -/
import Derived.Test.YtokmiphgalpahaaVB
import Derived.Test.YtokmiphgalpahaaPZ
namespace Go.Proofs.Ytokmiphgalpahaa
open Go.RowKit Go.Kt
set_option maxRecDepth 100000
variable {F G K X X' : Nat → Prop} {w w' w0 w1 w2 W : World} {d mb wb : Nat} {P : Pd} {seg : Int} {av : Value} {all : List (List UInt8)}

/-- a log in memory, and a row of rows apart from it, and apart from what X names -/
def LgA (w0 w : World) (d mb wb : Nat) (P : Pd) (seg : Int) (av : Value) (all : List (List UInt8)) (X : Nat → Prop) : Prop :=
  ∃ F : Nat → Prop, DAt F w d mb P ∧ (∀ x, F x → w0.heap.size ≤ x ∧ x < w.heap.size) ∧ ¬ F wb ∧ Blk w wb #[.pointer (some ⟨d, 0, none⟩), .int .i64 seg] 64 ∧ w0.heap.size ≤ wb ∧ Below w0.heap.size w0 w ∧ OwnBs (fun x => w0.heap.size ≤ x ∧ ¬ F x ∧ x ≠ wb) w av all ∧ ∀ x, X x → ¬ F x ∧ x ≠ wb
theorem Lg.with (h : Lg w0 w d mb wb P seg) : LgA w0 w d mb wb P seg (.slice none 0 0) [] (fun _ => False) := by
  obtain ⟨F, h1, h2, h3, h4, h5, h6⟩ := h
  exact ⟨F, h1, h2, h3, h4, h5, h6, ownBs_nil _ _, fun _ hx => hx.elim⟩
theorem LgA.rd (h : LgA w0 w d mb wb P seg av all X) : RdBs w av all := by
  obtain ⟨F, h1, h2, h3, h4, h5, h6, h7, h8⟩ := h
  exact h7.rd
theorem LgA.bel (h : LgA w0 w d mb wb P seg av all X) : Below w0.heap.size w0 w := by
  obtain ⟨F, h1, h2, h3, h4, h5, h6, h7, h8⟩ := h
  exact h6
theorem LgA.off (h : LgA w0 w d mb wb P seg av all X) : LgA w0 w d mb wb P seg av all (fun _ => False) := by
  obtain ⟨F, h1, h2, h3, h4, h5, h6, h7, h8⟩ := h
  exact ⟨F, h1, h2, h3, h4, h5, h6, h7, fun _ hx => hx.elim⟩
theorem LgA.bare (h : LgA w0 w d mb wb P seg av all X) : LgA w0 w d mb wb P seg (.slice none 0 0) [] X := by
  obtain ⟨F, h1, h2, h3, h4, h5, h6, h7, h8⟩ := h
  exact ⟨F, h1, h2, h3, h4, h5, h6, ownBs_nil _ _, h8⟩
theorem LgA.next (h : LgA w0 w d mb wb P seg av all X) (hb : Below w.heap.size w w') (hX : ∀ x, X' x → X x ∨ w.heap.size ≤ x) : LgA w0 w' d mb wb P seg av all X' := by
  obtain ⟨F, h1, h2, h3, h4, h5, h6, h7, h8⟩ := h
  have hl := h4.lt
  refine ⟨F, h1.next hb, fun x hx => ⟨(h2 x hx).1, Nat.lt_of_lt_of_le (h2 x hx).2 hb.size⟩, h3, h4.next hb, h5, bel_trans h6 hb, h7.next hb, fun x hx => ?_⟩
  rcases hX x hx with h | h
  · exact h8 x h
  · exact ⟨fun hf => by have := (h2 x hf).2; omega, by omega⟩
theorem lga_done {r : Int × Pd} {seg' : Int} (h2 : ∀ x, F x → w0.heap.size ≤ x ∧ x < w.heap.size) (h3 : ¬ F wb) (hl : wb < w.heap.size) (h5 : w0.heap.size ≤ wb) (h6 : Below w0.heap.size w0 w) (h7 : OwnBs (fun x => w0.heap.size ≤ x ∧ ¬ F x ∧ x ≠ wb) w av all) (h8 : ∀ x, X x → ¬ F x ∧ x ≠ wb) (hX : ∀ x, X x → x < w.heap.size)
    (k2 : DAt (Plus F w w') w' d mb r.2) (k3 : Turn (fun x => F x ∨ x = wb) w w') (k4 : Blk w' wb #[.pointer (some ⟨d, 0, none⟩), .int .i64 seg'] 64) :
    LgA w0 w' d mb wb r.2 seg' av all X ∧ ∀ g cs t, X g → Blk w g cs t → Blk w' g cs t := by
  have hs := h6.size
  have hs1 := k3.size
  refine ⟨⟨Plus F w w', k2, fun x hx => ?_, fun hx => ?_, k4, h5, h6.trans (k3.bel hs (fun x hx => ?_)), ?_, fun x hx => ⟨fun hp => ?_, (h8 x hx).2⟩⟩, fun g cs t hg hb => blkT hb k3 (fun hf => ?_)⟩
  · rcases hx with h | h
    · exact ⟨(h2 x h).1, by have := (h2 x h).2; omega⟩
    · exact ⟨by omega, h.2⟩
  · rcases hx with h | h
    · exact h3 h
    · omega
  · rcases hx with h | h
    · exact (h2 x h).1
    · omega
  · refine ((h7.more (G := fun x => (w0.heap.size ≤ x ∧ ¬ F x ∧ x ≠ wb) ∧ x < w.heap.size) (fun x hx hl => ⟨hx, hl⟩)).keep k3 (fun x hx hf => hf.elim hx.1.2.1 hx.1.2.2)).more (fun x hx _ => ⟨hx.1.1, fun hp => ?_, hx.1.2.2⟩)
    rcases hp with h | h
    · exact hx.1.2.1 h
    · omega
  · rcases hp with h | h
    · exact (h8 x hx).1 h
    · have := hX x hx
      omega
  · rcases hf with h | h
    · exact (h8 g hg).1 h
    · exact (h8 g hg).2 h
theorem lga_append (h : LgA w0 w d mb wb P seg av all X) (hX : ∀ x, X x → x < w.heap.size) (hn : Rng seg) {v : Value} {p : List UInt8} (hv : Rd8 w v p) :
    Calls Try.prog 9 #[.pointer (some ⟨wb, 0, none⟩), v] w fun e w' => e = .returned (.int .i64 (recW P seg p).1) ∧ LgA w0 w' d mb wb (recW P seg p).2 seg av all X ∧ ∀ g cs t, X g → Blk w g cs t → Blk w' g cs t := by
  obtain ⟨F, h1, h2, h3, h4, h5, h6, h7, h8⟩ := h
  refine (wal_append h1 h4 h3 hn hv).mono ?_
  rintro e w1 ⟨he, k2, k3⟩
  exact ⟨he, lga_done h2 h3 h4.lt h5 h6 h7 h8 hX k2 (k3.mono (fun x hx => .inl hx)) (blkT h4 k3 h3)⟩
theorem lga_sync (h : LgA w0 w d mb wb P seg av all X) (hX : ∀ x, X x → x < w.heap.size) (hn : Rng seg) :
    Calls Try.prog 10 #[.pointer (some ⟨wb, 0, none⟩)] w fun e w' => e = .returned (.int .i64 (P.sync seg).1) ∧ LgA w0 w' d mb wb (P.sync seg).2 seg av all X := by
  obtain ⟨F, h1, h2, h3, h4, h5, h6, h7, h8⟩ := h
  refine (wal_sync h1 h4 h3 hn).mono ?_
  rintro e w1 ⟨he, k2, k3⟩
  exact ⟨he, (lga_done h2 h3 h4.lt h5 h6 h7 h8 hX k2 (k3.mono (fun x hx => .inl hx)) (blkT h4 k3 h3)).1⟩
theorem lga_rebase (h : LgA w0 w d mb wb P seg av all X) (hX : ∀ x, X x → x < w.heap.size) (hn0 : 0 ≤ seg) (hn1 : seg ≤ 9223372036854775806) {v : Value} {p : List UInt8} (hv : Rd8 w v p) :
    Calls Try.prog 11 #[.pointer (some ⟨wb, 0, none⟩), v] w fun e w' => e = .returned (.int .i64 (rebaseW P seg p).1) ∧ LgA w0 w' d mb wb (rebaseW P seg p).2.2 (rebaseW P seg p).2.1 av all X ∧ ∀ g cs t, X g → Blk w g cs t → Blk w' g cs t := by
  obtain ⟨F, h1, h2, h3, h4, h5, h6, h7, h8⟩ := h
  refine (wal_rebase h1 h4 h3 hn0 hn1 hv).mono ?_
  rintro e w1 ⟨rfl, k2, k3, k4⟩
  exact ⟨rfl, lga_done (r := (0, (rebaseW P seg p).2.2)) h2 h3 h4.lt h5 h6 h7 h8 hX k2 k3 k4⟩
theorem lga_open (h : LgA w0 w d mb wb P seg av all X) (hN : ∀ p ∈ P.L, p.n ≤ 4611686018427387904) {o : Opn} {P' : Pd} (ho : openW P = (0, some o, P')) :
    Calls Try.prog 6 #[.pointer (some ⟨d, 0, none⟩)] w fun e w' => ∃ wb' bv rv, e = .returned (.tuple #[.pointer (some ⟨wb', 0, none⟩), bv, rv, .int .i64 0]) ∧ LgA w0 w' d mb wb' P' o.seg av all (fun _ => False) ∧ Rd8 w' bv o.base ∧ RdBs w' rv o.recs ∧ ∃ K F' : Nat → Prop, In8 K w' bv o.base ∧ OwnBs K w' rv o.recs ∧ DAt F' w' d mb P' ∧ (∀ x, F' x → w0.heap.size ≤ x ∧ x < w'.heap.size) ∧ ¬ F' wb' ∧ Blk w' wb' #[.pointer (some ⟨d, 0, none⟩), .int .i64 o.seg] 64 ∧ w0.heap.size ≤ wb' ∧ OwnBs (fun x => w0.heap.size ≤ x ∧ ¬ F' x ∧ x ≠ wb') w' av all ∧ (∀ x, K x → ¬ F' x) := by
  obtain ⟨F, h1, h2, h3, h4, h5, h6, h7, -⟩ := h
  refine (open_any h1 hN).mono ?_
  rintro e w1 ⟨K, F', hr, hD, hF, hK, hT⟩
  rw [ho] at hr hD
  obtain ⟨wb', bv, rv, rfl, hwb, hB, h8, hbs⟩ := hr
  have hs := h6.size
  have hs1 := hT.size
  have hF2 : ∀ x, F' x → w0.heap.size ≤ x ∧ x < w1.heap.size := fun x hx => by
    rcases (hF x hx).1 with h1 | h1
    · exact ⟨(h2 x h1).1, by have := (h2 x h1).2; omega⟩
    · exact ⟨by omega, h1.2⟩
  have hno : ¬ F' wb' := fun hx => (hF _ hx).2 hwb
  have hwb0 : w0.heap.size ≤ wb' := by have := (hK _ hwb).1; omega
  have hall : OwnBs (fun x => w0.heap.size ≤ x ∧ ¬ F' x ∧ x ≠ wb') w1 av all := by
    refine ((h7.more (G := fun x => (w0.heap.size ≤ x ∧ ¬ F x ∧ x ≠ wb) ∧ x < w.heap.size) (fun x hx hl => ⟨hx, hl⟩)).keep hT (fun x hx => hx.1.2.1)).more (fun x hx _ => ⟨hx.1.1, fun hp => ?_, fun e => ?_⟩)
    · rcases (hF x hp).1 with h | h
      · exact hx.1.2.1 h
      · omega
    · have := (hK _ hwb).1
      omega
  exact ⟨wb', bv, rv, rfl, ⟨F', hD, hF2, hno, hB, hwb0, h6.trans (hT.bel hs (fun x hx => (h2 x hx).1)), hall, fun _ hx => hx.elim⟩, h8.rd, hbs.rd, K, F', h8, hbs, hD, hF2, hno, hB, hwb0, hall, fun x hx hf => (hF x hf).2 hx⟩
/-- opened twice: what was handed out first stands -/
theorem lga_open2 {av2 : Value} {l : List (List UInt8)} {bv : Value} {base : List UInt8} {F' : Nat → Prop} (h1 : DAt F' w d mb P) (h2 : ∀ x, F' x → w0.heap.size ≤ x ∧ x < w.heap.size) (h6 : Below w0.heap.size w0 w) (h7 : OwnBs (fun x => w0.heap.size ≤ x ∧ ¬ F' x ∧ x ≠ wb) w av all) (hb : In8 K w bv base) (hl : OwnBs K w av2 l) (hK : ∀ x, K x → ¬ F' x) (hN : ∀ p ∈ P.L, p.n ≤ 4611686018427387904) {o : Opn} {P' : Pd} (ho : openW P = (0, some o, P')) :
    Calls Try.prog 6 #[.pointer (some ⟨d, 0, none⟩)] w fun e w' => ∃ wb' cv rv, e = .returned (.tuple #[.pointer (some ⟨wb', 0, none⟩), cv, rv, .int .i64 0]) ∧ LgA w0 w' d mb wb' P' o.seg av all (fun _ => False) ∧ Rd8 w' cv o.base ∧ RdBs w' rv o.recs ∧ Rd8 w' bv base ∧ RdBs w' av2 l := by
  refine (open_any h1 hN).mono ?_
  rintro e w1 ⟨K1, F1, hr, hD, hF, hK1, hT⟩
  rw [ho] at hr hD
  obtain ⟨wb', cv, rv, rfl, hwb, hB, h8, hbs⟩ := hr
  have hs := h6.size
  have hs1 := hT.size
  have hF2 : ∀ x, F1 x → w0.heap.size ≤ x ∧ x < w1.heap.size := fun x hx => by
    rcases (hF x hx).1 with h1 | h1
    · exact ⟨(h2 x h1).1, by have := (h2 x h1).2; omega⟩
    · exact ⟨by omega, h1.2⟩
  have hall : OwnBs (fun x => w0.heap.size ≤ x ∧ ¬ F1 x ∧ x ≠ wb') w1 av all := by
    refine ((h7.more (G := fun x => (w0.heap.size ≤ x ∧ ¬ F' x ∧ x ≠ wb) ∧ x < w.heap.size) (fun x hx hl => ⟨hx, hl⟩)).keep hT (fun x hx => hx.1.2.1)).more (fun x hx _ => ⟨hx.1.1, fun hp => ?_, fun e => ?_⟩)
    · rcases (hF x hp).1 with h | h
      · exact hx.1.2.1 h
      · omega
    · have := (hK1 _ hwb).1
      omega
  exact ⟨wb', cv, rv, rfl, ⟨F1, hD, hF2, fun hx => (hF _ hx).2 hwb, hB, by have := (hK1 _ hwb).1; omega, h6.trans (hT.bel hs (fun x hx => (h2 x hx).1)), hall, fun _ hx => hx.elim⟩, h8.rd, hbs.rd, (hb.keep hT hK).rd, (hl.keep hT hK).rd⟩
/-- a record more in the row -/
theorem lga_push (h : LgA w0 w1 d mb wb P seg av all X) : ∃ K : Nat → Prop, OwnBs K w1 av all ∧ (∀ x, w1.heap.size ≤ x → K x) ∧ ∀ (w7 w8 : World) (v8 : Value) (all' : List (List UInt8)), Below w1.heap.size w1 w7 → OwnBs (Plus K w7 w8) w8 v8 all' → Turn (fun x => av.ownBlock = some x) w7 w8 → LgA w0 w8 d mb wb P seg v8 all' (fun _ => False) := by
  obtain ⟨F, h1, h2, h3, h4, h5, h6, h7, -⟩ := h
  have hs6 := h6.size
  have hl := h4.lt
  have hav : ∀ x, av.ownBlock = some x → w0.heap.size ≤ x ∧ ¬ F x ∧ x ≠ wb := by
    obtain ⟨T, _, _, h3, _⟩ := h7
    exact h3
  refine ⟨_, h7, fun x hx => ⟨by omega, fun hf => by have := (h2 x hf).2; omega, by omega⟩, fun w7 w8 v8 all' hb ho ht => ?_⟩
  have hs7 := hb.size
  have hs8 := ht.size
  refine ⟨F, (h1.next hb).keep ht (fun x hx e => (hav x e).2.1 hx), fun x hx => ⟨(h2 x hx).1, by have := (h2 x hx).2; omega⟩, h3, blkT (h4.next hb) ht (fun e => (hav _ e).2.2 rfl), h5, (bel_trans h6 hb).trans (ht.bel (by omega) (fun x hx => (hav x hx).1)), ho.more (fun x hx _ => ?_), fun _ hx => hx.elim⟩
  rcases hx with hx | hx
  · exact hx
  · exact ⟨by omega, fun hf => by have := (h2 x hf).2; omega, fun e => by omega⟩
end Go.Proofs.Ytokmiphgalpahaa
