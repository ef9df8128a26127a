/- Gates: GatePlays (5). -/
import Derived.Test.YtjeecffhclhbaaaWF
namespace Go.Proofs.Ytjeecffhclhbaaa
open Go.RowKit Go.Kt

/-- a store into a block of other cells leaves a list of clients as it is -/
theorem rdcl_ne {w : World} {v : Value} {l : List Cl} {mb : Nat} {b e r : Int} {s : Option Addr} {n c : Nat} (h : RdCl w v l) (hB : Blk w mb #[.int .i64 b, .int .i64 e, .int .i64 r, .slice s n c] 42) :
    ∀ (j : Nat) (u : Value) (b' o : Nat), (flatC l)[j]? = some u → v.ownBlock = some b' → b' ≠ mb := by
  intro j u b' o hj hb' hbm
  subst hbm
  obtain ⟨hl, a, cap, rfl, h1, h2, h3, h5⟩ := h
  have hne : 0 < (flatC l).length := by have := (List.getElem?_eq_some_iff.1 hj).1; omega
  cases l with
  | nil => simp [flatC] at hne
  | cons x t =>
    obtain ⟨b2, o2, ha, hc⟩ := h5 0 (.string x.name) rfl
    subst ha
    have : b2 = b' := by simpa [Value.ownBlock] using hb'
    subst this
    rw [Blk.cell hB] at hc
    have hlt := (Array.getElem?_eq_some_iff.1 hc).1
    simp only [List.size_toArray, List.length_cons, List.length_nil] at hlt
    match o2, hlt, hc with
    | 0, _, hc => simp at hc
    | 1, _, hc => simp at hc
    | 2, _, hc => simp at hc
    | 3, _, hc => simp at hc
theorem rdcl_set {w : World} {v : Value} {l : List Cl} {mb : Nat} {b e r : Int} {s : Option Addr} {n c : Nat} (h : RdCl w v l) (hB : Blk w mb #[.int .i64 b, .int .i64 e, .int .i64 r, .slice s n c] 42) {w' : World}
    (hw : ∀ i, i ≠ mb → w'.heap[i]? = w.heap[i]?) : RdCl w' v l := by
  have hne := rdcl_ne h hB
  obtain ⟨hl, a, cap, rfl, h1, h2, h3, h5⟩ := h
  refine ⟨hl, a, cap, rfl, h1, h2, h3, fun j u hj => ?_⟩
  obtain ⟨b2, o2, ha, hc⟩ := h5 j u hj
  refine ⟨b2, o2, ha, ?_⟩
  subst ha
  rw [← hc]
  exact World.cell?_of_block (hw b2 (hne j u b2 o2 hj rfl))
theorem set4_other {w : World} {mb : Nat} {u0 u1 u2 u3 : Value} : ∀ i, i ≠ mb → ((((w.setCell ⟨mb, 0, none⟩ u0).setCell ⟨mb, 1, none⟩ u1).setCell ⟨mb, 2, none⟩ u2).setCell ⟨mb, 3, none⟩ u3).heap[i]? = w.heap[i]? := by
  intro i hi
  rw [heap_setCell_other _ _ _ _ hi, heap_setCell_other _ _ _ _ hi, heap_setCell_other _ _ _ _ hi, heap_setCell_other _ _ _ _ hi]
theorem set4_same {w : World} {mb : Nat} {c0 c1 c2 c3 : Value} (h : Blk w mb #[c0, c1, c2, c3] 42) (u0 u1 u2 u3 : Value) :
    Blk ((((w.setCell ⟨mb, 0, none⟩ u0).setCell ⟨mb, 1, none⟩ u1).setCell ⟨mb, 2, none⟩ u2).setCell ⟨mb, 3, none⟩ u3) mb #[u0, u1, u2, u3] 42 := by
  unfold Blk at *
  have h0 := heap_setCell_same w mb 0 _ 42 u0 h
  have h1 := heap_setCell_same _ mb 1 _ 42 u1 h0
  have h2 := heap_setCell_same _ mb 2 _ 42 u2 h1
  have h3 := heap_setCell_same _ mb 3 _ 42 u3 h2
  simpa using h3
/-- the gate, and the document's, in memory -/
structure Ply (w0 wr : World) (g m mb : Nat) (G : Gt) (lv : Value) (L : List Cl) : Prop where
  gat : GateAt wr g m G
  gok : G.ok
  bel : Below w0.heap.size w0 wr
  mge : w0.heap.size ≤ m
  bge : w0.heap.size ≤ mb
  blk : Blk wr mb #[.int .i64 G.burst, .int .i64 G.each, .int .i64 G.room, lv] 42
  rd : RdCl wr lv L
  same : Same G L
theorem Ply.next {w0 wr w' : World} {g m mb : Nat} {G : Gt} {lv : Value} {L : List Cl} (q : Ply w0 wr g m mb G lv L) (hb : Below wr.heap.size wr w') : Ply w0 w' g m mb G lv L :=
  ⟨q.gat.below hb, q.gok, bel_trans q.bel hb, q.mge, q.bge, q.blk.next hb, q.rd.below hb, q.same⟩
theorem Ply.ne {w0 wr : World} {g m mb : Nat} {G : Gt} {lv : Value} {L : List Cl} (q : Ply w0 wr g m mb G lv L) : mb ≠ m ∧ mb ≠ g := by
  constructor
  · rintro rfl
    have h := q.blk.cell 0
    rw [cell_no_map q.gat.2] at h
    cases h
  · rintro rfl
    have h := q.blk
    unfold Blk at h
    rw [q.gat.1] at h
    injection h with h
    injection h with _ h
    cases h
end Go.Proofs.Ytjeecffhclhbaaa
