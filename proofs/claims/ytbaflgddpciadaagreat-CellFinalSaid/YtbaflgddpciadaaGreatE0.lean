/- The book of a cell turned: an entry appended, an entry set. -/
import Derived.Test.YtbaflgddpciadaaGreatEA
set_option linter.unusedVariables false
set_option linter.unusedSimpArgs false
namespace Go.Proofs.YtbaflgddpciadaaGreat
open Go.RowKit Go.Kt Go.Ix Go.Sx Go.Cx
set_option maxRecDepth 100000
/-- cells stored into a row of our own, from a place on -/
theorem own_setCells {e : TypeId} {size : Nat} {g c n : Nat} : ∀ (cs : List Value) {w : World} {xs : List Value} (o : Nat), Kt.Own e size w (.slice (some ⟨g, 0, none⟩) n c) n xs → o + cs.length ≤ n * size →
    Kt.Own e size (w.setCells g o cs) (.slice (some ⟨g, 0, none⟩) n c) n (xs.take o ++ cs ++ xs.drop (o + cs.length))
  | [], w, xs, o, h, _ => by simpa [World.setCells] using h
  | u :: cs, w, xs, o, h, hl => by
    rw [List.length_cons] at hl
    obtain ⟨g', c', e, -, -, h3⟩ := own_place h (j := o) (by omega)
    cases e
    have hx : xs.length = n * size := h.1
    have := own_setCells cs (o + 1) (h3 u) (by omega)
    rw [World.setCells]
    refine cast (congrArg _ ?_) this
    have hlt : (xs.take o).length = o := by rw [List.length_take]; omega
    rw [List.set_eq_take_append_cons_drop, if_pos (by omega), List.take_append, List.drop_append, hlt, List.take_of_length_le (by omega : (xs.take o).length ≤ o + 1), List.drop_of_length_le (by omega : (xs.take o).length ≤ o + 1 + cs.length)]
    rw [show o + 1 - o = 1 by omega, show o + 1 + cs.length - o = cs.length + 1 by omega, List.drop_succ_cons, List.drop_drop, List.length_cons, show o + 1 + cs.length = o + (cs.length + 1) by omega]
    simp
theorem flatE_set (x : En × Value) : ∀ (V : List (En × Value)) (i : Nat), i < V.length → flatE (V.set i x) = (flatE V).take (i * 7) ++ ecells x.1 x.2 ++ (flatE V).drop (i * 7 + 7)
  | [], i, h => by simp at h
  | y :: t, 0, h => by
    have hl : (ecells y.1 y.2).length = 7 := rfl
    rw [List.set_cons_zero, flatE, flatE, Nat.zero_mul, List.take_zero, Nat.zero_add, List.drop_append, List.drop_of_length_le (by omega), hl]
    simp
  | y :: t, i + 1, h => by
    have hl : (ecells y.1 y.2).length = 7 := rfl
    rw [List.length_cons] at h
    rw [List.set_cons_succ, flatE, flatE, flatE_set x t i (by omega), List.take_append, List.drop_append, hl, List.take_of_length_le (l := ecells y.1 y.2) (by omega), List.drop_of_length_le (l := ecells y.1 y.2) (by omega), show (i + 1) * 7 - 7 = i * 7 by omega, show (i + 1) * 7 + 7 - 7 = i * 7 + 7 by omega]
    simp
theorem own_set_en {w : World} {g c n : Nat} {V : List (En × Value)} (h : Kt.Own 178 7 w (.slice (some ⟨g, 0, none⟩) n c) n (flatE V)) (hn : V.length = n) {i : Nat} (hi : i < V.length) (x : En) (sl : Value) :
    Kt.Own 178 7 (w.setCells g (i * 7) (ecells x sl)) (.slice (some ⟨g, 0, none⟩) n c) n (flatE (V.set i (x, sl))) := by
  rw [flatE_set (x, sl) V i hi]
  have := own_setCells (ecells x sl) (i * 7) h (by rw [show (ecells x sl).length = 7 from rfl]; omega)
  exact this
theorem turn_setCells {F : Nat → Prop} {w : World} {g : Nat} (hg : F g) : ∀ (cs : List Value) (o : Nat) {w' : World}, Turn F w w' → Turn F w (w'.setCells g o cs)
  | [], _, _, h => h
  | u :: cs, o, w', h => by
    rw [World.setCells]
    exact turn_setCells hg cs (o + 1) (h.set (a := ⟨g, o, none⟩) hg u)
variable {F : Nat → Prop} {w w' : World} {c N : Nat} {C : Cl} {p : Cp}
/-- the book was turned, and the cell's own block -/
theorem post_book {v' : Value} {B' : List (En × Value)} {z : Rep × Cl} {e : Ending} (h : CeAt F w c C N p) (he : e = .returned (replyV z.1)) (hr : BookAt (fun x => F x ∨ v'.ownBlock = some x) w' v' B')
    (hv : ∀ b, v'.ownBlock = some b → p.bv.ownBlock = some b ∨ w.heap.size ≤ b) (ht : Turn (fun x => x = c ∨ p.bv.ownBlock = some x) w w') (hb : Blk w' c (ccells z.2 { p with bv := v', B := B' }) 140)
    (hM : z.2.M = C.M) (hD : z.2.deeds = C.deeds) (hP : z.2.pins = C.pins) (hB : B'.map Prod.fst = z.2.book) (hi : CInv z.2) : DoPost F w c p z N e w' := by
  have hsub : ∀ x, (x = c ∨ p.bv.ownBlock = some x) → F x := fun x hx => by
    rcases hx with rfl | hx
    · exact h.Fc
    · exact h.Fb x hx
  have hG : ∀ x, (F x ∨ v'.ownBlock = some x) → F x ∨ w.heap.size ≤ x := fun x hx => by
    rcases hx with hx | hx
    · exact .inl hx
    · rcases hv x hx with h1 | h1
      · exact .inl (h.Fb x h1)
      · exact .inr h1
  have hnS : ∀ x, p.Fs x → ¬ (x = c ∨ p.bv.ownBlock = some x) := fun x hx e => by
    rcases e with rfl | e
    · exact h.nc hx
    · exact h.nb x e hx
  refine ⟨he, fun x => F x ∨ v'.ownBlock = some x, { p with bv := v', B := B' }, ⟨hb, by rw [hM]; exact h.st.keep ht hnS, fun x hx => .inl (h.sub x hx), .inl h.Fc, .inl h.Fd, .inl h.Fp, fun b hb => .inr hb, h.nc, h.nd, h.np, fun b hb hs => ?_, h.dp, ?_, ?_, hr, hB, hi, fun x hx => ?_⟩, fun x hx => .inl hx, hG, fun x hx => ?_, ht.mono (fun x hx => hx.elim .inl (fun h => .inr (.inr (.inr (.inl h)))))⟩
  · rcases hv b hb with h1 | h1
    · exact h.nb b h1 hs
    · have := h.lt b (h.sub b hs); omega
  · rw [hD]
    refine h.deeds.keep ht (fun e => ?_) hsub hG
    rcases e with e | e
    · exact h.cd e.symm
    · exact h.bd _ e rfl
  · rw [hP]
    refine h.pins.keep ht (fun e => ?_)
    rcases e with e | e
    · exact h.cp e.symm
    · exact h.bp _ e rfl
  · rcases hx with hx | hx
    · exact Nat.lt_of_lt_of_le (h.lt x hx) ht.size
    · exact hr.row.lt x hx
  · rcases hx with hx | hx | hx | hx | hx
    · exact .inl (.inl hx)
    · exact .inl (.inr (.inl hx))
    · exact .inl (.inr (.inr (.inl hx)))
    · exact (hv x hx).imp (fun h => .inr (.inr (.inr (.inl h)))) id
    · exact .inl (.inr (.inr (.inr (.inr hx))))
/-- an entry appended to the book: from the world in which its row lies to the reply -/
theorem book_end {wd W w7 w9 : World} {v7 v5 : Value} {x : En} {g : Nat} {d0 d1 d2 d3 d4 d5 : Value} {z : Rep × Cl} {e : Ending} (h : CeAt F w c C N p) (hg : w.heap.size ≤ g) (hbd : Below w.heap.size w wd) (hr5 : RdB (fun y => F y ∨ y = g + 1) wd v5 x.ws)
    (hW : Below wd.heap.size wd W) (hgl : g + 1 < wd.heap.size) (ho7 : Kt.Own 178 7 w7 v7 (p.B.length + 1) (flatE p.B ++ ecells x v5)) (hg7 : W.grownBy w7 p.bv.ownBlock) (hn7 : ∀ b, v7.ownBlock = some b → p.bv.ownBlock = some b ∨ W.heap.size ≤ b)
    (h9 : Below (w7.setCell ⟨c, 4, none⟩ v7).heap.size (w7.setCell ⟨c, 4, none⟩ v7) w9) (he : e = .returned (replyV z.1)) (hz : z.2 = { C with book := C.book ++ [x] }) (hi : CInv z.2) :
    DoPost F w c p z N e ((((((w9.setCell ⟨g + 1, 0, none⟩ d0).setCell ⟨g + 1, 1, none⟩ d1).setCell ⟨g + 1, 2, none⟩ d2).setCell ⟨g + 1, 3, none⟩ d3).setCell ⟨g + 1, 4, none⟩ d4).setCell ⟨g + 1, 5, none⟩ d5) := by
  have hsz : w.heap.size ≤ W.heap.size := Nat.le_trans hbd.size hW.size
  have hWb : Below w.heap.size w W := bel_trans hbd hW
  have t7 : Turn (fun y => p.bv.ownBlock = some y) w w7 := (Turn.of hWb).trans (Turn.grown (F := fun y => p.bv.ownBlock = some y) hg7 (fun b e => e)) (fun y hy => .inl hy)
  have t8 : Turn (fun y => y = c ∨ p.bv.ownBlock = some y) w (w7.setCell ⟨c, 4, none⟩ v7) := (t7.mono (fun y hy => .inr hy)).set (a := ⟨c, 4, none⟩) (.inl rfl) _
  have t9 := t8.next h9
  have tZ := turn6 (g := g) hg t9 (d0 := d0) (d1 := d1) (d2 := d2) (d3 := d3) (d4 := d4) (d5 := d5)
  have h9b : Turn (fun y => y = g + 1) (w7.setCell ⟨c, 4, none⟩ v7) ((((((w9.setCell ⟨g + 1, 0, none⟩ d0).setCell ⟨g + 1, 1, none⟩ d1).setCell ⟨g + 1, 2, none⟩ d2).setCell ⟨g + 1, 3, none⟩ d3).setCell ⟨g + 1, 4, none⟩ d4).setCell ⟨g + 1, 5, none⟩ d5) :=
    (Turn.of (F := fun y => y = g + 1) h9).trans (own6 w9 g) (fun y hy => .inl hy)
  have hcl := h.blk.lt
  have hvb : ∀ b, v7.ownBlock = some b → b ≠ c ∧ b ≠ g + 1 := fun b hb => by
    have hd := hW.size
    rcases hn7 b hb with h1 | h1
    · have := h.lt b (h.Fb b h1)
      exact ⟨h.cb b h1, by omega⟩
    · exact ⟨by omega, by omega⟩
  have hoZ := own_keep h9b (own_set ho7 (p := ⟨c, 4, none⟩) (fun b hb => (hvb b hb).1) v7) (fun b hb => (hvb b hb).2)
  have hcW := h.blk.next hWb
  have hc7 : Blk w7 c (ccells C p) 140 := hcW.grown hg7 (fun e => h.cb c e rfl)
  have hc9 := blk_other6 (g := g) ((hc7.set 4 v7).next h9) (by omega) (d0 := d0) (d1 := d1) (d2 := d2) (d3 := d3) (d4 := d4) (d5 := d5)
  have hFs : ∀ y, (y = c ∨ p.bv.ownBlock = some y) → F y := fun y hy => by
    rcases hy with rfl | hy
    · exact h.Fc
    · exact h.Fb y hy
  have hGn : ∀ (V : World), w.heap.size ≤ V.heap.size → V.heap.size ≤ W.heap.size → ∀ y, (F y ∨ v7.ownBlock = some y) → F y ∨ V.heap.size ≤ y := fun V h1 h2 y hy => by
    rcases hy with hy | hy
    · exact .inl hy
    · rcases hn7 y hy with h3 | h3
      · exact .inl (h.Fb y h3)
      · exact .inr (by omega)
  have hk5 : Turn (fun y => F y ∨ y = g + 1) wd ((((((w9.setCell ⟨g + 1, 0, none⟩ d0).setCell ⟨g + 1, 1, none⟩ d1).setCell ⟨g + 1, 2, none⟩ d2).setCell ⟨g + 1, 3, none⟩ d3).setCell ⟨g + 1, 4, none⟩ d4).setCell ⟨g + 1, 5, none⟩ d5) :=
    ((((Turn.of hW).trans (Turn.grown (F := fun y => F y ∨ y = g + 1) hg7 (fun b e => .inl (h.Fb b e))) (fun y hy => .inl hy)).set (a := ⟨c, 4, none⟩) (.inl h.Fc) _).trans h9b (fun y hy => .inl (.inr hy)))
  have hbook : BookAt (fun y => F y ∨ v7.ownBlock = some y) ((((((w9.setCell ⟨g + 1, 0, none⟩ d0).setCell ⟨g + 1, 1, none⟩ d1).setCell ⟨g + 1, 2, none⟩ d2).setCell ⟨g + 1, 3, none⟩ d3).setCell ⟨g + 1, 4, none⟩ d4).setCell ⟨g + 1, 5, none⟩ d5) v7 (p.B ++ [(x, v5)]) := by
    refine ⟨?_, fun q hq => ?_⟩
    · rw [flatE_append, List.length_append]
      exact cast (congrArg _ (by simp [flatE])) hoZ
    · rcases List.mem_append.1 hq with hq | hq
      · exact (h.book.ws q hq).keep (tZ.mono hFs) (hGn w (Nat.le_refl _) hsz)
      · obtain rfl := List.mem_singleton.1 hq
        exact hr5.keep hk5 (fun y hy => by
          rcases hGn wd hbd.size hW.size y hy with h1 | h1
          · exact .inl (.inl h1)
          · exact .inr h1)
  refine post_book (v' := v7) (B' := p.B ++ [(x, v5)]) h he hbook (fun b hb => (hn7 b hb).imp id (fun h1 => Nat.le_trans hsz h1)) tZ ?_ (by rw [hz]) (by rw [hz]) (by rw [hz]) (by rw [hz, List.map_append, h.told]; rfl) hi
  rw [hz]
  simpa [ccells] using hc9
end Go.Proofs.YtbaflgddpciadaaGreat
