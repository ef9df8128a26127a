/- The document's store in memory: it is never changed. Len (30), Retain (28). -/
import Derived.Test.YtplieoalfbpniaaGreatT6
import Derived.Test.YtplieoalfbpniaaGreatT4
set_option linter.unusedVariables false
set_option linter.unusedSimpArgs false
namespace Go.Proofs.YtplieoalfbpniaaGreat
open Go.RowKit Go.Kt Go.Ix Go.Sx
set_option maxRecDepth 100000
/-- an item, and the slices of its set and of its versions -/
structure Itm where
  it : It
  sv : Value
  lv : Value
def icells (x : Itm) : List Value := [x.sv, .int .i64 x.it.time, x.lv]
def flatI : List Itm → List Value
  | [] => []
  | q :: t => icells q ++ flatI t
theorem flatI_append (T S : List Itm) : flatI (T ++ S) = flatI T ++ flatI S := by
  induction T with
  | nil => rfl
  | cons x t ih => simp only [List.cons_append, flatI, ih, List.append_assoc]
theorem flatI_get (T : List Itm) : ∀ (i : Nat) (x : Itm), T[i]? = some x → ∀ j, j < 3 → (flatI T)[i * 3 + j]? = (icells x)[j]? := by
  induction T with
  | nil => intro i x h; simp at h
  | cons y t ih =>
    intro i x h j hj
    have hl : (icells y).length = 3 := rfl
    match i with
    | 0 =>
      simp at h; subst h
      rw [flatI, Nat.zero_mul, Nat.zero_add, List.getElem?_append_left (by omega)]
    | i + 1 =>
      simp only [List.getElem?_cons_succ] at h
      have := ih i x h j hj
      rw [flatI, List.getElem?_append_right (by omega), hl, show (i + 1) * 3 + j - 3 = i * 3 + j by omega]
      exact this
/-- nobody in F holds what a slice shows -/
def Far (F : Nat → Prop) (w : World) (v : Value) (n : Nat) : Prop := 0 < n → ∀ b, v.ownBlock = some b → b < w.heap.size ∧ ¬ F b
theorem Far.next {F G : Nat → Prop} {w w' : World} {v : Value} {n : Nat} (h : Far F w v n) (hs : w.heap.size ≤ w'.heap.size) (hG : ∀ x, G x → F x ∨ w.heap.size ≤ x) : Far G w' v n := fun hn b hb => by
  obtain ⟨h1, h2⟩ := h hn b hb
  refine ⟨Nat.lt_of_lt_of_le h1 hs, fun hg => ?_⟩
  rcases hG b hg with h3 | h3
  · exact h2 h3
  · omega
theorem Far.fresh {F : Nat → Prop} {w0 w : World} {v : Value} {n e size : Nat} {xs : List Value} (ho : Kt.Own e size w v n xs) (hF : ∀ x, F x → x < w0.heap.size) (hb : ∀ b, v.ownBlock = some b → w0.heap.size ≤ b) : Far F w v n := fun _ b e =>
  ⟨ho.lt b e, fun h => by have := hF b h; have := hb b e; omega⟩
theorem rdrow_keep {F : Nat → Prop} {w w' : World} {size n : Nat} {v : Value} {xs : List Value} (h : RdRow size w v n xs) (hf : Far F w v n) (ht : Turn F w w') : RdRow size w' v n xs := by
  obtain ⟨h0, a, cap, rfl, h1, h2, h3, h5⟩ := h
  refine ⟨h0, a, cap, rfl, h1, h2, h3, fun j u hj => ?_⟩
  obtain ⟨b, o, rfl, hc⟩ := h5 j u hj
  have hn : 0 < n := by
    have := (List.getElem?_eq_some_iff.1 hj).1
    rw [h0] at this
    exact Nat.pos_of_ne_zero (fun e => by rw [e, Nat.zero_mul] at this; omega)
  obtain ⟨h6, h7⟩ := hf hn b rfl
  refine ⟨b, o, rfl, ?_⟩
  rw [World.cell?_of_block (a := ⟨b, o + j, none⟩) (ht.block b h6 h7)]
  exact hc
structure ItR (F : Nat → Prop) (w : World) (x : Itm) : Prop where
  set : RdP w x.sv x.it.set
  ver : RdV w x.lv x.it.l
  fs : Far F w x.sv x.it.set.length
  fl : Far F w x.lv x.it.l.length
theorem ItR.keep {F G : Nat → Prop} {w w' : World} {x : Itm} (h : ItR F w x) (ht : Turn F w w') (hG : ∀ b, G b → F b ∨ w.heap.size ≤ b) : ItR G w' x :=
  ⟨rdrow_keep h.set h.fs ht, rdrow_keep h.ver h.fl ht, h.fs.next ht.size hG, h.fl.next ht.size hG⟩
/-- the document's store -/
structure RSt (F : Nat → Prop) (w : World) (v : Value) (Q : List Itm) : Prop where
  row : RdRow 3 w v Q.length (flatI Q)
  far : Far F w v Q.length
  it : ∀ x ∈ Q, ItR F w x
theorem RSt.keep {F G : Nat → Prop} {w w' : World} {v : Value} {Q : List Itm} (h : RSt F w v Q) (ht : Turn F w w') (hG : ∀ b, G b → F b ∨ w.heap.size ≤ b) : RSt G w' v Q :=
  ⟨rdrow_keep h.row h.far ht, h.far.next ht.size hG, fun x hx => (h.it x hx).keep ht hG⟩
theorem RSt.below {F : Nat → Prop} {w w' : World} {v : Value} {Q : List Itm} (h : RSt F w v Q) (hb : Below w.heap.size w w') : RSt F w' v Q := h.keep (Turn.of hb) (fun _ hx => .inl hx)
theorem RSt.nil (F : Nat → Prop) (w : World) : RSt F w (.slice none 0 0) [] := ⟨(own_nil w 123 3).rd, (fun h => by simp at h), fun x hx => by cases hx⟩
theorem RSt.open {F : Nat → Prop} {w : World} {v : Value} {Q : List Itm} (h : RSt F w v Q) : ∃ a cap, v = .slice a Q.length cap ∧ Q.length ≤ cap ∧ cap ≤ 9223372036854775807 ∧
    ∀ (i : Nat) (x : Itm), Q[i]? = some x → ItR F w x ∧ ∃ b o, a = some ⟨b, o, none⟩ ∧ b < w.heap.size ∧ w.cell? ⟨b, o + i * 3, none⟩ = some x.sv ∧ w.cell? ⟨b, o + i * 3 + 1, none⟩ = some (.int .i64 x.it.time) ∧ w.cell? ⟨b, o + i * 3 + 2, none⟩ = some x.lv := by
  obtain ⟨⟨_, a, cap, rfl, h1, h2, _, h5⟩, _, h6⟩ := h
  refine ⟨a, cap, rfl, h1, h2, fun i x hi => ⟨h6 x (List.mem_of_getElem? hi), ?_⟩⟩
  have hget := flatI_get Q i x hi
  obtain ⟨b, o, rfl, hc⟩ := h5 _ _ (hget 0 (by omega))
  have key : ∀ j u, j < 3 → (icells x)[j]? = some u → w.cell? ⟨b, o + i * 3 + j, none⟩ = some u := by
    intro j u hj hu
    obtain ⟨b', o', e, hc'⟩ := h5 _ _ ((hget j hj).trans hu)
    cases e
    rw [Nat.add_assoc]; exact hc'
  exact ⟨b, o, rfl, World.block_lt_of_cell? w _ hc, key 0 _ (by omega) rfl, key 1 _ (by omega) rfl, key 2 _ (by omega) rfl⟩
/-- what the store says -/
def toldI (Q : List Itm) : List It := Q.map Itm.it
theorem lenL_take (Q : List Itm) (k : Nat) (h : k < Q.length) : lenL (toldI (Q.take (k + 1))) = lenL (toldI (Q.take k)) + (Q[k]).it.l.length := by
  rw [List.take_succ_eq_append_getElem h, toldI, List.map_append, lenL_append]
  simp [toldI, lenL]
set_option maxHeartbeats 2000000 in
theorem rlen_any {F : Nat → Prop} (v : Value) (Q : List Itm) (w : World) (h : RSt F w v Q) (hl : lenL (toldI Q) ≤ 65536) :
    Calls Tryz.prog 30 #[.agg #[v]] w fun e w' => e = .returned (.int .i64 (lenL (toldI Q) : Int)) ∧ Below w.heap.size w w' := by
  obtain ⟨a, cap, rfl, hcap, hbig, hcell⟩ := h.open
  have Hcell := Lib.hid hcell
  have HL := Lib.hid hl
  clear hcell h hl
  have HX := Lib.hid (Blk.new w #[.slice a Q.length cap] 67)
  have HBa := Lib.hid (below_alloc w (.cells #[.slice a Q.length cap] 67))
  go_enter Tryz.func30, Tryz.ntmps30
  go_wp2_with fail
  generalize w.alloc (.cells #[.slice a Q.length cap] 67) = w1 at HX HBa ⊢
  have HB1 := Lib.hid (bel_refl w1)
  go_loopw [3, 4] (fun n i wr => ∃ k : Nat, k ≤ Q.length ∧ i = .int .i64 k ∧ n = .int .i64 (lenL (toldI (Q.take k)) : Nat) ∧ Hid (Below w1.heap.size w1 wr)) (fun _ i _ => Q.length - (intOf i).toNat)
  case atStart => exact ⟨0, by omega, rfl, rfl, HB1⟩
  case round =>
    clear HB1
    obtain ⟨k, hk, rfl, rfl, HB⟩ := hrel
    have x0 : wr.cell? ⟨w.heap.size, 0, none⟩ = some (.slice a Q.length cap) := (HX.out.next HB.out).cell 0
    by_cases hlt : k < Q.length
    · obtain ⟨x, hx⟩ : ∃ x, Q[k]? = some x := ⟨Q[k], List.getElem?_eq_getElem hlt⟩
      obtain ⟨hr, b, o, rfl, hbl, c0, c1, c2⟩ := Hcell.out k x hx
      obtain ⟨la, lc, hlv, -⟩ := hr.ver.open
      have hB := bel_trans HBa.out HB.out
      have d2 : wr.cell? ⟨b, o + k * 3 + 2, none⟩ = some (.slice la x.it.l.length lc) := by rw [← hlv]; exact (hB.cell (p := ⟨b, _, none⟩) hbl).trans c2
      have HT : Hid (lenL (toldI (Q.take (k + 1))) = lenL (toldI (Q.take k)) + x.it.l.length) := Lib.hid (by
        obtain ⟨hk', e⟩ := List.getElem?_eq_some_iff.1 hx
        rw [lenL_take Q k hk', e])
      have HM : Hid (lenL (toldI (Q.take (k + 1))) ≤ 65536) := Lib.hid (Nat.le_trans (lenL_sub ((List.take_sublist _ _).map _)) HL.out)
      have hk1 : (0 : Int) ≤ (k : Int) := by omega
      have hk2 : (k : Int) < (Q.length : Int) := by omega
      have hsum : lenL (toldI (Q.take k)) + x.it.l.length ≤ 65536 := by rw [← HT.out]; exact HM.out
      clear c0 c1 c2 hx hr hlv hB
      generalize lenL (toldI (Q.take k)) = n at *
      go_wp2_with fail
      go_roundw
      case rel => exact ⟨k + 1, by omega, by go_num, by rw [HT.out]; go_num, HB⟩
      case measure => simp [intOf]; omega
    · obtain rfl : k = Q.length := by omega
      rw [List.take_length]
      have hl := HL.out
      go_wp2_with fail
      go_ret
      exact ⟨rfl, bel_trans HBa.out HB.out⟩
end Go.Proofs.YtplieoalfbpniaaGreat
