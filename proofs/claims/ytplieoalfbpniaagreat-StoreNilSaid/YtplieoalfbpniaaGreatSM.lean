/- Points in memory. -/
import Derived.Test.YtplieoalfbpniaaGreatSL
namespace Go.Proofs.YtplieoalfbpniaaGreat
open Go.RowKit Go.Kt Go.Ix Go.Sx
set_option maxRecDepth 100000

theorem own_lit_at {w : World} {g : Nat} (e : TypeId) (size : Nat) (cs : Array Value) (n : Nat) (hm : n ≤ maxLen) (hs : cs.size = n * size) (hg : g = w.heap.size) : Kt.Own e size (w.alloc (.cells cs e)) (.slice (some ⟨g, 0, none⟩) n n) n cs.toList := by
  subst hg; exact own_lit w e size cs n hm hs
/-- a point: its labels, its time, its version; sv: the slice that holds its labels -/
structure Pn where
  st : List Pr
  t : Int
  v : Ver
  sv : Value
def Pn.told (q : Pn) : List Pr × Int × Ver := (q.st, q.t, q.v)
def pcells (q : Pn) : List Value := [q.sv, .int .i64 q.t, .int .i64 q.v.kind, .int .i64 q.v.num, .string q.v.text, .int .i64 q.v.at_.wall, .int .u32 q.v.at_.tick, .int .u32 q.v.at_.mark]
def flatN : List Pn → List Value
  | [] => []
  | q :: t => pcells q ++ flatN t
theorem flatN_len (T : List Pn) : (flatN T).length = T.length * 8 := by
  induction T with
  | nil => rfl
  | cons x t ih => simp only [flatN, pcells, List.length_append, List.length_cons, List.length_nil, ih]; omega
theorem flatN_append (T S : List Pn) : flatN (T ++ S) = flatN T ++ flatN S := by
  induction T with
  | nil => rfl
  | cons x t ih => simp only [List.cons_append, flatN, ih, List.append_assoc]
theorem flatN_get (T : List Pn) : ∀ (i : Nat) (x : Pn), T[i]? = some x → ∀ j, j < 8 → (flatN T)[i * 8 + j]? = (pcells x)[j]? := by
  induction T with
  | nil => intro i x h; simp at h
  | cons y t ih =>
    intro i x h j hj
    have hl : (pcells y).length = 8 := rfl
    match i with
    | 0 =>
      simp at h; subst h
      rw [flatN, Nat.zero_mul, Nat.zero_add, List.getElem?_append_left (by omega)]
    | i + 1 =>
      simp only [List.getElem?_cons_succ] at h
      have := ih i x h j hj
      rw [flatN, List.getElem?_append_right (by omega), hl, show (i + 1) * 8 + j - 8 = i * 8 + j by omega]
      exact this
theorem pcells_one (x : Pn) (h : x.sv.oneCell' = true) : ∀ u ∈ pcells x, u.oneCell' = true := by
  intro u hu
  simp only [pcells, List.mem_cons, List.not_mem_nil, or_false] at hu
  rcases hu with rfl | rfl | rfl | rfl | rfl | rfl | rfl | rfl
  · exact h
  all_goals rfl
theorem ok29 : ElemOk Tryz.prog 29 35 (.agg #[.slice none 0 0, .int .i64 0, .int .i64 0, .int .i64 0, .string ⟨#[]⟩, .int .i64 0, .int .u32 0, .int .u32 0]) 8 80 := ⟨Tryz.underlying29, info_parts (by kernel_rfl), rfl, by decide⟩

/-- points that are read -/
def RdN (w : World) (v : Value) (Q : List Pn) : Prop := RdRow 8 w v Q.length (flatN Q) ∧ ∀ q ∈ Q, RdP w q.sv q.st
theorem RdN.below {w w' : World} {v : Value} {Q : List Pn} (h : RdN w v Q) (hb : Below w.heap.size w w') : RdN w' v Q := ⟨h.1.below hb, fun q hq => (h.2 q hq).below hb⟩
theorem RdN.open {w : World} {v : Value} {Q : List Pn} (h : RdN w v Q) : ∃ a cap, v = .slice a Q.length cap ∧ Q.length ≤ cap ∧ cap ≤ 9223372036854775807 ∧
    ∀ (i : Nat) (x : Pn), Q[i]? = some x → ∃ b o, a = some ⟨b, o, none⟩ ∧ b < w.heap.size ∧ w.cell? ⟨b, o + i * 8, none⟩ = some x.sv ∧ w.cell? ⟨b, o + i * 8 + 1, none⟩ = some (.int .i64 x.t) ∧
      w.cell? ⟨b, o + i * 8 + 2, none⟩ = some (.int .i64 x.v.kind) ∧ w.cell? ⟨b, o + i * 8 + 3, none⟩ = some (.int .i64 x.v.num) ∧ w.cell? ⟨b, o + i * 8 + 4, none⟩ = some (.string x.v.text) ∧
      w.cell? ⟨b, o + i * 8 + 5, none⟩ = some (.int .i64 x.v.at_.wall) ∧ w.cell? ⟨b, o + i * 8 + 6, none⟩ = some (.int .u32 x.v.at_.tick) ∧ w.cell? ⟨b, o + i * 8 + 7, none⟩ = some (.int .u32 x.v.at_.mark) := by
  obtain ⟨⟨_, a, cap, rfl, h1, h2, _, h5⟩, _⟩ := h
  refine ⟨a, cap, rfl, h1, h2, fun i x hi => ?_⟩
  have hget := flatN_get Q i x hi
  obtain ⟨b, o, rfl, hc⟩ := h5 _ _ (hget 0 (by omega))
  have key : ∀ j u, j < 8 → (pcells x)[j]? = some u → w.cell? ⟨b, o + i * 8 + j, none⟩ = some u := by
    intro j u hj hu
    obtain ⟨b', o', e, hc'⟩ := h5 _ _ ((hget j hj).trans hu)
    cases e
    rw [Nat.add_assoc]; exact hc'
  exact ⟨b, o, rfl, World.block_lt_of_cell? w _ hc, key 0 _ (by omega) rfl, key 1 _ (by omega) rfl, key 2 _ (by omega) rfl, key 3 _ (by omega) rfl, key 4 _ (by omega) rfl, key 5 _ (by omega) rfl, key 6 _ (by omega) rfl, key 7 _ (by omega) rfl⟩
/-- points that the call has made, each with labels of its own -/
structure Pts (e es : TypeId) (w0 w : World) (v : Value) (Q : List Pn) : Prop where
  row : Mine e 8 w0 w v Q.length (flatN Q)
  sets : ∀ q ∈ Q, OwnP es w q.sv q.st ∧ ∀ b, q.sv.ownBlock = some b → w0.heap.size ≤ b
variable {e es : TypeId} {w0 w1 w w' : World} {v v' : Value} {Q : List Pn}
theorem Pts.rd (h : Pts e es w0 w v Q) : RdN w v Q := ⟨h.row.rd, fun q hq => (h.sets q hq).1.rd⟩
theorem Pts.bel (h : Pts e es w0 w v Q) : Below w0.heap.size w0 w := h.row.2.2
theorem Pts.below (h : Pts e es w0 w v Q) (hb : Below w.heap.size w w') : Pts e es w0 w' v Q := ⟨h.row.below hb, fun q hq => ⟨(h.sets q hq).1.below hb, (h.sets q hq).2⟩⟩
theorem Pts.nil (e es : TypeId) (w : World) : Pts e es w w (.slice none 0 0) [] := ⟨⟨own_nil w e 8, (fun b hb => by cases hb), bel_refl w⟩, fun q hq => by cases hq⟩
theorem Pts.since (h : Pts e es w1 w v Q) (hb : Below w0.heap.size w0 w1) : Pts e es w0 w v Q :=
  ⟨⟨h.row.1, fun b hb' => Nat.le_trans hb.size (h.row.2.1 b hb'), bel_trans hb h.row.2.2⟩, fun q hq => ⟨(h.sets q hq).1, fun b hb' => Nat.le_trans hb.size ((h.sets q hq).2 b hb')⟩⟩
/-- one point more -/
theorem Pts.push (h : Pts e es w0 w v Q) (hne : e ≠ es) {q : Pn} (hq : OwnP es w q.sv q.st) (hq2 : ∀ b, q.sv.ownBlock = some b → w0.heap.size ≤ b)
    (ho : Kt.Own e 8 w' v' (Q.length + 1) (flatN Q ++ pcells q)) (hg : w.grownBy w' v.ownBlock) (hn : ∀ b, v'.ownBlock = some b → v.ownBlock = some b ∨ w.heap.size ≤ b) : Pts e es w0 w' v' (Q ++ [q]) := by
  have hs := h.row.2.2.size
  have keep : ∀ (u : Value) (l : List Pr), OwnP es w u l → OwnP es w' u l := fun u l hu => Own.grown hu hg (fun b hb e' => own_apart h.row.1 hu hne b e' hb)
  refine ⟨⟨?_, fun b hb => ?_, h.row.2.2.grown hg hs (fun k hk => h.row.2.1 k hk)⟩, fun x hx => ?_⟩
  · rw [List.length_append, flatN_append]
    simpa [flatN] using ho
  · rcases hn b hb with h1 | h1
    · exact h.row.2.1 b h1
    · omega
  · rcases List.mem_append.1 hx with hx | hx
    · exact ⟨keep _ _ (h.sets x hx).1, (h.sets x hx).2⟩
    · rw [List.mem_singleton.1 hx]
      exact ⟨keep _ _ hq, hq2⟩
theorem Pts.more {n : Nat} (h : Pts e es w0 w v Q) (hl : Q.length = n) : ∃ a c, v = .slice a n c := by
  obtain ⟨a, c, rfl, _⟩ := h.rd.open
  rw [hl]
  exact ⟨a, c, rfl⟩
/-- what is read of a chain, and whether -/
theorem getV_eq (l : List Ver) (t : Tm) : getV l t = .tuple #[((getC l t).getD verNil).val, .bool (getC l t).isSome] := by
  unfold getV
  cases getC l t <;> rfl
end Go.Proofs.YtplieoalfbpniaaGreat
