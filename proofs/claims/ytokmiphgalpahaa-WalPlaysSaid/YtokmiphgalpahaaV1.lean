/- Rows of rows of bytes: read (RdBs), in blocks of K (OwnBs); append to one. -/
import Derived.Test.YtokmiphgalpahaaFWD
import Derived.Test.YtokmiphgalpahaaWE
namespace Go.Proofs.Ytokmiphgalpahaa
open Go.RowKit Go.Kt
set_option maxRecDepth 100000
/-! ### four results -/
theorem results_tmp4 {fn : Func} {t u v x : Tmp} (h : fn.results = #[.tmp t, .tmp u, .tmp v, .tmp x]) (tmps : Array Value) (P : Program) (w : World) :
    (results fn tmps).run P w = .ok (.tuple #[tmps.getD t undef, tmps.getD u undef, tmps.getD v undef, tmps.getD x undef]) w := by
  simp [results, h]
variable {w w' w0 W : World} {K G : Nat → Prop} {v : Value} {l : List UInt8}

theorem blkT {g : Nat} {cs : Array Value} {t : TypeId} (h : Blk w g cs t) (ht : Turn G w w') (hg : ¬ G g) : Blk w' g cs t := (ht.block g h.lt hg).trans h
/-- bytes that lie in blocks of K -/
def In8 (K : Nat → Prop) (w : World) (v : Value) (l : List UInt8) : Prop := Own8 5 w v l ∧ ∀ b, v.ownBlock = some b → K b
theorem In8.rd (h : In8 K w v l) : Rd8 w v l := h.1.rd
theorem In8.more (h : In8 K w v l) (hG : ∀ x, K x → x < w.heap.size → G x) : In8 G w v l := ⟨h.1, fun b hb => hG b (h.2 b hb) (Own.lt h.1 b hb)⟩
theorem In8.keep (h : In8 K w v l) (ht : Turn G w w') (hG : ∀ x, K x → ¬ G x) : In8 K w' v l := ⟨Own.keep h.1 (fun x hx => ht.block x (Own.lt h.1 x hx) (hG x (h.2 x hx))), h.2⟩
theorem In8.next (h : In8 K w v l) (hb : Below w.heap.size w w') : In8 K w' v l := h.keep (Turn.of (F := fun _ => False) hb) (fun _ _ hx => hx)
theorem in8_mine (h : Mine8 5 w0 w v l) : In8 (fun x => w0.heap.size ≤ x ∧ x < w.heap.size) w v l := ⟨h.1, fun b hb => ⟨h.2 b hb, Own.lt h.1 b hb⟩⟩
theorem In8.slice (h : In8 K w v l) : v.oneCell' = true := by
  obtain ⟨a, cap, rfl, _⟩ := h.rd.open
  rfl
theorem in8_nil (K : Nat → Prop) (w : World) : In8 K w (.slice none 0 0) [] := ⟨own_nil w 5 1, fun b hb => by cases hb⟩

/-- a row of rows of bytes that is read -/
def RdBs (w : World) (v : Value) (l : List (List UInt8)) : Prop :=
  ∃ T : List (Value × List UInt8), T.map (·.2) = l ∧ RdRow 1 w v T.length (T.map (·.1)) ∧ ∀ x ∈ T, Rd8 w x.1 x.2
theorem RdBs.next {l : List (List UInt8)} (h : RdBs w v l) (hb : Below w.heap.size w w') : RdBs w' v l := by
  obtain ⟨T, h1, h2, h3⟩ := h
  exact ⟨T, h1, h2.below hb, fun x hx => (h3 x hx).below hb⟩
theorem RdBs.open {l : List (List UInt8)} (h : RdBs w v l) : ∃ a cap, v = .slice a l.length cap ∧ l.length ≤ cap ∧ cap ≤ 9223372036854775807 ∧
    ∀ (i : Nat) (p : List UInt8), l[i]? = some p → ∃ b o x, a = some ⟨b, o, none⟩ ∧ w.cell? ⟨b, o + i, none⟩ = some x ∧ Rd8 w x p := by
  obtain ⟨T, rfl, h2, h3⟩ := h
  obtain ⟨_, a, cap, rfl, k1, k2, _, k5⟩ := h2
  refine ⟨a, cap, by rw [List.length_map], by rw [List.length_map]; exact k1, k2, fun i p hp => ?_⟩
  rw [List.getElem?_map] at hp
  cases hx : T[i]? with
  | none => rw [hx] at hp; cases hp
  | some x =>
    rw [hx] at hp
    cases hp
    obtain ⟨b, o, rfl, hc⟩ := k5 i x.1 (by rw [List.getElem?_map, hx]; rfl)
    exact ⟨b, o, x.1, rfl, hc, h3 x (List.mem_of_getElem? hx)⟩

/-- a row of rows of bytes, all in blocks of K -/
def OwnBs (K : Nat → Prop) (w : World) (v : Value) (l : List (List UInt8)) : Prop :=
  ∃ T : List (Value × List UInt8), T.map (·.2) = l ∧ Own 22 1 w v T.length (T.map (·.1)) ∧ (∀ b, v.ownBlock = some b → K b) ∧ ∀ x ∈ T, In8 K w x.1 x.2
section
variable {l : List (List UInt8)}
theorem OwnBs.rd (h : OwnBs K w v l) : RdBs w v l := by
  obtain ⟨T, h1, h2, _, h3⟩ := h
  exact ⟨T, h1, h2.rd, fun x hx => (h3 x hx).rd⟩
theorem OwnBs.more (h : OwnBs K w v l) (hG : ∀ x, K x → x < w.heap.size → G x) : OwnBs G w v l := by
  obtain ⟨T, h1, h2, h3, h4⟩ := h
  exact ⟨T, h1, h2, fun b hb => hG b (h3 b hb) (Own.lt h2 b hb), fun x hx => (h4 x hx).more hG⟩
theorem OwnBs.keep (h : OwnBs K w v l) (ht : Turn G w w') (hG : ∀ x, K x → ¬ G x) : OwnBs K w' v l := by
  obtain ⟨T, h1, h2, h3, h4⟩ := h
  exact ⟨T, h1, Own.keep h2 (fun x hx => ht.block x (Own.lt h2 x hx) (hG x (h3 x hx))), h3, fun x hx => (h4 x hx).keep ht hG⟩
theorem OwnBs.next (h : OwnBs K w v l) (hb : Below w.heap.size w w') : OwnBs K w' v l := h.keep (Turn.of (F := fun _ => False) hb) (fun _ _ hx => hx)
theorem ownBs_nil (K : Nat → Prop) (w : World) : OwnBs K w (.slice none 0 0) [] := ⟨[], rfl, own_nil w 22 1, (fun b hb => by cases hb), fun x hx => by simp at hx⟩
end
theorem ok24 : ElemOk Try.prog 24 22 (.slice none 0 0) 1 24 := ⟨Try.underlying24, info_parts (by kernel_rfl), rfl, by decide⟩
/-- 'append(l, p)' -/
theorem wpList_app_bs {P : Program} {w : World} {ops : Array Oper} {rest : List Oper} {o : Oper} {a : Act} {Q : Exit → Act → World → Prop} (hgd : Region.wanted o (yielded ops a.tmps) = true) (s x : Operand) (t : TypeId)
    (ho : o.op = .call { callee := .builtin .append, args := #[s, x], argTypes := #[t, t] })
    {z : Value} (ok : ElemOk P t 22 z 1 24) {v : Value} {l : List (List UInt8)} {pv : Value} {p : List UInt8} {g : Nat}
    (hs : a.eval s = v) (hx : a.eval x = .slice (some ⟨g, 0, none⟩) 1 1) (hg : g = w.heap.size) (hown : OwnBs K w v l) (hp : In8 K w pv p) (hlen : l.length < 1000000000)
    (h : ∀ v' w', OwnBs (Plus K w w') w' v' (l ++ [p]) → Turn (fun x => v.ownBlock = some x) w w' → (∀ b, v'.ownBlock = some b → v.ownBlock = some b ∨ w.heap.size ≤ b) → wpList P ops Q rest (a.put o.dst v') w') : wpList P ops Q (o :: rest) a (w.alloc (.cells #[pv] 22)) := by
  subst hg
  obtain ⟨T, hT, hO, hB, hM⟩ := hown
  have hTl : T.length = l.length := by rw [← hT]; simp
  have bel := below_alloc w (.cells #[pv] 22)
  have hO' := hO.below' bel
  have hx' : RdRow 1 (w.alloc (.cells #[pv] 22)) (.slice (some ⟨w.heap.size, 0, none⟩) 1 1) 1 [pv] := (own_lit w 22 1 #[pv] 1 (by simp [maxLen]) rfl).rd
  refine wpList_app hgd s x t ho ok hs hx hO' hx' (by intro u hu; simp at hu; subst hu; exact hp.slice) (by simp only [maxLen]; omega) (by omega) ?_
  intro v' w' h2 h3 h4
  have hs3 := h3.size
  simp only [World.size_alloc] at hs3 h4
  have ht : Turn (fun x => v.ownBlock = some x) w w' := (Turn.of (F := fun x => v.ownBlock = some x) bel).trans (Turn.grown h3 (fun x hx => hx)) (fun x hx => .inl hx)
  have keep : ∀ {q : Value} {m : List UInt8}, In8 K w q m → In8 (Plus K w w') w' q m := fun hq =>
    ⟨Own.grown (Own.below' hq.1 bel) h3 (fun b hb hv => Fm.own_apart hO' (Own.below' hq.1 bel) (by decide) b hv hb), fun b hb => .inl (hq.2 b hb)⟩
  refine h v' w' ⟨T ++ [(pv, p)], by simp [← hT], ?_, fun b hb => ?_, fun y hy => ?_⟩ ht (fun b hb => (h4 b hb).imp id (fun h => by omega))
  · rw [List.length_append, List.map_append]; exact h2
  · have hlt := Own.lt h2 b hb
    rcases h4 b hb with h5 | h5
    · exact .inl (hB b h5)
    · exact .inr ⟨by omega, hlt⟩
  · rcases List.mem_append.1 hy with hy | hy
    · exact keep (hM y hy)
    · simp at hy; subst hy; exact keep hp
end Go.Proofs.Ytokmiphgalpahaa
