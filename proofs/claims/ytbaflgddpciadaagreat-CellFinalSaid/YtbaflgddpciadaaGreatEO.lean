/- Commands read; Closed, Safe, Ticks of a cell. -/
import Derived.Test.YtbaflgddpciadaaGreatEN
set_option linter.unusedVariables false
set_option linter.unusedSimpArgs false
namespace Go.Proofs.YtbaflgddpciadaaGreat
open Go.RowKit Go.Kt Go.Ix Go.Sx Go.Cx
set_option maxRecDepth 100000
theorem flatC_get (T : List Cw) : ∀ (i : Nat) (x : Cw), T[i]? = some x → ∀ j, j < 10 → (flatC T)[i * 10 + j]? = (ccs x)[j]? := by
  induction T with
  | nil => intro i x h; simp at h
  | cons y t ih =>
    intro i x h j hj
    have hl : (ccs y).length = 10 := rfl
    match i with
    | 0 =>
      simp at h; subst h
      rw [flatC, Nat.zero_mul, Nat.zero_add, List.getElem?_append_left (by omega)]
    | i + 1 =>
      simp only [List.getElem?_cons_succ] at h
      have := ih i x h j hj
      rw [flatC, List.getElem?_append_right (by omega), hl, show (i + 1) * 10 + j - 10 = i * 10 + j by omega]
      exact this
theorem RdC.open {w : World} {v : Value} {L : List Cw} (h : RdC w v L) : ∃ a cap, v = .slice a L.length cap ∧ L.length ≤ cap ∧ cap ≤ 9223372036854775807 ∧
    ∀ (i : Nat) (x : Cw), L[i]? = some x → CwR w x ∧ ∃ b o, a = some ⟨b, o, none⟩ ∧ b < w.heap.size ∧ w.cell? ⟨b, o + i * 10, none⟩ = some (.int .i64 x.m.kind) ∧ w.cell? ⟨b, o + i * 10 + 1, none⟩ = some (.int .u32 x.m.deed) ∧ w.cell? ⟨b, o + i * 10 + 2, none⟩ = some (.int .i64 x.m.at_.wall) ∧ w.cell? ⟨b, o + i * 10 + 3, none⟩ = some (.int .u32 x.m.at_.tick) ∧ w.cell? ⟨b, o + i * 10 + 4, none⟩ = some (.int .u32 x.m.at_.mark) ∧ w.cell? ⟨b, o + i * 10 + 5, none⟩ = some (.bool x.m.yes) ∧ w.cell? ⟨b, o + i * 10 + 6, none⟩ = some (.string x.m.token) ∧ w.cell? ⟨b, o + i * 10 + 7, none⟩ = some (.int .i64 x.m.n) ∧ w.cell? ⟨b, o + i * 10 + 8, none⟩ = some (.int .i64 x.m.id) ∧ w.cell? ⟨b, o + i * 10 + 9, none⟩ = some (x.v) := by
  obtain ⟨⟨_, a, cap, rfl, h1, h2, _, h5⟩, h6⟩ := h
  refine ⟨a, cap, rfl, h1, h2, fun i x hi => ⟨h6 x (List.mem_of_getElem? hi), ?_⟩⟩
  have hget := flatC_get L i x hi
  obtain ⟨b, o, rfl, hc⟩ := h5 _ _ (hget 0 (by omega))
  have key : ∀ j u, j < 10 → (ccs x)[j]? = some u → w.cell? ⟨b, o + i * 10 + j, none⟩ = some u := by
    intro j u hj hu
    obtain ⟨b', o', e, hc'⟩ := h5 _ _ ((hget j hj).trans hu)
    cases e
    rw [Nat.add_assoc]; exact hc'
  exact ⟨b, o, rfl, World.block_lt_of_cell? w _ hc, key 0 _ (by omega) rfl, key 1 _ (by omega) rfl, key 2 _ (by omega) rfl, key 3 _ (by omega) rfl, key 4 _ (by omega) rfl, key 5 _ (by omega) rfl, key 6 _ (by omega) rfl, key 7 _ (by omega) rfl, key 8 _ (by omega) rfl, key 9 _ (by omega) rfl⟩
theorem CwR.below {w w' : World} {o : Cw} (h : CwR w o) (hb : Below w.heap.size w w') : CwR w' o := ⟨h.rd.below hb, h.pl, fun x hx => ⟨(h.wr x hx).set.below hb, (h.wr x hx).fit, (h.wr x hx).len, (h.wr x hx).text⟩, h.tok, h.ok, h.n, h.id⟩
/-- a command that To has made of a light one may be done -/
theorem to_cmdr {w w' : World} {o : Cw} {v' : Value} {Q : List Wr} (h : CwR w o) (hl : LightW o.m.token o.T) (hr : RdW w' v' Q) (hp : Q.map Wr.pl = o.T.map Wr.pl) : CmdR w' o.m v' Q := by
  have key : ∀ x ∈ Q, ∃ y ∈ o.T, y.pl = x.pl := fun x hx => by
    have : x.pl ∈ o.T.map Wr.pl := by rw [← hp]; exact List.mem_map_of_mem hx
    obtain ⟨y, hy, e⟩ := List.mem_map.1 this
    exact ⟨y, hy, e⟩
  have hlen : Q.length = o.T.length := by have := congrArg List.length hp; simpa using this
  refine ⟨hr, by rw [hp, h.pl], by have := hl.1; omega, fun x hx => ?_, fun x hx => ?_, h.tok, h.ok⟩
  · obtain ⟨y, hy, e⟩ := key x hx
    have e1 : y.st = x.st := congrArg Wp.st e
    have e2 : y.x = x.x := congrArg Wp.x e
    exact ⟨e1 ▸ (h.wr y hy).fit, e2 ▸ (h.wr y hy).text⟩
  · obtain ⟨y, hy, e⟩ := key x hx
    have e1 : y.st = x.st := congrArg Wp.st e
    exact e1 ▸ (h.wr y hy).len
variable {S : Nat → Prop} {w w' : World} {c N : Nat} {C : Cl}
end Go.Proofs.YtbaflgddpciadaaGreat
