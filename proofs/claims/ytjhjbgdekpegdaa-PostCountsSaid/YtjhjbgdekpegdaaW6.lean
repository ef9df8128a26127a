/- slices.Delete of one message (23), Take (10). -/
import Derived.Test.YtjhjbgdekpegdaaW5
import Derived.Deep.RegionLaw
namespace Go.Proofs.Ytjhjbgdekpegdaa
open Go.RowKit Go.Kt Go.Conc

/-- 'append(s[:i], s[i+1:]...)' over one array, as a step of a region -/
theorem step_app_fits {P : Program} {w : World} {ops : Array Oper} {o : Oper} {a : Act} {K : Act → World → Prop} {Q : Exit → Act → World → Prop} {E : Prop} (hgd : o.guard = none) (s x : Operand) (t : TypeId)
    (ho : o.op = .call { callee := .builtin .append, args := #[s, x], argTypes := #[t, t] })
    {e : TypeId} {z : Value} {size bytes : Nat} (ok : ElemOk P t e z size bytes)
    {g n cap : Nat} {xs : List Value} {ad : Addr} {m c : Nat} {news : List Value} (hs : a.eval s = .slice (some ⟨g, 0, none⟩) n cap) (hx : a.eval x = .slice (some ad) m c)
    (hown : Own e size w (.slice (some ⟨g, 0, none⟩) n cap) n xs) (hl : news.length = m * size) (hnews : ∀ j u, news[j]? = some u → w.cell? (ad.add j) = some u) (h1 : ∀ u ∈ news, u.oneCell' = true)
    (hroom : n + m ≤ cap)
    (h : ∀ w', Own e size w' (.slice (some ⟨g, 0, none⟩) (n + m) cap) (n + m) (xs ++ news) → w.grownBy w' (some g) → K (a.put o.dst (.slice (some ⟨g, 0, none⟩) (n + m) cap)) w') :
    if Region.wanted o (yielded ops a.tmps) = true then Oper.wp P o a w K Q else E := by
  have hw : Region.wanted o (yielded ops a.tmps) = true := by simp [Region.wanted, hgd]
  rw [if_pos hw]
  obtain ⟨ht, ⟨i, hi, hz, hsize, hby⟩, hzs, hsz⟩ := ok
  obtain ⟨w', hr, h2, h3⟩ := run_append_fits (P := P) w 0 t o.type e i size ht hi hsize g n cap xs hown ad m c news hl hnews h1 hroom
  unfold Oper.wp execOp
  simp only [ho, resolve, invoke, builtin, Sem.run_bind, Sem.run_pure, Result.andThen_ok, List.map_toArray, List.map_cons, List.map_nil, hs, hx, hr]
  exact h w' h2 h3
theorem own_head {e : TypeId} {size n cap g : Nat} {w : World} {xs : List Value} (h : Own e size w (.slice (some ⟨g, 0, none⟩) n cap) n xs) (k : Nat) (hk : k ≤ n) : Own e size w (.slice (some ⟨g, 0, none⟩) k cap) k (xs.take (k * size)) := by
  obtain ⟨hl, h⟩ := h
  have hks : k * size ≤ n * size := Nat.mul_le_mul_right _ hk
  rcases h with ⟨h, _⟩ | ⟨g', cap', cur, h, hb, hg, hn, hm, hcs, ht⟩
  · cases h
  · cases h
    refine ⟨by rw [List.length_take, hl, Nat.min_eq_left hks], .inr ⟨g, cap, cur, rfl, hb, hg, by omega, hm, hcs, ?_⟩⟩
    rw [← ht, List.take_take, Nat.min_eq_left hks]
/-- a cell behind the elements is turned -/
theorem own_behind {e : TypeId} {size n cap g j : Nat} {w : World} {xs : List Value} (h : Own e size w (.slice (some ⟨g, 0, none⟩) n cap) n xs) (hj : n * size ≤ j) (u : Value) : Own e size (w.setCell ⟨g, j, none⟩ u) (.slice (some ⟨g, 0, none⟩) n cap) n xs := by
  obtain ⟨hl, h⟩ := h
  rcases h with ⟨h, _⟩ | ⟨g', cap', cur, h, hb, hg, hn, hm, hcs, ht⟩
  · cases h
  · cases h
    refine ⟨hl, .inr ⟨g, cap, cur.setIfInBounds j u, rfl, hb, heap_setCell_same w g j cur e u hg, hn, hm, by simpa using hcs, ?_⟩⟩
    rw [← ht, Array.toList_setIfInBounds, List.take_set_of_le hj]
theorem grown_set {w w' : World} {g j : Nat} (h : w.grownBy w' (some g)) (u : Value) : w.grownBy (w'.setCell ⟨g, j, none⟩ u) (some g) :=
  ⟨h.os, h.tape, h.output, by simpa using h.size, fun k hk hne => (heap_setCell_other w' ⟨g, j, none⟩ k u (fun e => hne (by rw [e]))).trans (h.block k hk hne)⟩
theorem mcells_take (ms : List (M × Value)) (k : Nat) : mcells (ms.take k) = (mcells ms).take (k * 3) := by
  induction ms generalizing k with
  | nil => simp [mcells]
  | cons x t ih =>
    cases k with
    | zero => simp [mcells]
    | succ k =>
      have e1 : mcells (x :: t) = x.1.vals x.2 ++ mcells t := rfl
      have e2 : mcells ((x :: t).take (k + 1)) = x.1.vals x.2 ++ mcells (t.take k) := rfl
      have hl : (x.1.vals x.2).length = 3 := rfl
      rw [e1, e2, ih, List.take_append, List.take_of_length_le (l := x.1.vals x.2) (by rw [hl]; omega), hl, show (k + 1) * 3 - 3 = k * 3 by omega]
theorem mcells_drop (ms : List (M × Value)) (k : Nat) : mcells (ms.drop k) = (mcells ms).drop (k * 3) := by
  induction ms generalizing k with
  | nil => simp [mcells]
  | cons x t ih =>
    cases k with
    | zero => simp [mcells]
    | succ k =>
      have e1 : mcells (x :: t) = x.1.vals x.2 ++ mcells t := rfl
      have hl : (x.1.vals x.2).length = 3 := rfl
      rw [e1, List.drop_succ_cons, ih, List.drop_append, List.drop_of_length_le (l := x.1.vals x.2) (by rw [hl]; omega), hl, show (k + 1) * 3 - 3 = k * 3 by omega, List.nil_append]
theorem run_clear1 (w : World) (ty : TypeId) (g j c : Nat) (hc : ∀ k, k < 3 → (w.cell? ⟨g, j + k, none⟩).isSome = true) (hf : ∀ k, k < 3 → w.frozen? ⟨g, j + k, none⟩ = false) :
    (Builtin.clear_ #[53] ty #[.slice (some ⟨g, j, none⟩) 1 c]).run Try.prog w = .ok (.tuple #[]) (w.setCells g j [.int .i64 0, .int .i64 0, .slice none 0 0]) := by
  have hz : (zeroValue 32).run Try.prog w = .ok (.agg #[.int .i64 0, .int .i64 0, .slice none 0 0]) w := by kernel_rfl
  have hst := run_storeCells_cells (P := Try.prog) g j [.int .i64 0, .int .i64 0, .slice none 0 0] 0 w (by simpa using hc) (by simpa using hf) (by intro v hv; simp at hv; rcases hv with rfl | rfl | rfl <;> rfl)
  simp only [Nat.add_zero] at hst
  have hzc : (Builtin.zeroCells (Value.agg #[.int .i64 0, .int .i64 0, .slice none 0 0]).cells 1).toList = [.int .i64 0, .int .i64 0, .slice none 0 0] := by kernel_rfl
  simp [Builtin.clear_, run_underlying Try.underlying53, hz, hzc, hst]

section
variable {ops : Array Oper} {rest : List Oper} {a : Act} {Q : Exit → Act → World → Prop} {w : World} {d : Option Tmp} {ty : TypeId} {x : Operand} {pos : String} {af : Array Edge} {n : Bool} {sp : Bool}
theorem hold_clear {P : Program} {args : Array Operand} {ats : Array TypeId} (h : Hold (wpList P ops Q (⟨d, .call { callee := .builtin .clear, args := args, argTypes := ats }, ty, pos, af, none⟩ :: rest) a w)) : wpList P ops Q (⟨d, .call { callee := .builtin .clear, args := args, argTypes := ats }, ty, pos, af, none⟩ :: rest) a w := h
theorem wpList_clear1 {g j c : Nat} (hx : a.eval x = .slice (some ⟨g, j, none⟩) 1 c) (hc : ∀ k, k < 3 → (w.cell? ⟨g, j + k, none⟩).isSome = true) (hf : ∀ k, k < 3 → w.frozen? ⟨g, j + k, none⟩ = false)
    (h : wpList Try.prog ops Q rest (a.put d (.tuple #[])) (w.setCells g j [.int .i64 0, .int .i64 0, .slice none 0 0])) :
    wpList Try.prog ops Q (⟨d, .call { callee := .builtin .clear, args := #[x], argTypes := #[53] }, ty, pos, af, none⟩ :: rest) a w := by
  refine wpList_plain rfl fun K hK => ?_
  have hr := run_clear1 w ty g j c hc hf
  unfold Oper.wp execOp
  simp only [resolve, invoke, builtin, Sem.run_bind, Sem.run_pure, Result.andThen_ok, List.map_toArray, List.map_cons, List.map_nil, hx, hr]
  exact hK _ _ h
end
theorem own_tail {e : TypeId} {size n cap g : Nat} {w : World} {xs : List Value} (h : Own e size w (.slice (some ⟨g, 0, none⟩) n cap) n xs) (k : Nat) : ∀ j u, (xs.drop k)[j]? = some u → w.cell? ((⟨g, k, none⟩ : Addr).add j) = some u := by
  intro j u hj
  rw [List.getElem?_drop] at hj
  have := World.ownsRow.cells (g := g) h rfl _ u hj
  rw [Addr.add_lit] at this ⊢
  simpa using this
def Deleted (ms : List (M × Value)) (i : Nat) (v : Value) (w : World) (e : Ending) (w' : World) : Prop :=
  ∃ v', e = .returned v' ∧ Own 32 3 w' v' (ms.length - 1) (mcells (ms.eraseIdx i)) ∧ w.grownBy w' v.ownBlock ∧ v'.ownBlock = v.ownBlock
theorem mcells_one (ms : List (M × Value)) (h : ∀ x ∈ ms, x.2.oneCell' = true) : ∀ u ∈ mcells ms, u.oneCell' = true := by
  intro u hu
  unfold mcells at hu
  obtain ⟨c, hc, hu⟩ := List.mem_flatten.1 hu
  obtain ⟨x, hx, rfl⟩ := List.mem_map.1 hc
  exact vals_one x.1 x.2 (h x hx) u hu
theorem own_room {n cap g : Nat} {w : World} {xs : List Value} (h : Own 32 3 w (.slice (some ⟨g, 0, none⟩) n cap) n xs) (hn : n + 1 ≤ cap) :
    (∀ k, k < 3 → (w.cell? ⟨g, n * 3 + k, none⟩).isSome = true) ∧ (∀ k, k < 3 → w.frozen? ⟨g, n * 3 + k, none⟩ = false) := by
  refine ⟨fun k hk => ?_, fun k _ => World.ownsRow.frozenAt h _⟩
  obtain ⟨hl, h⟩ := h
  rcases h with ⟨h, _⟩ | ⟨g', cap', cur, h, hb, hg, hn', hm, hcs, ht⟩
  · cases h
  · cases h
    rw [cell_of_row w g (n * 3 + k) cur 32 (0, 0) hg]
    simp
    omega
theorem own_cleared {n cap g : Nat} {w : World} {xs : List Value} (h : Own 32 3 w (.slice (some ⟨g, 0, none⟩) n cap) n xs) : Own 32 3 (w.setCells g (n * 3) [.int .i64 0, .int .i64 0, .slice none 0 0]) (.slice (some ⟨g, 0, none⟩) n cap) n xs := by
  unfold World.setCells World.setCells World.setCells World.setCells
  exact own_behind (own_behind (own_behind h (by omega) _) (by omega) _) (by omega) _
theorem grown_cleared {w w' : World} {g j : Nat} (h : w.drew.grownBy w' (some g)) : w.grownBy (w'.setCells g j [.int .i64 0, .int .i64 0, .slice none 0 0]) (some g) := by
  have h' : w.grownBy w' (some g) := ⟨h.os, h.tape, h.output, h.size, h.block⟩
  unfold World.setCells World.setCells World.setCells World.setCells
  exact grown_set (grown_set (grown_set h' _) _) _
theorem mcells_erase (ms : List (M × Value)) (i : Nat) : mcells (ms.eraseIdx i) = (mcells ms).take (i * 3) ++ (mcells ms).drop ((i + 1) * 3) := by
  rw [List.eraseIdx_eq_take_drop_succ, mcells_app, mcells_take, mcells_drop]
set_option maxHeartbeats 2000000 in
theorem delete_any (v : Value) (ms : List (M × Value)) (i : Nat) (w : World) (hown : Own 32 3 w v ms.length (mcells ms)) (hi : i < ms.length) (h1 : ∀ x ∈ ms, x.2.oneCell' = true) :
    Calls Try.prog 23 #[v, .int .i64 i, .int .i64 (i + 1)] w (Deleted ms i v w) := by
  have HE := Lib.hid (mcells_erase ms i)
  have HO := Lib.hid hown
  have hml := mcells_len ms
  have h := hown.2
  clear hown
  unfold Deleted
  generalize hlen : ms.length = n at *
  obtain ⟨k, rfl⟩ : ∃ k, n = k + 1 := ⟨n - 1, by omega⟩
  have HK1 : Hid (k + 1 - 1 = k) := Lib.hid (by omega)
  rcases h with ⟨_, h0⟩ | ⟨g, cap, cur, rfl, _, hg, hn, hm, hcs, ht⟩
  · omega
  have hm' : cap ≤ 9223372036854775807 := hm
  have d1 : ((i : Int) == (i : Int) + 1) = false := by rw [beq_eq_false_iff_ne]; omega
  have Hone := Lib.hid h1
  have Hml := Lib.hid hml
  have Hlen := Lib.hid hlen
  have hik : i ≤ k := by omega
  have hwl : g < w.heap.size := HO.out.lt g rfl
  have hck : ¬ cap = k := by omega
  have hkc : k + 1 ≤ cap := hn
  have hkc2 : k ≤ k + 1 := by omega
  have hkI : (k : Int) ≤ (k : Int) + 1 := by omega
  have hk0 : (0 : Int) ≤ (k : Int) + 1 := by omega
  have hkc3 : (k : Int) + 1 ≤ (cap : Int) := by omega
  have hz0 : (0 : Int) ≤ (i : Int) + 1 := by omega
  clear hg hm hcs ht h1 hml hlen hn hi
  by_cases hcap : cap = i + 1
  · subst hcap
    have hz1 : (i : Int) ≤ (i : Int) + 1 := by omega
    have hz2 : i ≤ i + 1 := by omega
    obtain rfl : i = k := by omega
    go_enter Try.func23, Try.ntmps23
    go_wp2_with fail
    go_region_law (refine step_app_fits (by rfl) _ _ 53 (by rfl) ok53 (by rfl) (by rfl) (own_head HO.out i (by omega)) (news := []) (by simp) (fun j u h => by cases h) (fun u h => by cases h) (by omega) ?_; intro w7 ho7 hg7; rw [Nat.add_zero] at ho7 ⊢)
    have HR := Lib.hid (own_room ho7 (by omega))
    have Ho7 := Lib.hid ho7
    have Hg7 := Lib.hid hg7
    clear ho7 hg7
    go_wp2_with (with_reducible refine hold_clear ?_)
    unfold Hold
    refine wpList_clear1 (by rfl) HR.out.1 HR.out.2 ?_
    go_wp2_with fail
    go_ret
    refine ⟨_, rfl, ?_, grown_cleared Hg7.out, rfl⟩
    rw [HK1.out, HE.out, List.drop_of_length_le (by rw [Hml.out]; exact Nat.le_refl _)]
    exact own_cleared Ho7.out
  · have hcap' : i + 1 < cap := by omega
    have hz1 : i ≤ cap := by omega
    have hz2 : (i : Int) + 1 ≤ (k : Int) + 1 := by omega
    have hz3 : i + 1 ≤ k + 1 := by omega
    go_enter Try.func23, Try.ntmps23
    go_wp2_with fail
    go_region_law (refine step_app_fits (by rfl) _ _ 53 (by rfl) ok53 (by rfl) (by rfl) (own_head HO.out i (by omega)) (news := (mcells ms).drop ((i + 1) * 3)) (by rw [List.length_drop, Hml.out]; omega) (own_tail HO.out _) (fun u h => mcells_one ms Hone.out u (List.mem_of_mem_drop h)) (by omega) ?_; intro w7 ho7 hg7; rw [show i + (k - i) = k from by omega] at ho7 ⊢)
    have HR := Lib.hid (own_room ho7 (by omega))
    have Ho7 := Lib.hid ho7
    have Hg7 := Lib.hid hg7
    clear ho7 hg7
    go_wp2_with (with_reducible refine hold_clear ?_)
    unfold Hold
    refine wpList_clear1 (by rfl) HR.out.1 HR.out.2 ?_
    go_wp2_with fail
    go_ret
    refine ⟨_, rfl, ?_, grown_cleared Hg7.out, rfl⟩
    rw [HK1.out, HE.out]
    exact own_cleared Ho7.out
end Go.Proofs.Ytjhjbgdekpegdaa
