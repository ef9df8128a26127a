/- Gates: the contract of awake (8), GateNil (6). -/
import Derived.Test.YtjeecffhclhbaaaW5
namespace Go.Proofs.Ytjeecffhclhbaaa
open Go.RowKit Go.Kt

theorem asked_ok {G : Gt} (h : G.ok) {s : ByteArray} {cost t : Int} (h1 : 1 ≤ cost) (h2 : cost ≤ (findF G s t).1) (hr : (G.f (kl s)).isSome = false → (G.n : Int) < G.room) (h5 : 0 ≤ t) (h6 : t ≤ 4611686018427387904) : (asked G s cost t).ok := by
  obtain ⟨q1, q2, q3, q4⟩ := findF_ok G h s t h5 h6
  obtain ⟨o1, o2, o3, o4, o5, o6, o7, o8⟩ := h
  refine ⟨o1, o2, o3, o4, o5, o6, ?_, fun k b hb => ?_⟩
  · show ((if (G.f (kl s)).isSome then G.n else G.n + 1 : Nat) : Int) ≤ G.room
    split
    · exact o7
    · rename_i hn
      have := hr (by simpa using hn)
      omega
  · have hb' : setF G.f (kl s) ((findF G s t).1 - cost, (findF G s t).2) k = some b := hb
    show 0 ≤ b.1 ∧ b.1 ≤ G.burst ∧ _
    unfold setF at hb'
    split at hb'
    · cases hb'
      exact ⟨by simp only; omega, by simp only; omega, q3, q4⟩
    · exact o8 k b hb'
theorem askF_ok {G : Gt} (h : G.ok) (s : ByteArray) (cost t : Int) : (askF G s cost t).2.ok := by
  unfold askF
  split
  · exact h
  · rename_i h1
    split
    · exact h
    · split
      · exact h
      · rename_i h3
        split
        · exact h
        · rename_i h4
          have hr : rightB s t = true := by
            cases hr : rightB s t with
            | true => rfl
            | false => exact (h1 (.inl hr)).elim
          obtain ⟨t1, t2⟩ := rightB_t hr
          exact asked_ok h (by have : ¬ cost < 1 := fun h => h1 (.inr h); omega) (by omega) (fun hn => by have : ¬ G.room ≤ (G.n : Int) := fun h => h3 ⟨hn, h⟩; omega) t1 t2
/-- a step of other maps: Below of an elder world -/
theorem below_grown' {w0 w w' : World} {m : Nat} (hb : Below w0.heap.size w0 w) (hg : w.grownBy w' (some m)) (hm : w0.heap.size ≤ m) : Below w0.heap.size w0 w' :=
  hb.grown hg hb.size (fun b h => by injection h with h; omega)

def sa : ByteArray := ⟨#[97]⟩
theorem setF_same (f : Lit → Option (Int × Int)) (k : Lit) (b : Int × Int) : setF f k b k = some b := by unfold setF; rw [if_pos rfl]
theorem right_sa (t : Int) (h1 : 0 ≤ t) (h2 : t ≤ 4611686018427387904) : rightB sa t = true := by
  have e1 : sa.toList.isEmpty = false := by decide +kernel
  have e2 : sa.size = 1 := rfl
  simp [rightB, h1, h2, e1, e2]
theorem awake1 : askF (newG 5 2 3) sa 4 0 = (0, asked (newG 5 2 3) sa 4 0) := by
  unfold askF
  rw [right_sa 0 (by omega) (by omega)]
  simp [newG, findF]
theorem awake1f : (asked (newG 5 2 3) sa 4 0).f (kl sa) = some (1, 0) := by
  simp [asked, newG, findF, setF_same]
theorem awake2f : findF (asked (newG 5 2 3) sa 4 0) sa 0 = (1, 0) := by
  unfold findF
  rw [awake1f]
  simp [fillF]
theorem awake2 : askF (asked (newG 5 2 3) sa 4 0) sa 2 0 = (4, asked (newG 5 2 3) sa 4 0) := by
  unfold askF
  rw [right_sa 0 (by omega) (by omega), awake2f, awake1f]
  simp [asked, newG]
theorem awake3f : findF (asked (newG 5 2 3) sa 4 0) sa 1 = (3, 1) := by
  unfold findF
  rw [awake1f]
  simp [fillF, asked, newG]
theorem awake3 : askF (asked (newG 5 2 3) sa 4 0) sa 3 1 = (0, asked (asked (newG 5 2 3) sa 4 0) sa 3 1) := by
  unfold askF
  rw [right_sa 1 (by omega) (by omega), awake3f, awake1f]
  simp [asked, newG]
theorem awake4f : (asked (asked (newG 5 2 3) sa 4 0) sa 3 1).f (kl sa) = some (0, 1) := by
  have : (asked (asked (newG 5 2 3) sa 4 0) sa 3 1).f = setF (asked (newG 5 2 3) sa 4 0).f (kl sa) ((findF (asked (newG 5 2 3) sa 4 0) sa 1).1 - 3, (findF (asked (newG 5 2 3) sa 4 0) sa 1).2) := rfl
  rw [this, awake3f, setF_same]
  rfl
theorem awake4 : leftF (asked (asked (newG 5 2 3) sa 4 0) sa 3 1) sa 9 = 5 := by
  unfold leftF
  rw [right_sa 9 (by omega) (by omega)]
  unfold findF
  rw [awake4f]
  simp [fillF, asked, newG]

set_option maxHeartbeats 1000000 in
theorem awake_any (w : World) : Calls Try.prog 8 #[] w fun e w' => e = .returned (.bool true) ∧ Below w.heap.size w w' := by
  go_enter Try.func8, Try.ntmps8
  go_wp2_with fail
  refine (new_ok 5 2 3 _ (by decide)).mono ?_
  rintro e w1 ⟨g, m, rfl, hG1, hg, hm, hb⟩
  have HG1 := Lib.hid hG1
  have Hb1 := Lib.hid hb
  clear hG1 hb
  go_wp2_with fail
  refine (ask_any g m _ sa 4 0 _ HG1.out (newG_ok (by decide)) (by decide) (by omega)).mono ?_
  rintro e w2 ⟨rfl, hG2, hgr2⟩
  rw [awake1] at hG2 ⊢
  have HG2 := Lib.hid hG2
  have Hb2 := Lib.hid (below_grown' Hb1.out hgr2 hm)
  clear hG2 hgr2
  go_wp2_with fail
  refine (ask_any g m _ sa 2 0 _ HG2.out (by have := askF_ok (newG_ok (b := 5) (e := 2) (r := 3) (by decide)) sa 4 0; rwa [awake1] at this) (by decide) (by omega)).mono ?_
  rintro e w3 ⟨rfl, hG3, hgr3⟩
  rw [awake2] at hG3 ⊢
  have HG3 := Lib.hid hG3
  have Hb3 := Lib.hid (below_grown' Hb2.out hgr3 hm)
  clear hG3 hgr3
  go_wp2_with fail
  refine (ask_any g m _ sa 3 1 _ HG3.out (by have := askF_ok (newG_ok (b := 5) (e := 2) (r := 3) (by decide)) sa 4 0; rwa [awake1] at this) (by decide) (by omega)).mono ?_
  rintro e w4 ⟨rfl, hG4, hgr4⟩
  rw [awake3] at hG4 ⊢
  have HG4 := Lib.hid hG4
  have Hb4 := Lib.hid (below_grown' Hb3.out hgr4 hm)
  clear hG4 hgr4
  go_wp2_with fail
  refine (left_any g m _ sa 9 _ HG4.out (by have := askF_ok (askF_ok (newG_ok (b := 5) (e := 2) (r := 3) (by decide)) sa 4 0) sa 3 1; rwa [awake1, awake3] at this) (by decide)).mono ?_
  rintro e w5 ⟨rfl, hb5⟩
  rw [awake4]
  have Hb5 := Lib.hid (bel_trans Hb4.out hb5)
  clear hb5
  go_wp2_with fail
  go_ret
  exact ⟨rfl, Hb5.out⟩

/-- a block, whole -/
def Blk (w : World) (g : Nat) (cs : Array Value) (t : TypeId) : Prop := w.heap[g]? = some (.cells cs t (0, 0))
theorem Blk.lt {w : World} {g : Nat} {cs : Array Value} {t : TypeId} (h : Blk w g cs t) : g < w.heap.size := (Array.getElem?_eq_some_iff.1 h).1
theorem Blk.next {w w' : World} {g : Nat} {cs : Array Value} {t : TypeId} (h : Blk w g cs t) (hb : Below w.heap.size w w') : Blk w' g cs t := (hb.block g h.lt).trans h
theorem Blk.new (w : World) (cs : Array Value) (t : TypeId) : Blk (w.alloc (.cells cs t)) w.heap.size cs t := heap_alloc_new w _
theorem Blk.cell {w : World} {g : Nat} {cs : Array Value} {t : TypeId} (h : Blk w g cs t) (j : Nat) : w.cell? ⟨g, j, none⟩ = cs[j]? := cell_of_row w g j cs t (0, 0) h

set_option maxHeartbeats 1000000 in
theorem nil_any (s : ByteArray) (c t : Int) (w : World) :
    Calls Try.prog 6 #[.agg #[.string s, .int .i64 c, .int .i64 t]] w fun e w' => e = .returned (.bool true) ∧ Below w.heap.size w w' := by
  go_enter Try.func6, Try.ntmps6
  go_wp2_with fail
  refine (awake_any _).mono ?_
  rintro e w1 ⟨rfl, hb1⟩
  have hB := (Blk.new w #[.string s, .int .i64 c, .int .i64 t] 31).next hb1
  have k0 : w1.cell? ⟨w.heap.size, 0, none⟩ = some (.string s) := hB.cell 0
  have k1 : w1.cell? ⟨w.heap.size, 1, none⟩ = some (.int .i64 c) := hB.cell 1
  have k2 : w1.cell? ⟨w.heap.size, 2, none⟩ = some (.int .i64 t) := hB.cell 2
  have Hb := Lib.hid (bel_trans (below_alloc w _) hb1)
  clear hb1 hB
  go_wp2_with (first
    | (go_at_call 9; refine (ask_nil s c t _).mono ?_; rintro e w2 ⟨rfl, rfl⟩)
    | (go_at_call 10; refine (left_nil s t _).mono ?_; rintro e w2 ⟨rfl, rfl⟩)
    | (go_at_call 13; refine (clients_nil _).mono ?_; rintro e w2 ⟨rfl, rfl⟩))
  go_ret
  exact ⟨rfl, Hb.out⟩
end Go.Proofs.Ytjeecffhclhbaaa
