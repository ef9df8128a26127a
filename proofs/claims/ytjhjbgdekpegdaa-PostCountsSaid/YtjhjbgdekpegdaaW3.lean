/- A post in memory; New (7), Len (13). -/
import Derived.Test.YtjhjbgdekpegdaaW2
namespace Go.Proofs.Ytjhjbgdekpegdaa
open Go.RowKit Go.Kt Go.Conc

structure M where
  frm : Int
  dst : Int
  body : List UInt8
def M.vals (m : M) (v : Value) : List Value := [.int .i64 m.frm, .int .i64 m.dst, v]
def mcells (ms : List (M × Value)) : List Value := (ms.map fun x => x.1.vals x.2).flatten
theorem mcells_len (ms : List (M × Value)) : (mcells ms).length = ms.length * 3 := by
  induction ms with
  | nil => rfl
  | cons x t ih =>
    have : mcells (x :: t) = x.1.vals x.2 ++ mcells t := rfl
    rw [this, List.length_append, ih, List.length_cons]
    simp only [M.vals, List.length_cons, List.length_nil]
    omega
theorem mcells_app (a b : List (M × Value)) : mcells (a ++ b) = mcells a ++ mcells b := by simp [mcells]
theorem mcells_get (ms : List (M × Value)) (i c : Nat) (x : M × Value) (h : ms[i]? = some x) (hc : c < 3) : (mcells ms)[i * 3 + c]? = (x.1.vals x.2)[c]? := by
  unfold mcells
  rw [flatten_get 3 (by omega) _ (by intro y hy; obtain ⟨z, _, rfl⟩ := List.mem_map.1 hy; rfl)]
  rw [show (i * 3 + c) / 3 = i by omega, show (i * 3 + c) % 3 = c by omega, List.getElem?_map, h]
  rfl
/-- a post: its block pb, its channel c that holds n, its list lv -/
structure PostIs (B : Nat) (w : World) (pb c : Nat) (lv : Value) (room n : Nat) (ms : List (M × Value)) : Prop where
  pbB : B ≤ pb
  cB : B ≤ c
  blk : Blk w pb #[.chan (some c), lv] 57
  ch : ∃ buf s r, w.heap[c]? = some (.chan room buf false s r false) ∧ buf.size = n
  own : Own 32 3 w lv ms.length (mcells ms)
  lB : ∀ b, lv.ownBlock = some b → B ≤ b
  bod : ∀ x ∈ ms, Own8 5 w x.2 x.1.body ∧ (∀ b, x.2.ownBlock = some b → B ≤ b) ∧ x.1.body.length ≤ 1048576
  le : room ≤ 4096
def PostAt (B : Nat) (w : World) (pb room : Nat) (l : List M) : Prop := ∃ c lv ms, PostIs B w pb c lv room ms.length ms ∧ ms.length ≤ room ∧ ms.map (·.1) = l

theorem PostIs.clt {B : Nat} {w : World} {pb c : Nat} {lv : Value} {room n : Nat} {ms : List (M × Value)} (h : PostIs B w pb c lv room n ms) : c < w.heap.size := by
  obtain ⟨buf, s, r, hc, _⟩ := h.ch
  exact (Array.getElem?_eq_some_iff.1 hc).1
theorem PostIs.below {B : Nat} {w w' : World} {pb c : Nat} {lv : Value} {room n : Nat} {ms : List (M × Value)} (h : PostIs B w pb c lv room n ms) (hb : Below w.heap.size w w') : PostIs B w' pb c lv room n ms :=
  ⟨h.pbB, h.cB, h.blk.next hb, by
    obtain ⟨buf, s, r, hc, hn⟩ := h.ch
    exact ⟨buf, s, r, (hb.block c h.clt).trans hc, hn⟩, h.own.below' hb, h.lB, fun x hx => ⟨(h.bod x hx).1.below hb, (h.bod x hx).2⟩, h.le⟩
theorem PostAt.below {B : Nat} {w w' : World} {pb room : Nat} {l : List M} (h : PostAt B w pb room l) (hb : Below w.heap.size w w') : PostAt B w' pb room l := by
  obtain ⟨c, lv, ms, h1, h2, h3⟩ := h
  exact ⟨c, lv, ms, h1.below hb, h2, h3⟩
theorem heap_setChan_other (w : World) (c c' cap : Nat) (buf : Array Value) (closed : Bool) (s r : Nat) (tm : Bool) (h : c ≠ c') : (w.setChan c cap buf closed s r tm).heap[c']? = w.heap[c']? := by
  simp [World.setChan, Array.getElem?_setIfInBounds_ne h]
theorem no_chan {w : World} {g c cap s r : Nat} {cs : Array Value} {t : TypeId} {k : Nat × Nat} {buf : Array Value} {cl tm : Bool} (h : w.heap[g]? = some (.cells cs t k)) (hc : w.heap[c]? = some (.chan cap buf cl s r tm)) : c ≠ g := by
  rintro rfl
  rw [h] at hc
  cases hc
theorem own_block {e : TypeId} {size n : Nat} {w : World} {v : Value} {xs : List Value} (h : Own e size w v n xs) {b : Nat} (hb : v.ownBlock = some b) : ∃ cs k, w.heap[b]? = some (.cells cs e k) := by
  rcases h.2 with ⟨rfl, _⟩ | ⟨g', cap, cur, rfl, _, hg, _⟩
  · cases hb
  · have : g' = b := by simpa [Value.ownBlock] using hb
    subst this
    exact ⟨_, _, hg⟩
/-- what turns nothing but posts, rows of messages and channels -/
def soft : Obj → Bool
  | .cells _ t _ => t == 57 || t == 32
  | .chan .. => true
  | _ => false
def Calm (w w' : World) : Prop := w.heap.size ≤ w'.heap.size ∧ ∀ (g : Nat) (o : Obj), w.heap[g]? = some o → soft o = false → w'.heap[g]? = some o
theorem Calm.refl (w : World) : Calm w w := ⟨Nat.le_refl _, fun _ _ h _ => h⟩
theorem Calm.trans {w w1 w2 : World} (h : Calm w w1) (h2 : Calm w1 w2) : Calm w w2 := ⟨Nat.le_trans h.1 h2.1, fun g o hg ho => h2.2 g o (h.2 g o hg ho) ho⟩
theorem Calm.of {w w' : World} (hb : Below w.heap.size w w') : Calm w w' := ⟨hb.size, fun g o hg _ => (hb.block g (Array.getElem?_eq_some_iff.1 hg).1).trans hg⟩
theorem Own.calm {e : TypeId} {size n : Nat} {w w' : World} {v : Value} {xs : List Value} (h : Own e size w v n xs) (hc : Calm w w') (he : e ≠ 57) (he' : e ≠ 32) : Own e size w' v n xs :=
  h.keep fun b hb => by
    obtain ⟨cs, k, hg⟩ := own_block h hb
    rw [hc.2 b _ hg (by simp [soft, he, he']), hg]
theorem Own8.calm {w w' : World} {v : Value} {l : List UInt8} (h : Own8 5 w v l) (hc : Calm w w') : Own8 5 w' v l := Own.calm h hc (by decide) (by decide)
theorem Blk.calm {w w' : World} {g : Nat} {cs : Array Value} {t : TypeId} (h : Blk w g cs t) (hc : Calm w w') (he : t ≠ 57) (he' : t ≠ 32) : Blk w' g cs t := hc.2 g _ h (by simp [soft, he, he'])
theorem size_setChan' (w : World) (c cap : Nat) (buf : Array Value) (cl : Bool) (s r : Nat) (tm : Bool) : (w.setChan c cap buf cl s r tm).heap.size = w.heap.size := by simp [World.setChan]
/-- a send or a receive on the channel -/
theorem PostIs.chan {B : Nat} {w : World} {pb c : Nat} {lv : Value} {room n : Nat} {ms : List (M × Value)} (h : PostIs B w pb c lv room n ms) (buf : Array Value) (s r : Nat) :
    PostIs B (w.setChan c room buf false s r false) pb c lv room buf.size ms ∧ Calm w (w.setChan c room buf false s r false) ∧ Below B w (w.setChan c room buf false s r false) := by
  obtain ⟨buf0, s0, r0, hc, hn⟩ := h.ch
  have key : ∀ g cs t k, w.heap[g]? = some (Obj.cells cs t k) → (w.setChan c room buf false s r false).heap[g]? = w.heap[g]? := fun g cs t k hg => heap_setChan_other w c g room buf false s r false (no_chan hg hc)
  have ko : ∀ {e : TypeId} {size n : Nat} {v : Value} {xs : List Value}, Own e size w v n xs → Own e size (w.setChan c room buf false s r false) v n xs := fun ho => ho.keep fun b hb => by
    obtain ⟨cs, k, hg⟩ := own_block ho hb
    exact key b _ _ _ hg
  refine ⟨⟨h.pbB, h.cB, (key pb _ _ _ h.blk).trans h.blk, ⟨buf, s, r, heap_setChan w c room buf false s r false h.clt, rfl⟩, ko h.own, h.lB, fun x hx => ⟨ko (h.bod x hx).1, (h.bod x hx).2⟩, h.le⟩, ⟨by rw [size_setChan']; exact Nat.le_refl _, fun g o hg ho => ?_⟩, below_setChan (Below.refl _ _) h.cB _ _ _ _ _ _⟩
  rw [heap_setChan_other]
  · exact hg
  · rintro rfl
    rw [hc] at hg
    cases hg
    cases ho

theorem mkchan (w : World) (room : Nat) (h : room ≤ 4096) : (Instr.makeChan 55 (.int .i64 room)).run Try.prog w = .ok (.chan (some w.heap.size)) (w.alloc (.chan room #[] false 0 0 false)) := by
  have h' : (Try.prog.info? 60).map (·.bytes) = some 0 := by kernel_rfl
  obtain ⟨i, hi, hb⟩ := Option.map_eq_some_iff.1 h'
  exact run_makeChan (P := Try.prog) (w := w) Try.underlying55 hi .i64 room (by omega) (by rw [hb]; omega)
def Newed (room : Nat) (w : World) (e : Ending) (w' : World) : Prop := ∃ pb, e = .returned (.tuple #[.pointer (some ⟨pb, 0, none⟩), .int .i64 0]) ∧ PostAt w.heap.size w' pb room [] ∧ Below w.heap.size w w'
set_option maxHeartbeats 1000000 in
theorem new_yes (room : Nat) (w : World) (h : room ≤ 4096) : Calls Try.prog 7 #[.int .i64 room] w (Newed room w) := by
  have hmk := mkchan w room h
  have h' : (room : Int) ≤ 4096 := by omega
  have d2 : decide (4096 < (room : Int)) = false := by simp only [decide_eq_false_iff_not]; omega
  have hP : Hid (PostAt w.heap.size ((w.alloc (.chan room #[] false 0 0 false)).alloc (.cells #[.chan (some w.heap.size), .slice none 0 0] 57)) (w.heap.size + 1) room []) := Lib.hid (by
    refine ⟨w.heap.size, .slice none 0 0, [], ⟨by omega, Nat.le_refl _, ?_, ⟨#[], 0, 0, ?_, rfl⟩, own_nil _ _ _, fun b hb => (by cases hb), fun x hx => (by cases hx), h⟩, by simp, rfl⟩
    · have hb := Blk.new (w.alloc (.chan room #[] false 0 0 false)) #[.chan (some w.heap.size), .slice none 0 0] 57
      simp only [World.size_alloc] at hb
      exact hb
    · rw [Below.heap_alloc _ _ _ (by simp)]
      exact heap_alloc_new w _)
  go_enter Try.func7, Try.ntmps7
  go_wp2_with fail
  go_ret2
  exact ⟨_, rfl, hP.out, bel_alloc (below_alloc w _)⟩
theorem new_no (room : Int) (w : World) (h : room < 0 ∨ 4096 < room) : Calls Try.prog 7 #[.int .i64 room] w fun e w' => e = .returned (.tuple #[.pointer none, .int .i64 1]) ∧ w = w' := by
  by_cases h1 : room < 0
  · clear h
    go_enter Try.func7, Try.ntmps7
    go_wp2_with fail
    go_ret2
    exact ⟨rfl, rfl⟩
  · have h2 : 4096 < room := by omega
    have d1 : decide (room < 0) = false := by simp only [decide_eq_false_iff_not]; omega
    clear h
    go_enter Try.func7, Try.ntmps7
    go_wp2_with fail
    go_ret2
    exact ⟨rfl, rfl⟩
theorem len_nil (w : World) : Calls Try.prog 13 #[.pointer none] w fun e w' => e = .returned (.int .i64 0) ∧ w = w' := by
  go_enter Try.func13, Try.ntmps13
  go_wp2_with fail
  go_ret
  exact ⟨rfl, rfl⟩
theorem len_any (B pb room : Nat) (l : List M) (w : World) (h : PostAt B w pb room l) : Calls Try.prog 13 #[.pointer (some ⟨pb, 0, none⟩)] w fun e w' => e = .returned (.int .i64 l.length) ∧ w = w' := by
  obtain ⟨c, lv, ms, h1, h2, rfl⟩ := h
  have k1 : w.cell? ⟨pb, 1, none⟩ = some lv := h1.blk.cell 1
  obtain ⟨_, a, cap, rfl, _⟩ := h1.own.rd
  clear h1 h2
  rw [List.length_map]
  go_enter Try.func13, Try.ntmps13
  go_wp2_with fail
  go_ret
  exact ⟨rfl, rfl⟩
end Go.Proofs.Ytjhjbgdekpegdaa
