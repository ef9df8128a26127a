/- Two own rows beside each other (the joined frames, and where each ends): what an append to either leaves. -/
import Derived.Test.YtkanagmjnndodaaPD
namespace Go.Proofs.Ytkanagmjnndodaa
open Go.RowKit Go.Kt

namespace Fr
def ends (L : List (UInt8 × List UInt8)) : List Value := (List.range L.length).map fun i => .int .i64 ((joined (L.take (i + 1))).length : Int)
theorem ends_len (L : List (UInt8 × List UInt8)) : (ends L).length = L.length := by simp [ends]
theorem ends_snoc (L : List (UInt8 × List UInt8)) (x : UInt8 × List UInt8) : ends (L ++ [x]) = ends L ++ [.int .i64 ((joined (L ++ [x])).length : Int)] := by
  unfold ends
  rw [List.length_append, List.length_singleton, List.range_succ, List.map_append]
  congr 1
  · refine List.map_congr_left fun i hi => ?_
    have hi := List.mem_range.1 hi
    rw [List.take_append_of_le_length (by omega)]
  · simp only [List.map_cons, List.map_nil]
    rw [List.take_of_length_le (by simp)]
theorem ends_get (L : List (UInt8 × List UInt8)) (i : Nat) (hi : i < L.length) : (ends L)[i]? = some (.int .i64 ((joined (L.take (i + 1))).length : Int)) := by
  unfold ends
  rw [List.getElem?_map, List.getElem?_range hi]
  rfl
end Fr

def Two (w0 w : World) (bv ev : Value) (L : List (UInt8 × List UInt8)) : Prop :=
  Mine8 5 w0 w bv (Fr.joined L) ∧ Own 3 1 w ev L.length (Fr.ends L) ∧ ∀ g, ev.ownBlock = some g → w0.heap.size ≤ g ∧ bv.ownBlock ≠ some g
theorem Two.nil (w0 w : World) : Two w0 w (.slice none 0 0) (.slice none 0 0) [] := ⟨mine8_nil 5 w0 w, own_nil w 3 1, fun g h => by cases h⟩
theorem Two.below {w0 w w' : World} {bv ev : Value} {L : List (UInt8 × List UInt8)} (h : Two w0 w bv ev L) (hb : Below w.heap.size w w') : Two w0 w' bv ev L := ⟨h.1.below hb, h.2.1.below' hb, h.2.2⟩
theorem Two.alloc {w0 w : World} {bv ev : Value} {L : List (UInt8 × List UInt8)} (h : Two w0 w bv ev L) (o : Obj) : Two w0 (w.alloc o) bv ev L := h.below (below_alloc w o)
/-- behind an append to the bytes: the ends are as they were -/
theorem Two.bytes {w0 w w' : World} {bv ev v' : Value} {L : List (UInt8 × List UInt8)} (h : Two w0 w bv ev L) (hg : w.grownBy w' bv.ownBlock) (hn : ∀ b, v'.ownBlock = some b → bv.ownBlock = some b ∨ w.heap.size ≤ b) :
    Own 3 1 w' ev L.length (Fr.ends L) ∧ ∀ g, ev.ownBlock = some g → w0.heap.size ≤ g ∧ v'.ownBlock ≠ some g := by
  refine ⟨h.2.1.grown hg fun b hb => (h.2.2 b hb).2, fun g hgb => ⟨(h.2.2 g hgb).1, fun hv => ?_⟩⟩
  rcases hn g hv with h1 | h1
  · exact (h.2.2 g hgb).2 h1
  · have := h.2.1.lt g hgb
    omega
theorem ok46 : ElemOk Try.prog 46 3 (.int .i64 0) 1 8 := ⟨Try.underlying46, info_parts (by kernel_rfl), rfl, by decide⟩
/-- and behind an append to the ends: both -/
theorem Two.ends {w0 w3 w4 w5 : World} {bv ev e' : Value} {L : List (UInt8 × List UInt8)} {n : Nat} {xs : List Value} (hm : Mine8 5 w0 w3 bv (Fr.joined L)) (he : Own 3 1 w3 ev n xs)
    (hd : ∀ g, ev.ownBlock = some g → w0.heap.size ≤ g ∧ bv.ownBlock ≠ some g) (hb : Below w3.heap.size w3 w4) (h0 : w0.heap.size ≤ w4.heap.size)
    (ho : Own 3 1 w5 e' L.length (Fr.ends L)) (hg : w4.grownBy w5 ev.ownBlock) (hn : ∀ b, e'.ownBlock = some b → ev.ownBlock = some b ∨ w4.heap.size ≤ b) : Two w0 w5 bv e' L := by
  refine ⟨⟨(hm.below hb).1.grown hg fun b hbb he => (hd b he).2 hbb, hm.2⟩, ho, fun g hge => ?_⟩
  rcases hn g hge with h1 | h1
  · exact hd g h1
  · exact ⟨by omega, fun hbb => by have := (hm.below hb).1.lt g hbb; omega⟩
end Go.Proofs.Ytkanagmjnndodaa
