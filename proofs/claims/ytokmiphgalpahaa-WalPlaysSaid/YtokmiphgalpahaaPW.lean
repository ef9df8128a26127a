/- What stands in a segment; a segment as it is laid anew; what a log does to a disk (plain). -/
import Derived.Test.YtokmiphgalpahaaFWD
import Derived.Test.YtokmiphgalpahaaWN
namespace Go.Proofs.Ytokmiphgalpahaa
open Go.RowKit Go.Kt

/-! ### what stands in a segment -/
/-- behind a base: its records, how many bytes they have, whether a seal was met -/
def tailF : Bool → List (UInt8 × List UInt8) → List (List UInt8) × Nat × Bool
  | ok, [] => ([], 0, ok)
  | ok, p :: t =>
    if p.1 = 1 then (p.2 :: (tailF ok t).1, 9 + p.2.length + (tailF ok t).2.1, (tailF ok t).2.2)
    else if p.1 = 3 ∧ ok = false then ((tailF true t).1, 9 + p.2.length + (tailF true t).2.1, (tailF true t).2.2)
    else ([], 0, ok)
/-- base, records, how many bytes -/
structure Std where
  base : List UInt8
  recs : List (List UInt8)
  used : Nat
def standsL : List (UInt8 × List UInt8) → Option Std
  | [] => none
  | p :: t => if p.1 = 2 then (if (tailF false t).2.2 = true then some ⟨p.2, (tailF false t).1, 9 + p.2.length + (tailF false t).2.1⟩ else none) else none
def standsW (b : List UInt8) : Option Std := standsL (Fm.Fr.scan b).1
/-- a segment as it is laid anew -/
def recsB (recs : List (List UInt8)) : List UInt8 := (recs.map (Fm.Fr.sealed 1)).flatten
def wholeW (base : List UInt8) (recs : List (List UInt8)) : List UInt8 := Fm.Fr.sealed 2 base ++ recsB recs ++ Fm.Fr.sealed 3 []

/-! ### what a log does to a disk -/
def dropsW : Pd → List Int → Int × Pd
  | P, [] => (0, P)
  | P, n :: t => if (P.drop n).1 ≠ 0 then P.drop n else dropsW (P.drop n).2 t
def layW (P : Pd) (seg : Int) (all : List UInt8) (others : List Int) : Int × Pd :=
  if (P.app seg all).1 ≠ 0 then P.app seg all
  else if ((P.app seg all).2.sync seg).1 ≠ 0 then (P.app seg all).2.sync seg
  else dropsW ((P.app seg all).2.sync seg).2 others
def numsP (P : Pd) : List Int := P.L.map Pg.n
def nextW (P : Pd) : Int := match P.L.getLast? with
  | none => 1
  | some p => p.n + 1
/-- of the first k segments, the last in which something stands -/
def lastF (L : List Pg) : Nat → Option (Pg × Std)
  | 0 => none
  | k + 1 => match L[k]? with
    | none => lastF L k
    | some p => match standsW p.b with
      | some s => some (p, s)
      | none => lastF L k
/-- an opened log: its segment, its base, its records -/
structure Opn where
  seg : Int
  base : List UInt8
  recs : List (List UInt8)
def findW (P : Pd) : Option (Pg × Std) := lastF P.L P.L.length
def anewW (P : Pd) : List UInt8 × List (List UInt8) := match findW P with
  | none => ([], [])
  | some (_, s) => (s.base, s.recs)
/-- whether what stands is all there is -/
def wholeP (P : Pd) : Option (Pg × Std) := match findW P with
  | none => none
  | some (p, s) => if s.used = p.b.length ∧ P.L.length = 1 then some (p, s) else none
def openW (P : Pd) : Int × Option Opn × Pd :=
  if P.down = true then (5, none, P)
  else match wholeP P with
    | some (p, s) => (0, some ⟨p.n, s.base, s.recs⟩, P)
    | none =>
      if (layW P (nextW P) (wholeW (anewW P).1 (anewW P).2) (numsP P)).1 ≠ 0 then ((layW P (nextW P) (wholeW (anewW P).1 (anewW P).2) (numsP P)).1, none, (layW P (nextW P) (wholeW (anewW P).1 (anewW P).2) (numsP P)).2)
      else (0, some ⟨nextW P, (anewW P).1, (anewW P).2⟩, (layW P (nextW P) (wholeW (anewW P).1 (anewW P).2) (numsP P)).2)
/-- a record more -/
def recW (P : Pd) (seg : Int) (p : List UInt8) : Int × Pd := if 1048576 < p.length then (8, P) else P.app seg (Fm.Fr.sealed 1 p)
/-- another base: the answer, the segment, the disk -/
def rebaseW (P : Pd) (seg : Int) (p : List UInt8) : Int × Int × Pd :=
  if 1048576 < p.length then (8, seg, P)
  else if (P.app (seg + 1) (wholeW p [])).1 ≠ 0 then ((P.app (seg + 1) (wholeW p [])).1, seg, (P.app (seg + 1) (wholeW p [])).2)
  else if ((P.app (seg + 1) (wholeW p [])).2.sync (seg + 1)).1 ≠ 0 then (((P.app (seg + 1) (wholeW p [])).2.sync (seg + 1)).1, seg + 1, ((P.app (seg + 1) (wholeW p [])).2.sync (seg + 1)).2)
  else ((((P.app (seg + 1) (wholeW p [])).2.sync (seg + 1)).2.drop seg).1, seg + 1, (((P.app (seg + 1) (wholeW p [])).2.sync (seg + 1)).2.drop seg).2)
end Go.Proofs.Ytokmiphgalpahaa
