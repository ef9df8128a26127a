/- A frame with one byte turned does not open as the frame it was. -/
import Derived.Test.YtkanagmjnndodaaW6
import Derived.Test.YtkanagmjnndodaaPB
namespace Go.Proofs.Ytkanagmjnndodaa.Fr

theorem opened_nine (x0 x1 x2 x3 x4 x5 x6 x7 x8 : UInt8) (t : List UInt8) : opened (x0 :: x1 :: x2 :: x3 :: x4 :: x5 :: x6 :: x7 :: x8 :: t) =
    if x0 ≠ 167 then bad 10 else if 1048576 < num x2 x3 x4 then bad 8 else if t.length < num x2 x3 x4 then bad 9 else fin x1 (t.take (num x2 x3 x4)) (num x2 x3 x4) (num4 x5 x6 x7 x8) := rfl
theorem opened_ok {x0 x1 x2 x3 x4 x5 x6 x7 x8 : UInt8} {t : List UInt8} (h : (opened (x0 :: x1 :: x2 :: x3 :: x4 :: x5 :: x6 :: x7 :: x8 :: t)).err = 0) :
    x0 = 167 ∧ (opened (x0 :: x1 :: x2 :: x3 :: x4 :: x5 :: x6 :: x7 :: x8 :: t)).used = 9 + num x2 x3 x4 ∧ sum x1 (t.take (num x2 x3 x4)) = num4 x5 x6 x7 x8 := by
  have hd := opened_nine x0 x1 x2 x3 x4 x5 x6 x7 x8 t
  by_cases h0 : x0 = 167
  case neg => rw [hd, if_pos h0] at h; simp [bad] at h
  rw [if_neg (by simpa using h0)] at hd
  by_cases h1 : 1048576 < num x2 x3 x4
  case pos => rw [hd, if_pos h1] at h; simp [bad] at h
  rw [if_neg h1] at hd
  by_cases h2 : t.length < num x2 x3 x4
  case pos => rw [hd, if_pos h2] at h; simp [bad] at h
  rw [if_neg h2] at hd
  unfold fin at hd
  by_cases h3 : sum x1 (t.take (num x2 x3 x4)) = num4 x5 x6 x7 x8
  case neg => rw [hd, if_neg h3] at h; simp [bad] at h
  rw [if_pos h3] at hd
  exact ⟨h0, by rw [hd], h3⟩
theorem num_inj {a b c d e f : UInt8} (h : num a b c = num d e f) : a = d ∧ b = e ∧ c = f := by
  unfold num at h
  have := a.toNat_lt; have := b.toNat_lt; have := c.toNat_lt; have := d.toNat_lt; have := e.toNat_lt; have := f.toNat_lt
  exact ⟨UInt8.toNat.inj (by omega), UInt8.toNat.inj (by omega), UInt8.toNat.inj (by omega)⟩
theorem num4_inj {a b c d a' b' c' d' : UInt8} (h : num4 a b c d = num4 a' b' c' d') : a = a' ∧ b = b' ∧ c = c' ∧ d = d' := by
  unfold num4 at h
  have := a.toNat_lt; have := b.toNat_lt; have := c.toNat_lt; have := d.toNat_lt; have := a'.toNat_lt; have := b'.toNat_lt; have := c'.toNat_lt; have := d'.toNat_lt
  exact ⟨UInt8.toNat.inj (by omega), UInt8.toNat.inj (by omega), UInt8.toNat.inj (by omega), UInt8.toNat.inj (by omega)⟩
/-- what opens with the same length is written out -/
theorem opened_same {x0 x1 x2 x3 x4 x5 x6 x7 x8 : UInt8} {p r : List UInt8} (hp : p.length ≤ 1048576) (h : (opened (x0 :: x1 :: x2 :: x3 :: x4 :: x5 :: x6 :: x7 :: x8 :: (p ++ r))).err = 0)
    (hu : (opened (x0 :: x1 :: x2 :: x3 :: x4 :: x5 :: x6 :: x7 :: x8 :: (p ++ r))).used = 9 + p.length) :
    x0 = 167 ∧ x2 = UInt8.ofNat (p.length / 65536) ∧ x3 = UInt8.ofNat (p.length / 256) ∧ x4 = UInt8.ofNat p.length ∧ sum x1 p = num4 x5 x6 x7 x8 := by
  obtain ⟨h0, h1, h2⟩ := opened_ok h
  rw [hu] at h1
  have hn : num x2 x3 x4 = p.length := by omega
  rw [hn, List.take_left] at h2
  obtain ⟨e2, e3, e4⟩ := num_inj (hn.trans (num_head p.length (by omega)).symm)
  exact ⟨h0, e2, e3, e4, h2⟩
/-- A FRAME WITH ONE BYTE TURNED: it does not open, or not to the same end -/
theorem opened_turn (k : UInt8) (p r : List UInt8) (hp : p.length ≤ 1048576) (i : Nat) (y x : UInt8) (hi : (sealed k p)[i]? = some x) (hy : y ≠ x)
    (h : (opened ((sealed k p).set i y ++ r)).err = 0) (hu : (opened ((sealed k p).set i y ++ r)).used = 9 + p.length) : False := by
  have hs : sum k p < 4294967296 := crc_lt _ _
  have hl := num4_le _ hs
  have hsd : sealed k p = 167 :: k :: UInt8.ofNat (p.length / 65536) :: UInt8.ofNat (p.length / 256) :: UInt8.ofNat p.length :: UInt8.ofNat (sum k p) :: UInt8.ofNat (sum k p / 256) :: UInt8.ofNat (sum k p / 65536) :: UInt8.ofNat (sum k p / 16777216) :: p := rfl
  rw [hsd] at hi h hu
  match i with
  | 0 => exact hy ((opened_same hp h hu).1.trans (by simpa using hi))
  | 1 =>
    obtain ⟨-, -, -, -, e⟩ := opened_same hp h hu
    rw [hl] at e
    have hx : x = k := by simpa using hi.symm
    exact hy ((crc_turn 0 [] _ (e : crc 0 ([] ++ y :: _) = crc 0 ([] ++ k :: _))).trans hx.symm)
  | 2 => exact hy ((opened_same hp h hu).2.1.trans (by simpa using hi))
  | 3 => exact hy ((opened_same hp h hu).2.2.1.trans (by simpa using hi))
  | 4 => exact hy ((opened_same hp h hu).2.2.2.1.trans (by simpa using hi))
  | 5 => exact hy ((num4_inj ((opened_same hp h hu).2.2.2.2.symm.trans hl.symm)).1.trans (by simpa using hi))
  | 6 => exact hy ((num4_inj ((opened_same hp h hu).2.2.2.2.symm.trans hl.symm)).2.1.trans (by simpa using hi))
  | 7 => exact hy ((num4_inj ((opened_same hp h hu).2.2.2.2.symm.trans hl.symm)).2.2.1.trans (by simpa using hi))
  | 8 => exact hy ((num4_inj ((opened_same hp h hu).2.2.2.2.symm.trans hl.symm)).2.2.2.trans (by simpa using hi))
  | j + 9 =>
    have hj : p[j]? = some x := by simpa using hi
    have hq : (p.set j y).length = p.length := by simp
    simp only [List.set_cons_succ, List.cons_append] at h hu
    obtain ⟨-, -, -, -, e⟩ := opened_same (p := p.set j y) (by omega) h (hu.trans (by rw [hq]))
    rw [hl] at e
    unfold sum at e
    rw [hq] at e
    obtain ⟨hj1, hj2⟩ := List.getElem?_eq_some_iff.1 hj
    have e1 : p = p.take j ++ x :: p.drop (j + 1) := by rw [← hj2]; simp
    have e2 : p.set j y = p.take j ++ y :: p.drop (j + 1) := List.set_eq_take_append_cons_drop.trans (if_pos hj1)
    rw [e2] at e
    have e3 : crc 0 (head4 k p.length ++ p) = crc 0 ((head4 k p.length ++ p.take j) ++ x :: p.drop (j + 1)) := by rw [List.append_assoc, ← e1]
    rw [e3, ← List.append_assoc] at e
    exact hy (crc_turn 0 _ _ e)
end Go.Proofs.Ytkanagmjnndodaa.Fr
