/- Plain facts: pairs of texts, a set's text, and that right sets of one text are one. -/
import Derived.WalkKit
import Derived.Lib.Join
import Derived.Lib.Strings
set_option linter.unusedVariables false
set_option linter.unusedSimpArgs false
namespace Go.Ix
/-- a label: its name, its value -/
structure Pr where
  n : ByteArray
  v : ByteArray
theorem Pr.ext' {a b : Pr} (h1 : a.n = b.n) (h2 : a.v = b.v) : a = b := by cases a; cases b; simp_all
def bl (s : ByteArray) : List UInt8 := s.data.toList
theorem bl_inj {a b : ByteArray} (h : bl a = bl b) : a = b := by
  cases a; cases b; unfold bl at h; simp at h; simp [h]
theorem bl_len (s : ByteArray) : (bl s).length = s.size := by cases s; simp [bl, ByteArray.size]
theorem bl_mk (l : List UInt8) : bl ⟨l.toArray⟩ = l := by simp [bl]
theorem mk_bl (s : ByteArray) : (⟨(bl s).toArray⟩ : ByteArray) = s := by cases s; simp [bl]

def esc (c : UInt8) : List UInt8 := if c = 34 ∨ c = 92 then [92, c] else [c]
def escL (l : List UInt8) : List UInt8 := l.flatMap esc
def quoteL (l : List UInt8) : List UInt8 := 34 :: (escL l ++ [34])
def pairL (p : Pr) : List UInt8 := bl p.n ++ 61 :: quoteL (bl p.v)
def restL : List Pr → List UInt8
  | [] => [125]
  | p :: ps => 44 :: (pairL p ++ restL ps)
def textL : List Pr → List UInt8
  | [] => [123, 125]
  | p :: ps => 123 :: (pairL p ++ restL ps)

theorem esc_ne (c : UInt8) : ∃ x r, esc c = x :: r ∧ x ≠ 34 := by
  unfold esc
  split
  · exact ⟨92, [c], rfl, by decide⟩
  · exact ⟨c, [], rfl, by simp_all⟩
theorem escL_inj : ∀ (a b r s : List UInt8), escL a ++ 34 :: r = escL b ++ 34 :: s → a = b ∧ r = s
  | [], [], r, s, h => by simpa [escL] using h
  | [], y :: b, r, s, h => by
    obtain ⟨x, t, e, hx⟩ := esc_ne y
    simp only [escL, List.flatMap_nil, List.nil_append, List.flatMap_cons, e, List.cons_append] at h
    injection h with h1 _
    exact absurd h1.symm hx
  | y :: a, [], r, s, h => by
    obtain ⟨x, t, e, hx⟩ := esc_ne y
    simp only [escL, List.flatMap_nil, List.nil_append, List.flatMap_cons, e, List.cons_append] at h
    injection h with h1 _
    exact absurd h1 hx
  | y :: a, z :: b, r, s, h => by
    have hyz : y = z ∧ escL a ++ 34 :: r = escL b ++ 34 :: s := by
      simp only [escL, List.flatMap_cons, List.append_assoc] at h
      change esc y ++ (escL a ++ 34 :: r) = esc z ++ (escL b ++ 34 :: s) at h
      unfold esc at h
      split at h <;> split at h
      · simp only [List.cons_append, List.nil_append] at h
        injection h with _ h
        injection h with h1 h2
        exact ⟨h1, h2⟩
      · rename_i h1 h2
        simp only [List.cons_append, List.nil_append] at h
        injection h with h3 _
        exact absurd (Or.inr h3.symm) h2
      · rename_i h1 h2
        simp only [List.cons_append, List.nil_append] at h
        injection h with h3 _
        exact absurd (Or.inr h3) h1
      · simp only [List.cons_append, List.nil_append] at h
        injection h with h1 h2
        exact ⟨h1, h2⟩
    obtain ⟨rfl, h2⟩ := hyz
    obtain ⟨rfl, h3⟩ := escL_inj a b r s h2
    exact ⟨rfl, h3⟩
theorem cut_inj : ∀ (a b r s : List UInt8) (x : UInt8), x ∉ a → x ∉ b → a ++ x :: r = b ++ x :: s → a = b ∧ r = s
  | [], [], r, s, x, _, _, h => by simpa using h
  | [], y :: b, r, s, x, _, hb, h => by
    simp only [List.nil_append, List.cons_append] at h
    injection h with h1 _
    exact absurd (by rw [h1]; simp) hb
  | y :: a, [], r, s, x, ha, _, h => by
    simp only [List.nil_append, List.cons_append] at h
    injection h with h1 _
    exact absurd (by rw [h1]; simp) ha
  | y :: a, z :: b, r, s, x, ha, hb, h => by
    simp only [List.cons_append] at h
    injection h with h1 h2
    obtain ⟨rfl, h3⟩ := cut_inj a b r s x (fun h => ha (by simp [h])) (fun h => hb (by simp [h])) h2
    exact ⟨by rw [h1], h3⟩
theorem pairL_inj {p q : Pr} {r s : List UInt8} (hp : 61 ∉ bl p.n) (hq : 61 ∉ bl q.n) (h : pairL p ++ r = pairL q ++ s) : p = q ∧ r = s := by
  unfold pairL quoteL at h
  simp only [List.append_assoc, List.cons_append, List.nil_append] at h
  obtain ⟨h1, h2⟩ := cut_inj _ _ _ _ 61 hp hq h
  injection h2 with _ h2
  obtain ⟨h3, h4⟩ := escL_inj _ _ _ _ h2
  exact ⟨Pr.ext' (bl_inj h1) (bl_inj h3), h4⟩
theorem restL_inj : ∀ (a b : List Pr), (∀ p ∈ a, 61 ∉ bl p.n) → (∀ p ∈ b, 61 ∉ bl p.n) → restL a = restL b → a = b
  | [], [], _, _, _ => rfl
  | [], q :: b, _, _, h => by simp [restL] at h
  | p :: a, [], _, _, h => by simp [restL] at h
  | p :: a, q :: b, ha, hb, h => by
    simp only [restL] at h
    injection h with _ h
    obtain ⟨rfl, h2⟩ := pairL_inj (ha p (by simp)) (hb q (by simp)) h
    rw [restL_inj a b (fun p hp => ha p (by simp [hp])) (fun p hp => hb p (by simp [hp])) h2]
theorem pairL_no {p : Pr} (h125 : 125 ∉ bl p.n) (r : List UInt8) : pairL p ++ r ≠ [125] := by
  intro h
  unfold pairL at h
  cases hn : bl p.n with
  | nil => rw [hn] at h; simp at h
  | cons x l =>
    rw [hn] at h
    simp only [List.cons_append] at h
    injection h with h1 _
    exact h125 (by rw [hn, h1]; simp)
theorem textL_inj (a b : List Pr) (ha : ∀ p ∈ a, 61 ∉ bl p.n ∧ 125 ∉ bl p.n) (hb : ∀ p ∈ b, 61 ∉ bl p.n ∧ 125 ∉ bl p.n) (h : textL a = textL b) : a = b := by
  cases a with
  | nil =>
    cases b with
    | nil => rfl
    | cons q b =>
      simp only [textL] at h
      injection h with _ h
      exact absurd h.symm (pairL_no (hb q (by simp)).2 _)
  | cons p a =>
    cases b with
    | nil =>
      simp only [textL] at h
      injection h with _ h
      exact absurd h (pairL_no (ha p (by simp)).2 _)
    | cons q b =>
      simp only [textL] at h
      injection h with _ h
      obtain ⟨rfl, h2⟩ := pairL_inj (ha p (by simp)).1 (hb q (by simp)).1 h
      rw [restL_inj a b (fun p hp => (ha p (by simp [hp])).1) (fun p hp => (hb p (by simp [hp])).1) h2]

/-! ### which texts are names, values; which pairs are a set -/
def letter (c : UInt8) : Bool := (decide (97 ≤ c.toNat) && decide (c.toNat ≤ 122)) || (decide (65 ≤ c.toNat) && decide (c.toNat ≤ 90)) || decide (c.toNat = 95)
def digit (c : UInt8) : Bool := decide (48 ≤ c.toNat) && decide (c.toNat ≤ 57)
def nameAt (i : Nat) (c : UInt8) : Prop := letter c = true ∨ 0 < i ∧ digit c = true
def NameP (l : List UInt8) : Prop := 1 ≤ l.length ∧ l.length ≤ 32 ∧ ∀ i (h : i < l.length), nameAt i l[i]
def valAt (c : UInt8) : Prop := 32 ≤ c.toNat ∧ c.toNat ≤ 126
def ValP (l : List UInt8) : Prop := 1 ≤ l.length ∧ l.length ≤ 64 ∧ ∀ i (h : i < l.length), valAt l[i]
def PairP (p : Pr) : Prop := NameP (bl p.n) ∧ ValP (bl p.v)
def Less (a b : ByteArray) : Prop := Op.bytesLess a.toList b.toList = true
def RightP (l : List Pr) : Prop := l.length ≤ 16 ∧ ∀ i (h : i < l.length), PairP l[i] ∧ ∀ j (hj : j < l.length), i = j + 1 → Less l[j].n l[i].n
theorem nameP_no {l : List UInt8} (h : NameP l) : 61 ∉ l ∧ 125 ∉ l := by
  have key : ∀ c, c ∈ l → letter c = true ∨ digit c = true := by
    intro c hc
    obtain ⟨i, hi, e⟩ := List.mem_iff_getElem.1 hc
    rcases h.2.2 i hi with h1 | ⟨_, h1⟩
    · rw [e] at h1; exact .inl h1
    · rw [e] at h1; exact .inr h1
  constructor <;> intro hc <;> rcases key _ hc with h1 | h1 <;> revert h1 <;> decide
theorem right_text {a b : List Pr} (ha : RightP a) (hb : RightP b) (h : textL a = textL b) : a = b := by
  have key : ∀ {l : List Pr}, RightP l → ∀ p ∈ l, 61 ∉ bl p.n ∧ 125 ∉ bl p.n := by
    intro l hl p hp
    obtain ⟨i, hi, rfl⟩ := List.mem_iff_getElem.1 hp
    exact nameP_no (hl.2 i hi).1.1
  exact textL_inj a b (key ha) (key hb) h

/-! ### the text as a join -/
theorem restL_eq : ∀ ps : List Pr, restL ps = Lib.joinTail [44] (ps.map pairL) ++ [125]
  | [] => by simp [restL, Lib.joinTail]
  | p :: ps => by
    have := restL_eq ps
    simp only [restL, this, Lib.joinTail, List.map_cons, List.flatten_cons, List.append_assoc, List.cons_append, List.nil_append]
theorem textL_eq (l : List Pr) : textL l = 123 :: (Lib.join (l.map pairL) [44] ++ [125]) := by
  cases l with
  | nil => simp [textL, Lib.join_nil]
  | cons p ps => simp only [textL, restL_eq, List.map_cons, Lib.join_cons, List.append_assoc]
/-- the text of a list, without its last sign -/
def headL (l : List Pr) : List UInt8 := 123 :: Lib.join (l.map pairL) [44]
theorem headL_nil : headL [] = [123] := rfl
theorem textL_head (l : List Pr) : textL l = headL l ++ [125] := by rw [textL_eq]; rfl
theorem headL_first (p : Pr) : headL [p] = headL [] ++ pairL p := by simp [headL, Lib.join_one, Lib.join_nil]
theorem join_snoc (x y : List UInt8) (r : List (List UInt8)) (sep : List UInt8) : Lib.join (x :: r ++ [y]) sep = Lib.join (x :: r) sep ++ sep ++ y := by
  rw [List.cons_append, Lib.join_cons, Lib.join_cons]
  simp [Lib.joinTail, List.append_assoc]
theorem headL_next (l : List Pr) (p : Pr) (h : l ≠ []) : headL (l ++ [p]) = headL l ++ 44 :: pairL p := by
  obtain ⟨x, r, rfl⟩ : ∃ x r, l = x :: r := by cases l with
    | nil => exact absurd rfl h
    | cons x r => exact ⟨x, r, rfl⟩
  unfold headL
  rw [List.map_append, List.map_cons, List.map_cons, List.map_nil, join_snoc]
  simp [List.append_assoc]
theorem headL_take_le : ∀ (l : List Pr) (k : Nat), (headL (l.take k)).length ≤ (headL l).length := by
  intro l k
  cases l with
  | nil => simp
  | cons x r =>
    cases k with
    | zero => simp [headL, Lib.join_nil]
    | succ k =>
      unfold headL
      rw [List.take_succ_cons, List.map_cons, List.map_cons, Lib.join_cons, Lib.join_cons]
      have := Lib.joinTail_take_le [44] (r.map pairL) k
      rw [← List.map_take] at this
      simp only [List.length_cons, List.length_append]
      omega

/-! ### the value of a name -/
def getL : List Pr → ByteArray → ByteArray
  | [], _ => ByteArray.empty
  | p :: ps, nm => if p.n = nm then p.v else getL ps nm

/-! ### a text's home -/
/-- one byte more of the mark of a text -/
def homeStep (h : Nat) (c : UInt8) : Nat := ((h ^^^ c.toNat) * 16777619) % 4294967296
def homeF (l : List UInt8) : Nat := l.foldl homeStep 2166136261
theorem foldl_snoc {α β : Type} (f : β → α → β) (b : β) (l : List α) (c : α) : (l ++ [c]).foldl f b = f (l.foldl f b) c := by rw [List.foldl_append]; rfl
theorem homeF_snoc (l : List UInt8) (c : UInt8) : homeF (l ++ [c]) = homeStep (homeF l) c := foldl_snoc homeStep _ l c
theorem homeStep_lt (h : Nat) (c : UInt8) : homeStep h c < 4294967296 := Nat.mod_lt _ (by omega)
theorem foldl_nil' {α β : Type} (f : β → α → β) (b : β) : ([] : List α).foldl f b = b := rfl
theorem homeF_nil : homeF [] = 2166136261 := foldl_nil' homeStep _
theorem foldl_lt {α : Type} (f : Nat → α → Nat) (N b : Nat) (h0 : b < N) (h : ∀ x c, f x c < N) : ∀ (l : List α), l.foldl f b < N
  | [] => h0
  | c :: l => foldl_lt f N (f b c) (h _ _) h l
theorem homeF_lt (l : List UInt8) : homeF l < 4294967296 := foldl_lt homeStep _ _ (by omega) homeStep_lt l
end Go.Ix
