/- Plain facts: pairs of texts, a set's text, and that right sets of one text are one. Plain facts: stamps, versions, chains. Plain facts: a store as one rising list of chains, of whatever sets. Plain facts: a write put into a store; the order of writes turns nothing. Plain facts: how many versions a store has; writes in whatever order. Plain facts: the line of sets. Where a write is laid in a rising list of chains. -/
import Derived.WalkKit
import Derived.Lib.Join
import Derived.Lib.Strings
set_option linter.unusedVariables false
set_option linter.unusedSimpArgs false
namespace Go.Ix
/-- a label: its name, its value -/
structure Pr where
  n : ByteArray
  v : ByteArray
theorem Pr.ext' {a b : Pr} (h1 : a.n = b.n) (h2 : a.v = b.v) : a = b := by cases a; cases b; simp_all
def bl (s : ByteArray) : List UInt8 := s.data.toList
theorem bl_inj {a b : ByteArray} (h : bl a = bl b) : a = b := by
  cases a; cases b; unfold bl at h; simp at h; simp [h]
theorem bl_len (s : ByteArray) : (bl s).length = s.size := by cases s; simp [bl, ByteArray.size]
theorem bl_mk (l : List UInt8) : bl ⟨l.toArray⟩ = l := by simp [bl]
theorem mk_bl (s : ByteArray) : (⟨(bl s).toArray⟩ : ByteArray) = s := by cases s; simp [bl]

def esc (c : UInt8) : List UInt8 := if c = 34 ∨ c = 92 then [92, c] else [c]
def escL (l : List UInt8) : List UInt8 := l.flatMap esc
def quoteL (l : List UInt8) : List UInt8 := 34 :: (escL l ++ [34])
def pairL (p : Pr) : List UInt8 := bl p.n ++ 61 :: quoteL (bl p.v)
def restL : List Pr → List UInt8
  | [] => [125]
  | p :: ps => 44 :: (pairL p ++ restL ps)
def textL : List Pr → List UInt8
  | [] => [123, 125]
  | p :: ps => 123 :: (pairL p ++ restL ps)

theorem esc_ne (c : UInt8) : ∃ x r, esc c = x :: r ∧ x ≠ 34 := by
  unfold esc
  split
  · exact ⟨92, [c], rfl, by decide⟩
  · exact ⟨c, [], rfl, by simp_all⟩
theorem escL_inj : ∀ (a b r s : List UInt8), escL a ++ 34 :: r = escL b ++ 34 :: s → a = b ∧ r = s
  | [], [], r, s, h => by simpa [escL] using h
  | [], y :: b, r, s, h => by
    obtain ⟨x, t, e, hx⟩ := esc_ne y
    simp only [escL, List.flatMap_nil, List.nil_append, List.flatMap_cons, e, List.cons_append] at h
    injection h with h1 _
    exact absurd h1.symm hx
  | y :: a, [], r, s, h => by
    obtain ⟨x, t, e, hx⟩ := esc_ne y
    simp only [escL, List.flatMap_nil, List.nil_append, List.flatMap_cons, e, List.cons_append] at h
    injection h with h1 _
    exact absurd h1 hx
  | y :: a, z :: b, r, s, h => by
    have hyz : y = z ∧ escL a ++ 34 :: r = escL b ++ 34 :: s := by
      simp only [escL, List.flatMap_cons, List.append_assoc] at h
      change esc y ++ (escL a ++ 34 :: r) = esc z ++ (escL b ++ 34 :: s) at h
      unfold esc at h
      split at h <;> split at h
      · simp only [List.cons_append, List.nil_append] at h
        injection h with _ h
        injection h with h1 h2
        exact ⟨h1, h2⟩
      · rename_i h1 h2
        simp only [List.cons_append, List.nil_append] at h
        injection h with h3 _
        exact absurd (Or.inr h3.symm) h2
      · rename_i h1 h2
        simp only [List.cons_append, List.nil_append] at h
        injection h with h3 _
        exact absurd (Or.inr h3) h1
      · simp only [List.cons_append, List.nil_append] at h
        injection h with h1 h2
        exact ⟨h1, h2⟩
    obtain ⟨rfl, h2⟩ := hyz
    obtain ⟨rfl, h3⟩ := escL_inj a b r s h2
    exact ⟨rfl, h3⟩
theorem cut_inj : ∀ (a b r s : List UInt8) (x : UInt8), x ∉ a → x ∉ b → a ++ x :: r = b ++ x :: s → a = b ∧ r = s
  | [], [], r, s, x, _, _, h => by simpa using h
  | [], y :: b, r, s, x, _, hb, h => by
    simp only [List.nil_append, List.cons_append] at h
    injection h with h1 _
    exact absurd (by rw [h1]; simp) hb
  | y :: a, [], r, s, x, ha, _, h => by
    simp only [List.nil_append, List.cons_append] at h
    injection h with h1 _
    exact absurd (by rw [h1]; simp) ha
  | y :: a, z :: b, r, s, x, ha, hb, h => by
    simp only [List.cons_append] at h
    injection h with h1 h2
    obtain ⟨rfl, h3⟩ := cut_inj a b r s x (fun h => ha (by simp [h])) (fun h => hb (by simp [h])) h2
    exact ⟨by rw [h1], h3⟩
theorem pairL_inj {p q : Pr} {r s : List UInt8} (hp : 61 ∉ bl p.n) (hq : 61 ∉ bl q.n) (h : pairL p ++ r = pairL q ++ s) : p = q ∧ r = s := by
  unfold pairL quoteL at h
  simp only [List.append_assoc, List.cons_append, List.nil_append] at h
  obtain ⟨h1, h2⟩ := cut_inj _ _ _ _ 61 hp hq h
  injection h2 with _ h2
  obtain ⟨h3, h4⟩ := escL_inj _ _ _ _ h2
  exact ⟨Pr.ext' (bl_inj h1) (bl_inj h3), h4⟩
theorem restL_inj : ∀ (a b : List Pr), (∀ p ∈ a, 61 ∉ bl p.n) → (∀ p ∈ b, 61 ∉ bl p.n) → restL a = restL b → a = b
  | [], [], _, _, _ => rfl
  | [], q :: b, _, _, h => by simp [restL] at h
  | p :: a, [], _, _, h => by simp [restL] at h
  | p :: a, q :: b, ha, hb, h => by
    simp only [restL] at h
    injection h with _ h
    obtain ⟨rfl, h2⟩ := pairL_inj (ha p (by simp)) (hb q (by simp)) h
    rw [restL_inj a b (fun p hp => ha p (by simp [hp])) (fun p hp => hb p (by simp [hp])) h2]
theorem pairL_no {p : Pr} (h125 : 125 ∉ bl p.n) (r : List UInt8) : pairL p ++ r ≠ [125] := by
  intro h
  unfold pairL at h
  cases hn : bl p.n with
  | nil => rw [hn] at h; simp at h
  | cons x l =>
    rw [hn] at h
    simp only [List.cons_append] at h
    injection h with h1 _
    exact h125 (by rw [hn, h1]; simp)
theorem textL_inj (a b : List Pr) (ha : ∀ p ∈ a, 61 ∉ bl p.n ∧ 125 ∉ bl p.n) (hb : ∀ p ∈ b, 61 ∉ bl p.n ∧ 125 ∉ bl p.n) (h : textL a = textL b) : a = b := by
  cases a with
  | nil =>
    cases b with
    | nil => rfl
    | cons q b =>
      simp only [textL] at h
      injection h with _ h
      exact absurd h.symm (pairL_no (hb q (by simp)).2 _)
  | cons p a =>
    cases b with
    | nil =>
      simp only [textL] at h
      injection h with _ h
      exact absurd h (pairL_no (ha p (by simp)).2 _)
    | cons q b =>
      simp only [textL] at h
      injection h with _ h
      obtain ⟨rfl, h2⟩ := pairL_inj (ha p (by simp)).1 (hb q (by simp)).1 h
      rw [restL_inj a b (fun p hp => (ha p (by simp [hp])).1) (fun p hp => (hb p (by simp [hp])).1) h2]

/-! ### which texts are names, values; which pairs are a set -/
def letter (c : UInt8) : Bool := (decide (97 ≤ c.toNat) && decide (c.toNat ≤ 122)) || (decide (65 ≤ c.toNat) && decide (c.toNat ≤ 90)) || decide (c.toNat = 95)
def digit (c : UInt8) : Bool := decide (48 ≤ c.toNat) && decide (c.toNat ≤ 57)
def nameAt (i : Nat) (c : UInt8) : Prop := letter c = true ∨ 0 < i ∧ digit c = true
def NameP (l : List UInt8) : Prop := 1 ≤ l.length ∧ l.length ≤ 32 ∧ ∀ i (h : i < l.length), nameAt i l[i]
def valAt (c : UInt8) : Prop := 32 ≤ c.toNat ∧ c.toNat ≤ 126
def ValP (l : List UInt8) : Prop := 1 ≤ l.length ∧ l.length ≤ 64 ∧ ∀ i (h : i < l.length), valAt l[i]
def PairP (p : Pr) : Prop := NameP (bl p.n) ∧ ValP (bl p.v)
def Less (a b : ByteArray) : Prop := Op.bytesLess a.toList b.toList = true
def RightP (l : List Pr) : Prop := l.length ≤ 16 ∧ ∀ i (h : i < l.length), PairP l[i] ∧ ∀ j (hj : j < l.length), i = j + 1 → Less l[j].n l[i].n
theorem nameP_no {l : List UInt8} (h : NameP l) : 61 ∉ l ∧ 125 ∉ l := by
  have key : ∀ c, c ∈ l → letter c = true ∨ digit c = true := by
    intro c hc
    obtain ⟨i, hi, e⟩ := List.mem_iff_getElem.1 hc
    rcases h.2.2 i hi with h1 | ⟨_, h1⟩
    · rw [e] at h1; exact .inl h1
    · rw [e] at h1; exact .inr h1
  constructor <;> intro hc <;> rcases key _ hc with h1 | h1 <;> revert h1 <;> decide
theorem right_text {a b : List Pr} (ha : RightP a) (hb : RightP b) (h : textL a = textL b) : a = b := by
  have key : ∀ {l : List Pr}, RightP l → ∀ p ∈ l, 61 ∉ bl p.n ∧ 125 ∉ bl p.n := by
    intro l hl p hp
    obtain ⟨i, hi, rfl⟩ := List.mem_iff_getElem.1 hp
    exact nameP_no (hl.2 i hi).1.1
  exact textL_inj a b (key ha) (key hb) h

/-! ### the text as a join -/
theorem restL_eq : ∀ ps : List Pr, restL ps = Lib.joinTail [44] (ps.map pairL) ++ [125]
  | [] => by simp [restL, Lib.joinTail]
  | p :: ps => by
    have := restL_eq ps
    simp only [restL, this, Lib.joinTail, List.map_cons, List.flatten_cons, List.append_assoc, List.cons_append, List.nil_append]
theorem textL_eq (l : List Pr) : textL l = 123 :: (Lib.join (l.map pairL) [44] ++ [125]) := by
  cases l with
  | nil => simp [textL, Lib.join_nil]
  | cons p ps => simp only [textL, restL_eq, List.map_cons, Lib.join_cons, List.append_assoc]
/-- the text of a list, without its last sign -/
def headL (l : List Pr) : List UInt8 := 123 :: Lib.join (l.map pairL) [44]
theorem textL_head (l : List Pr) : textL l = headL l ++ [125] := by rw [textL_eq]; rfl
theorem headL_first (p : Pr) : headL [p] = headL [] ++ pairL p := by simp [headL, Lib.join_one, Lib.join_nil]
theorem join_snoc (x y : List UInt8) (r : List (List UInt8)) (sep : List UInt8) : Lib.join (x :: r ++ [y]) sep = Lib.join (x :: r) sep ++ sep ++ y := by
  rw [List.cons_append, Lib.join_cons, Lib.join_cons]
  simp [Lib.joinTail, List.append_assoc]
theorem headL_next (l : List Pr) (p : Pr) (h : l ≠ []) : headL (l ++ [p]) = headL l ++ 44 :: pairL p := by
  obtain ⟨x, r, rfl⟩ : ∃ x r, l = x :: r := by cases l with
    | nil => exact absurd rfl h
    | cons x r => exact ⟨x, r, rfl⟩
  unfold headL
  rw [List.map_append, List.map_cons, List.map_cons, List.map_nil, join_snoc]
  simp [List.append_assoc]
theorem headL_take_le : ∀ (l : List Pr) (k : Nat), (headL (l.take k)).length ≤ (headL l).length := by
  intro l k
  cases l with
  | nil => simp
  | cons x r =>
    cases k with
    | zero => simp [headL, Lib.join_nil]
    | succ k =>
      unfold headL
      rw [List.take_succ_cons, List.map_cons, List.map_cons, Lib.join_cons, Lib.join_cons]
      have := Lib.joinTail_take_le [44] (r.map pairL) k
      rw [← List.map_take] at this
      simp only [List.length_cons, List.length_append]
      omega

/-! ### the value of a name -/
def getL : List Pr → ByteArray → ByteArray
  | [], _ => ByteArray.empty
  | p :: ps, nm => if p.n = nm then p.v else getL ps nm

/-! ### a text's home -/
/-- one byte more of the mark of a text -/
def homeStep (h : Nat) (c : UInt8) : Nat := ((h ^^^ c.toNat) * 16777619) % 4294967296
def homeF (l : List UInt8) : Nat := l.foldl homeStep 2166136261
end Go.Ix
set_option linter.unusedVariables false
set_option linter.unusedSimpArgs false
namespace Go.Sx
/-- a stamp -/
structure Tm where
  wall : Int
  tick : Int
  mark : Int
deriving DecidableEq
def Tm.lt (a b : Tm) : Prop := a.wall < b.wall ∨ (a.wall = b.wall ∧ (a.tick < b.tick ∨ (a.tick = b.tick ∧ a.mark < b.mark)))
instance (a b : Tm) : Decidable (a.lt b) := by unfold Tm.lt; infer_instance
theorem Tm.ext' {a b : Tm} (h1 : a.wall = b.wall) (h2 : a.tick = b.tick) (h3 : a.mark = b.mark) : a = b := by cases a; cases b; simp_all
theorem Tm.irr (a : Tm) : ¬ a.lt a := by unfold Tm.lt; omega
theorem Tm.trans {a b c : Tm} (h1 : a.lt b) (h2 : b.lt c) : a.lt c := by unfold Tm.lt at *; omega
theorem Tm.asymm {a b : Tm} (h1 : a.lt b) : ¬ b.lt a := by unfold Tm.lt at *; omega
theorem Tm.tri (a b : Tm) : a.lt b ∨ a = b ∨ b.lt a := by
  by_cases h1 : a.wall = b.wall
  · by_cases h2 : a.tick = b.tick
    · by_cases h3 : a.mark = b.mark
      · exact .inr (.inl (Tm.ext' h1 h2 h3))
      · unfold Tm.lt; omega
    · unfold Tm.lt; omega
  · unfold Tm.lt; omega
/-- a version -/
structure Ver where
  at_ : Tm
  kind : Int
  num : Int
  text : ByteArray
/-- which versions may be -/
def verR (v : Ver) : Prop := (0 ≤ v.at_.wall ∧ v.at_.wall ≤ 4611686018427387904) ∧ 1 ≤ v.kind ∧ v.kind ≤ 3 ∧ v.text.size ≤ 256 ∧ (v.kind = 2 ∨ v.text.size = 0) ∧ (v.kind = 1 ∨ v.num = 0)
instance (v : Ver) : Decidable (verR v) := by unfold verR; infer_instance
/-- a chain: rising stamps -/
def Chain (l : List Ver) : Prop := l.Pairwise (fun a b => a.at_.lt b.at_)
/-- how many stand ahead of a stamp -/
def place (l : List Ver) (t : Tm) : Nat := (l.filter fun x => decide (x.at_.lt t)).length
def has (l : List Ver) (t : Tm) : Bool := l.any fun x => decide (x.at_ = t)
/-- how many don't stand behind it -/
def upto (l : List Ver) (t : Tm) : Nat := (l.filter fun x => decide (¬ t.lt x.at_)).length
theorem place_le (l : List Ver) (t : Tm) : place l t ≤ l.length := List.length_filter_le _ _
theorem upto_le (l : List Ver) (t : Tm) : upto l t ≤ l.length := List.length_filter_le _ _
theorem place_none {l : List Ver} {t : Tm} (h : ∀ y ∈ l, t.lt y.at_) : place l t = 0 ∧ upto l t = 0 ∧ has l t = false := by
  refine ⟨?_, ?_, ?_⟩
  · unfold place
    rw [List.filter_eq_nil_iff.2]
    · rfl
    · intro y hy
      simpa using Tm.asymm (h y hy)
  · unfold upto
    rw [List.filter_eq_nil_iff.2]
    · rfl
    · intro y hy
      simpa using h y hy
  · unfold has
    rw [List.any_eq_false]
    intro y hy e
    have : y.at_ = t := by simpa using e
    have h2 := h y hy
    rw [this] at h2
    exact Tm.irr _ h2
theorem place_cons {x : Ver} {l : List Ver} {t : Tm} : place (x :: l) t = (if x.at_.lt t then 1 else 0) + place l t := by
  unfold place
  rw [List.filter_cons]
  by_cases h : x.at_.lt t
  · simp [h]; omega
  · simp [h]
theorem upto_cons {x : Ver} {l : List Ver} {t : Tm} : upto (x :: l) t = (if t.lt x.at_ then 0 else 1) + upto l t := by
  unfold upto
  rw [List.filter_cons]
  by_cases h : t.lt x.at_
  · simp [h]
  · simp [h]; omega
/-- those ahead, and those behind, of a chain -/
theorem chain_parts : ∀ {l : List Ver} (t : Tm), Chain l → l.filter (fun x => decide (x.at_.lt t)) = l.take (place l t) ∧ l.filter (fun x => decide (t.lt x.at_)) = l.drop (upto l t) ∧ upto l t = place l t + (if has l t then 1 else 0)
  | [], t, _ => ⟨rfl, rfl, rfl⟩
  | x :: l, t, h => by
    have hc := (List.pairwise_cons.1 h).2
    have hx := (List.pairwise_cons.1 h).1
    obtain ⟨i1, i2, i3⟩ := chain_parts t hc
    rcases Tm.tri x.at_ t with h1 | h1 | h1
    · have h2 : ¬ t.lt x.at_ := Tm.asymm h1
      have h3 : x.at_ ≠ t := fun e => Tm.irr t (e ▸ h1)
      rw [place_cons, upto_cons, if_pos h1, if_neg h2]
      refine ⟨?_, ?_, ?_⟩
      · rw [List.filter_cons, if_pos (by simpa using h1), i1, Nat.add_comm, List.take_succ_cons]
      · rw [List.filter_cons, if_neg (by simpa using h2), i2, Nat.add_comm, List.drop_succ_cons]
      · have : has (x :: l) t = has l t := by simp [has, h3]
        rw [this, i3]
        omega
    · have hb : ∀ y ∈ l, t.lt y.at_ := fun y hy => h1 ▸ hx y hy
      obtain ⟨p1, p2, p3⟩ := place_none hb
      have h2 : ¬ t.lt x.at_ := by rw [h1]; exact Tm.irr t
      have h3 : ¬ x.at_.lt t := by rw [h1]; exact Tm.irr t
      rw [place_cons, upto_cons, if_neg h3, if_neg h2, p1, p2]
      refine ⟨?_, ?_, ?_⟩
      · rw [List.filter_cons, if_neg (by simpa using h3), i1, p1]
        simp
      · rw [List.filter_cons, if_neg (by simpa using h2), i2, p2]
        simp
      · simp [has, h1]
    · have hb : ∀ y ∈ x :: l, t.lt y.at_ := fun y hy => by
        rcases List.mem_cons.1 hy with rfl | hy
        · exact h1
        · exact Tm.trans h1 (hx y hy)
      obtain ⟨p1, p2, p3⟩ := place_none hb
      rw [p1, p2, p3]
      refine ⟨?_, ?_, by simp⟩
      · rw [List.take_zero, List.filter_eq_nil_iff]
        intro y hy
        simpa using Tm.asymm (hb y hy)
      · rw [List.drop_zero, List.filter_eq_self]
        intro y hy
        simpa using hb y hy
/-- a version more -/
def putC (l : List Ver) (v : Ver) : Int × List Ver :=
  if ¬ verR v then (1, []) else if has l v.at_ = true then (7, []) else (0, l.take (place l v.at_) ++ v :: l.drop (place l v.at_))
/-- the last that isn't behind, if it is no Gone -/
def getC (l : List Ver) (t : Tm) : Option Ver := match upto l t with
  | 0 => none
  | i + 1 => match l[i]? with
    | some v => if v.kind = 3 then none else some v
    | none => none
/-- where a cut begins -/
def cutAt (l : List Ver) (t : Tm) : Nat := match upto l t with
  | 0 => 0
  | i + 1 => match l[i]? with
    | some v => if v.kind = 3 then i + 1 else i
    | none => 0
def cutC (l : List Ver) (t : Tm) : List Ver := l.drop (cutAt l t)
theorem mem_take_lt {l : List Ver} {t : Tm} (h : Chain l) {y : Ver} (hy : y ∈ l.take (place l t)) : y.at_.lt t := by
  rw [← (chain_parts t h).1] at hy
  simpa using (List.mem_filter.1 hy).2
theorem mem_drop_gt {l : List Ver} {t : Tm} (h : Chain l) {y : Ver} (hy : y ∈ l.drop (upto l t)) : t.lt y.at_ := by
  rw [← (chain_parts t h).2.1] at hy
  simpa using (List.mem_filter.1 hy).2
theorem upto_none {l : List Ver} {t : Tm} (h : Chain l) (hn : has l t = false) : upto l t = place l t := by
  rw [(chain_parts t h).2.2, hn]
  simp
theorem putC_chain {l : List Ver} {v : Ver} (h : Chain l) (h0 : (putC l v).1 = 0) : Chain (putC l v).2 := by
  unfold putC at h0 ⊢
  by_cases h1 : ¬ verR v
  · rw [if_pos h1] at h0; cases h0
  rw [if_neg h1] at h0 ⊢
  by_cases h2 : has l v.at_ = true
  · rw [if_pos h2] at h0; cases h0
  rw [if_neg h2]
  have hn : has l v.at_ = false := by simpa using h2
  have hu := upto_none h hn
  unfold Chain
  rw [List.pairwise_append]
  refine ⟨List.Pairwise.sublist (List.take_sublist _ _) h, ?_, ?_⟩
  · rw [List.pairwise_cons]
    exact ⟨fun y hy => mem_drop_gt h (by rw [hu]; exact hy), List.Pairwise.sublist (List.drop_sublist _ _) h⟩
  · intro a ha b hb
    have ha' := mem_take_lt h ha
    rcases List.mem_cons.1 hb with rfl | hb
    · exact ha'
    · exact Tm.trans ha' (mem_drop_gt h (by rw [hu]; exact hb))
theorem cutC_chain {l : List Ver} (h : Chain l) (t : Tm) : Chain (cutC l t) := List.Pairwise.sublist (List.drop_sublist _ _) h
theorem cutAt_le (l : List Ver) (t : Tm) : cutAt l t ≤ l.length := by
  have h := upto_le l t
  unfold cutAt
  split
  · omega
  · rename_i i hi
    split
    · split <;> omega
    · omega
theorem putC_len {l : List Ver} {v : Ver} (h0 : (putC l v).1 = 0) : (putC l v).2.length = l.length + 1 := by
  have hp := place_le l v.at_
  unfold putC at h0 ⊢
  by_cases h1 : ¬ verR v
  · rw [if_pos h1] at h0; cases h0
  rw [if_neg h1] at h0 ⊢
  by_cases h2 : has l v.at_ = true
  · rw [if_pos h2] at h0; cases h0
  rw [if_neg h2]
  simp
  omega
/-- what is told at a stamp is what is told behind a cut at, or ahead of, it -/
theorem get_cut {l : List Ver} (h : Chain l) {t u : Tm} (htu : ¬ u.lt t) : getC (cutC l t) u = getC l u := by
  have hc := cutC_chain h t
  have hle := cutAt_le l t
  -- how many of the cut chain don't stand behind u
  have hsplit : ∀ n, n ≤ upto l t → n ≤ upto l u ∧ upto (l.drop n) u = upto l u - n := by
    intro n hn
    have hmono : upto l t ≤ upto l u := by
      have e1 := (chain_parts t h).2.1
      have e2 := (chain_parts u h).2.1
      have hsub : (l.filter fun x => decide (¬ t.lt x.at_)).length ≤ (l.filter fun x => decide (¬ u.lt x.at_)).length := by
        rw [← List.countP_eq_length_filter, ← List.countP_eq_length_filter]
        refine List.countP_mono_left (fun x _ hx => ?_)
        simp only [decide_eq_true_eq] at hx ⊢
        intro hux
        rcases Tm.tri t u with h1 | h1 | h1
        · exact hx (Tm.trans h1 hux)
        · exact hx (h1 ▸ hux)
        · exact htu h1
      exact hsub
    refine ⟨by omega, ?_⟩
    have hall : ∀ y ∈ l.take n, ¬ u.lt y.at_ := by
      intro y hy hu
      have hy2 : y ∈ l.take (upto l u) := List.IsPrefix.mem hy (List.take_prefix_take_left (by omega))
      obtain ⟨i, hi, e⟩ := List.getElem_of_mem hy2
      have hi' : i < upto l u ∧ i < l.length := by simp only [List.length_take] at hi; omega
      have hd := (chain_parts u h).2.1
      have hyl : y ∈ l.filter (fun x => decide (u.lt x.at_)) := List.mem_filter.2 ⟨List.mem_of_mem_take hy, by simpa using hu⟩
      rw [hd] at hyl
      obtain ⟨j, hj, e'⟩ := List.getElem_of_mem hyl
      rw [List.getElem_take] at e
      rw [List.getElem_drop] at e'
      have hp := List.pairwise_iff_getElem.1 h i (upto l u + j) (by omega) (by simp at hj; omega) (by omega)
      rw [e, e'] at hp
      exact Tm.irr _ hp
    have e : l = l.take n ++ l.drop n := (List.take_append_drop n l).symm
    have hl : upto l u = upto (l.take n) u + upto (l.drop n) u := by
      conv => lhs; rw [e]
      unfold upto
      rw [List.filter_append, List.length_append]
    have ht : upto (l.take n) u = n := by
      unfold upto
      rw [List.filter_eq_self.2 (fun y hy => by simpa using hall y hy)]
      have := upto_le l t
      simp
      omega
    omega
  unfold cutC
  have hcu : cutAt l t ≤ upto l t := by
    unfold cutAt
    split
    · omega
    · rename_i i hi
      split
      · split <;> omega
      · omega
  obtain ⟨h1, h2⟩ := hsplit _ hcu
  have hm := (hsplit _ (Nat.le_refl _)).1
  unfold getC
  rw [h2]
  cases hu : upto l u with
  | zero =>
    rw [hu] at h1
    have : cutAt l t = 0 := by omega
    simp [this]
  | succ k =>
    by_cases hk : cutAt l t ≤ k
    · have e : k + 1 - cutAt l t = (k - cutAt l t) + 1 := by omega
      rw [e]
      simp only
      rw [List.getElem?_drop, show cutAt l t + (k - cutAt l t) = k by omega]
    · -- the whole that isn't behind u is cut: its last is a Gone
      have hk2 : cutAt l t = k + 1 := by omega
      have e : k + 1 - cutAt l t = 0 := by omega
      rw [e]
      simp only
      unfold cutAt at hk2
      split at hk2
      · omega
      · rename_i i hi
        split at hk2
        · rename_i v hv
          split at hk2
          · rename_i h3
            obtain rfl : i = k := by omega
            rw [hv]
            simp [h3]
          · omega
        · omega
end Go.Sx
namespace Go.Sx
/-- a strict line -/
structure Line {σ : Type} (lt : σ → σ → Prop) : Prop where
  irr : ∀ a, ¬ lt a a
  trans : ∀ {a b c}, lt a b → lt b c → lt a c
  tri : ∀ a b, lt a b ∨ a = b ∨ lt b a
/-- two rising lists of the same members are one -/
theorem rise_ext {α : Type} {lt : α → α → Prop} (hi : ∀ a, ¬ lt a a) (ht : ∀ {a b c}, lt a b → lt b c → lt a c) : ∀ {A B : List α}, A.Pairwise lt → B.Pairwise lt → (∀ x, x ∈ A ↔ x ∈ B) → A = B
  | [], [], _, _, _ => rfl
  | [], b :: B, _, _, h => by have := (h b).2 (by simp); cases this
  | a :: A, [], _, _, h => by have := (h a).1 (by simp); cases this
  | a :: A, b :: B, hA, hB, h => by
    obtain ⟨a1, a2⟩ := List.pairwise_cons.1 hA
    obtain ⟨b1, b2⟩ := List.pairwise_cons.1 hB
    have e : a = b := by
      have h1 := (h a).1 (by simp)
      have h2 := (h b).2 (by simp)
      rcases List.mem_cons.1 h1 with e | h1
      · exact e
      · rcases List.mem_cons.1 h2 with e | h2
        · exact e.symm
        · exact absurd (ht (b1 a h1) (a1 b h2)) (hi b)
    subst e
    rw [rise_ext hi ht a2 b2 (fun x => ?_)]
    constructor
    · intro hx
      rcases List.mem_cons.1 ((h x).1 (by simp [hx])) with e | hy
      · subst e; exact absurd (a1 x hx) (hi x)
      · exact hy
    · intro hx
      rcases List.mem_cons.1 ((h x).2 (by simp [hx])) with e | hy
      · subst e; exact absurd (b1 x hx) (hi x)
      · exact hy
section
variable {σ : Type} {lt : σ → σ → Prop}
/-- a chain of a store -/
structure Item (σ : Type) where
  set : σ
  time : Int
  l : List Ver
def Item.Ahead (lt : σ → σ → Prop) (x : Item σ) (s : σ) (t : Int) : Prop := lt x.set s ∨ (x.set = s ∧ x.time < t)
def Rise (lt : σ → σ → Prop) (L : List (Item σ)) : Prop := L.Pairwise (fun a b => a.Ahead lt b.set b.time)
theorem ahead_irr (h : Line lt) (x : Item σ) : ¬ x.Ahead lt x.set x.time := by
  rintro (h1 | h1)
  · exact h.irr _ h1
  · omega
theorem ahead_trans (h : Line lt) {a b : Item σ} {s : σ} {t : Int} (h1 : a.Ahead lt b.set b.time) (h2 : b.Ahead lt s t) : a.Ahead lt s t := by
  rcases h1 with h1 | ⟨e1, h1⟩
  · rcases h2 with h2 | ⟨e2, h2⟩
    · exact .inl (h.trans h1 h2)
    · exact .inl (e2 ▸ h1)
  · rcases h2 with h2 | ⟨e2, h2⟩
    · exact .inl (e1 ▸ h2)
    · exact .inr ⟨e1.trans e2, by omega⟩
theorem rise_store (h : Line lt) {A B : List (Item σ)} (hA : Rise lt A) (hB : Rise lt B) (hm : ∀ x, x ∈ A ↔ x ∈ B) : A = B := by
  unfold Rise at hA hB
  refine @rise_ext (Item σ) (fun a b => a.Ahead lt b.set b.time) (fun a => ahead_irr h a) ?_ A B hA hB hm
  intro a b c h1 h2
  exact ahead_trans h h1 h2
/-- of one set and one time there is one chain -/
theorem rise_one (h : Line lt) {L : List (Item σ)} (hL : Rise lt L) {x y : Item σ} (hx : x ∈ L) (hy : y ∈ L) (h1 : x.set = y.set) (h2 : x.time = y.time) : x = y := by
  obtain ⟨i, hi, rfl⟩ := List.getElem_of_mem hx
  obtain ⟨j, hj, rfl⟩ := List.getElem_of_mem hy
  rcases Nat.lt_trichotomy i j with hij | hij | hij
  · have hp := List.pairwise_iff_getElem.1 hL i j hi hj hij
    rw [← h1, ← h2] at hp
    exact absurd hp (ahead_irr h _)
  · subst hij; rfl
  · have hp := List.pairwise_iff_getElem.1 hL j i hj hi hij
    rw [h1, h2] at hp
    exact absurd hp (ahead_irr h _)
/-- how many versions -/
def lenL (L : List (Item σ)) : Nat := (L.map fun x => x.l.length).sum
theorem lenL_cons (x : Item σ) (L : List (Item σ)) : lenL (x :: L) = x.l.length + lenL L := by simp [lenL]
theorem lenL_append (A B : List (Item σ)) : lenL (A ++ B) = lenL A + lenL B := by simp [lenL]
/-- a cut of all chains, and those that lasted -/
def cutL (L : List (Item σ)) (t : Tm) : List (Item σ) := (L.map fun x => { x with l := cutC x.l t }).filter fun x => decide (x.l ≠ [])
def retL (L : List (Item σ)) (t : Int) : List (Item σ) := L.filter fun x => decide (t ≤ x.time)
theorem cutL_mem {L : List (Item σ)} {t : Tm} {y : Item σ} : y ∈ cutL L t ↔ ∃ x ∈ L, y = { x with l := cutC x.l t } ∧ cutC x.l t ≠ [] := by
  unfold cutL
  rw [List.mem_filter, List.mem_map]
  constructor
  · rintro ⟨⟨x, hx, rfl⟩, h⟩
    exact ⟨x, hx, rfl, by simpa using h⟩
  · rintro ⟨x, hx, rfl, h⟩
    exact ⟨⟨x, hx, rfl⟩, by simpa using h⟩
theorem cutL_rise {L : List (Item σ)} (h : Rise lt L) (t : Tm) : Rise lt (cutL L t) := by
  unfold cutL
  refine List.Pairwise.sublist List.filter_sublist ?_
  rw [List.pairwise_map]
  exact h
theorem retL_rise {L : List (Item σ)} (h : Rise lt L) (t : Int) : Rise lt (retL L t) := List.Pairwise.sublist List.filter_sublist h
theorem lenL_cut (L : List (Item σ)) (t : Tm) : lenL (cutL L t) ≤ lenL L := by
  induction L with
  | nil => simp [cutL, lenL]
  | cons x L ih =>
    have hc : (cutC x.l t).length ≤ x.l.length := by simp [cutC]
    unfold cutL at ih ⊢
    rw [List.map_cons, List.filter_cons]
    split
    · rw [lenL_cons, lenL_cons]
      simp only
      omega
    · rw [lenL_cons]
      omega
/-- what is told of one chain -/
def tell (x : Item σ) (a b : Int) (t : Tm) : Option (σ × Int × Ver) := if a ≤ x.time ∧ x.time < b then (getC x.l t).map fun v => (x.set, x.time, v) else none
/-- what is told of the sets that are asked for -/
def scanL (L : List (Item σ)) (p : σ → Bool) (a b : Int) (t : Tm) : List (σ × Int × Ver) := L.filterMap fun x => if p x.set = true then tell x a b t else none
def keptL (L : List (Item σ)) : List (σ × Int × Ver) := L.flatMap fun x => x.l.map fun v => (x.set, x.time, v)
theorem getC_nil (t : Tm) : getC [] t = none := rfl
/-- a cut changes nothing that is told at, or behind, it -/
theorem scan_cut {L : List (Item σ)} (hc : ∀ x ∈ L, Chain x.l) {t u : Tm} (h : ¬ u.lt t) (p : σ → Bool) (a b : Int) : scanL (cutL L t) p a b u = scanL L p a b u := by
  induction L with
  | nil => rfl
  | cons x L ih =>
    have ih' := ih (fun y hy => hc y (by simp [hy]))
    have hg := get_cut (hc x (by simp)) h
    unfold scanL cutL at ih' ⊢
    rw [List.map_cons, List.filter_cons]
    split
    · rw [List.filterMap_cons, List.filterMap_cons, ih']
      have e : tell { x with l := cutC x.l t } a b u = tell x a b u := by unfold tell; simp only; rw [hg]
      simp only
      rw [e]
    · rename_i hn
      have hnil : cutC x.l t = [] := by simpa using hn
      rw [hnil, getC_nil] at hg
      rw [List.filterMap_cons, ih']
      have e : tell x a b u = none := by unfold tell; rw [← hg]; simp
      rw [e]
      simp
/-- a Retain changes nothing from its time on -/
theorem scan_ret (L : List (Item σ)) (p : σ → Bool) (a b c : Int) (u : Tm) : scanL (retL L c) p a b u = scanL L p (max a c) b u := by
  induction L with
  | nil => rfl
  | cons x L ih =>
    unfold scanL retL at ih ⊢
    rw [List.filter_cons]
    split
    · rename_i h
      have h' : c ≤ x.time := by simpa using h
      rw [List.filterMap_cons, List.filterMap_cons, ih]
      have e : tell x a b u = tell x (max a c) b u := by
        unfold tell
        by_cases h1 : a ≤ x.time ∧ x.time < b
        · rw [if_pos h1, if_pos ⟨by omega, h1.2⟩]
        · rw [if_neg h1, if_neg (by omega)]
      rw [e]
    · rename_i h
      have h' : ¬ c ≤ x.time := by simpa using h
      rw [List.filterMap_cons, ih]
      have e : tell x (max a c) b u = none := by
        unfold tell
        rw [if_neg (by omega)]
      rw [e]
      simp
end
end Go.Sx
namespace Go.Sx
section
variable {σ : Type} {lt : σ → σ → Prop}
instance [DecidableEq σ] [DecidableRel lt] (x : Item σ) (s : σ) (t : Int) : Decidable (x.Ahead lt s t) := by unfold Item.Ahead; infer_instance
/-- the chain of a set and a time -/
def atL [DecidableEq σ] (L : List (Item σ)) (s : σ) (t : Int) : List Ver := match L.find? fun x => decide (x.set = s ∧ x.time = t) with
  | some x => x.l
  | none => []
/-- a chain laid in its place -/
def setL [DecidableEq σ] (lt : σ → σ → Prop) [DecidableRel lt] (L : List (Item σ)) (s : σ) (t : Int) (c : List Ver) : List (Item σ) :=
  L.filter (fun x => decide (x.Ahead lt s t)) ++ ⟨s, t, c⟩ :: L.filter (fun x => decide (¬ x.Ahead lt s t ∧ ¬ (x.set = s ∧ x.time = t)))
/-- a right write put into a store that isn't full -/
def putL [DecidableEq σ] (lt : σ → σ → Prop) [DecidableRel lt] (L : List (Item σ)) (s : σ) (t : Int) (v : Ver) : Int × List (Item σ) :=
  if (putC (atL L s t) v).1 ≠ 0 then ((putC (atL L s t) v).1, L) else (0, setL lt L s t (putC (atL L s t) v).2)
theorem atL_of [DecidableEq σ] (h : Line lt) {L : List (Item σ)} (hL : Rise lt L) {x : Item σ} (hx : x ∈ L) : atL L x.set x.time = x.l := by
  unfold atL
  cases hf : L.find? fun y => decide (y.set = x.set ∧ y.time = x.time) with
  | none =>
    have := List.find?_eq_none.1 hf x hx
    simp at this
  | some y =>
    have h1 := List.find?_some hf
    have h2 := List.mem_of_find?_eq_some hf
    simp only [decide_eq_true_eq] at h1
    rw [rise_one h hL h2 hx h1.1 h1.2]
theorem atL_mem [DecidableEq σ] {L : List (Item σ)} {s : σ} {t : Int} : atL L s t = [] ∨ ∃ x ∈ L, x.set = s ∧ x.time = t ∧ x.l = atL L s t := by
  unfold atL
  cases hf : L.find? fun y => decide (y.set = s ∧ y.time = t) with
  | none => exact .inl rfl
  | some y =>
    have h1 := List.find?_some hf
    simp only [decide_eq_true_eq] at h1
    exact .inr ⟨y, List.mem_of_find?_eq_some hf, h1.1, h1.2, rfl⟩
theorem setL_mem [DecidableEq σ] [DecidableRel lt] (h : Line lt) {L : List (Item σ)} {s : σ} {t : Int} {c : List Ver} {y : Item σ} : y ∈ setL lt L s t c ↔ y = ⟨s, t, c⟩ ∨ (y ∈ L ∧ ¬ (y.set = s ∧ y.time = t)) := by
  unfold setL
  rw [List.mem_append, List.mem_cons, List.mem_filter, List.mem_filter]
  simp only [decide_eq_true_eq]
  constructor
  · rintro (⟨h1, h2⟩ | h1 | ⟨h1, h2⟩)
    · refine .inr ⟨h1, fun e => ?_⟩
      have h2' : y.Ahead lt y.set y.time := by rw [← e.1, ← e.2] at h2; exact h2
      exact ahead_irr h _ h2'
    · exact .inl h1
    · exact .inr ⟨h1, h2.2⟩
  · rintro (h1 | ⟨h1, h2⟩)
    · exact .inr (.inl h1)
    · by_cases ha : y.Ahead lt s t
      · exact .inl ⟨h1, ha⟩
      · exact .inr (.inr ⟨h1, ha, h2⟩)
theorem setL_rise [DecidableEq σ] [DecidableRel lt] (h : Line lt) {L : List (Item σ)} (hL : Rise lt L) (s : σ) (t : Int) (c : List Ver) : Rise lt (setL lt L s t c) := by
  unfold setL Rise
  rw [List.pairwise_append]
  refine ⟨List.Pairwise.sublist List.filter_sublist hL, ?_, ?_⟩
  · rw [List.pairwise_cons]
    refine ⟨fun y hy => ?_, List.Pairwise.sublist List.filter_sublist hL⟩
    obtain ⟨h1, h2⟩ := List.mem_filter.1 hy
    simp only [decide_eq_true_eq] at h2
    rcases h.tri s y.set with h3 | h3 | h3
    · exact .inl h3
    · refine .inr ⟨h3, ?_⟩
      simp only
      have h4 : ¬ (y.set = s ∧ y.time < t) := fun e => h2.1 (.inr e)
      have h5 : y.time ≠ t := fun e => h2.2 ⟨h3.symm, e⟩
      have h6 : ¬ y.time < t := fun e => h4 ⟨h3.symm, e⟩
      omega
    · exact absurd (.inl h3) h2.1
  · intro a ha b hb
    have ha' : a.Ahead lt s t := by simpa using (List.mem_filter.1 ha).2
    rcases List.mem_cons.1 hb with rfl | hb
    · exact ha'
    · obtain ⟨h1, h2⟩ := List.mem_filter.1 hb
      simp only [decide_eq_true_eq] at h2
      have hsb : lt s b.set ∨ (s = b.set ∧ t < b.time) := by
        rcases h.tri s b.set with h3 | h3 | h3
        · exact .inl h3
        · have h4 : ¬ b.time < t := fun e => h2.1 (.inr ⟨h3.symm, e⟩)
          have h5 : b.time ≠ t := fun e => h2.2 ⟨h3.symm, e⟩
          exact .inr ⟨h3, by omega⟩
        · exact absurd (.inl h3) h2.1
      rcases hsb with h3 | ⟨h3, h4⟩
      · rcases ha' with h5 | ⟨h5, h6⟩
        · exact .inl (h.trans h5 h3)
        · exact .inl (h5 ▸ h3)
      · rcases ha' with h5 | ⟨h5, h6⟩
        · exact .inl (h3 ▸ h5)
        · exact .inr ⟨h5.trans h3, by omega⟩
theorem putC_mem {l : List Ver} {v : Ver} (h : Chain l) (h0 : (putC l v).1 = 0) {y : Ver} : y ∈ (putC l v).2 ↔ y ∈ l ∨ y = v := by
  unfold putC at h0 ⊢
  by_cases h1 : ¬ verR v
  · rw [if_pos h1] at h0; cases h0
  rw [if_neg h1] at h0 ⊢
  by_cases h2 : has l v.at_ = true
  · rw [if_pos h2] at h0; cases h0
  rw [if_neg h2]
  simp only [List.mem_append, List.mem_cons]
  constructor
  · rintro (h3 | h3 | h3)
    · exact .inl (List.mem_of_mem_take h3)
    · exact .inr h3
    · exact .inl (List.mem_of_mem_drop h3)
  · rintro (h3 | h3)
    · rw [← List.take_append_drop (place l v.at_) l, List.mem_append] at h3
      rcases h3 with h3 | h3
      · exact .inl h3
      · exact .inr (.inr h3)
    · exact .inr (.inl h3)
/-- a store that may be: rising, its chains chains that aren't empty -/
structure StoreOk (lt : σ → σ → Prop) (L : List (Item σ)) : Prop where
  rise : Rise lt L
  chain : ∀ x ∈ L, Chain x.l
  full : ∀ x ∈ L, x.l ≠ []
theorem at_chain [DecidableEq σ] {L : List (Item σ)} (hL : StoreOk lt L) (s : σ) (t : Int) : Chain (atL L s t) := by
  rcases atL_mem (L := L) (s := s) (t := t) with h | ⟨x, hx, -, -, e⟩
  · rw [h]; exact List.Pairwise.nil
  · rw [← e]; exact hL.chain x hx
theorem putL_ok [DecidableEq σ] [DecidableRel lt] (h : Line lt) {L : List (Item σ)} (hL : StoreOk lt L) (s : σ) (t : Int) (v : Ver) : StoreOk lt (putL lt L s t v).2 := by
  unfold putL
  by_cases h0 : (putC (atL L s t) v).1 ≠ 0
  · rw [if_pos h0]; exact hL
  rw [if_neg h0]
  have h0' : (putC (atL L s t) v).1 = 0 := by simpa using h0
  have hch := at_chain hL s t
  refine ⟨setL_rise h hL.rise _ _ _, fun x hx => ?_, fun x hx => ?_⟩
  · rcases (setL_mem h).1 hx with rfl | ⟨h1, -⟩
    · exact putC_chain hch h0'
    · exact hL.chain x h1
  · rcases (setL_mem h).1 hx with rfl | ⟨h1, -⟩
    · simp only
      intro e
      have := putC_len h0'
      rw [e] at this
      simp at this
    · exact hL.full x h1
/-- the points of a store rise -/
def PtLt (lt : σ → σ → Prop) (a b : σ × Int × Ver) : Prop := lt a.1 b.1 ∨ (a.1 = b.1 ∧ (a.2.1 < b.2.1 ∨ (a.2.1 = b.2.1 ∧ a.2.2.at_.lt b.2.2.at_)))
end
end Go.Sx
namespace Go.Sx
section
variable {σ : Type} {lt : σ → σ → Prop}
theorem len_three [DecidableEq σ] [DecidableRel lt] (L : List (Item σ)) (s : σ) (t : Int) (hn : ∀ x ∈ L, x.Ahead lt s t → ¬ (x.set = s ∧ x.time = t)) :
    lenL L = lenL (L.filter fun x => decide (x.Ahead lt s t)) + lenL (L.filter fun x => decide (¬ x.Ahead lt s t ∧ ¬ (x.set = s ∧ x.time = t))) + lenL (L.filter fun x => decide (x.set = s ∧ x.time = t)) := by
  induction L with
  | nil => rfl
  | cons x L ih =>
    have ih' := ih (fun y hy => hn y (by simp [hy]))
    have hx := hn x (by simp)
    by_cases h1 : x.Ahead lt s t
    · have h2 := hx h1
      rw [List.filter_cons, if_pos (by simpa using h1), List.filter_cons, if_neg (by simpa using fun h => absurd h1 h), List.filter_cons, if_neg (by simpa using h2), lenL_cons, lenL_cons]
      omega
    · by_cases h2 : x.set = s ∧ x.time = t
      · rw [List.filter_cons, if_neg (by simpa using h1), List.filter_cons, if_neg (by simp [h2]), List.filter_cons, if_pos (by simpa using h2), lenL_cons, lenL_cons]
        omega
      · rw [List.filter_cons, if_neg (by simpa using h1), List.filter_cons, if_pos (by simp only [decide_eq_true_eq]; exact ⟨h1, h2⟩), List.filter_cons, if_neg (by simpa using h2), lenL_cons, lenL_cons]
        omega
theorem len_at [DecidableEq σ] [DecidableRel lt] (h : Line lt) {L : List (Item σ)} (hL : Rise lt L) (s : σ) (t : Int) : lenL (L.filter fun x => decide (x.set = s ∧ x.time = t)) = (atL L s t).length := by
  induction L with
  | nil => rfl
  | cons x L ih =>
    obtain ⟨h1, h2⟩ := List.pairwise_cons.1 hL
    unfold atL at ih ⊢
    rw [List.filter_cons, List.find?_cons]
    by_cases hx : x.set = s ∧ x.time = t
    · have hnil : (L.filter fun y => decide (y.set = s ∧ y.time = t)) = [] := by
        rw [List.filter_eq_nil_iff]
        intro y hy
        simp only [decide_eq_true_eq]
        intro e
        have := h1 y hy
        rw [e.1, e.2, ← hx.1, ← hx.2] at this
        exact ahead_irr h x this
      simp only [decide_eq_true hx]
      simp only [if_true]
      rw [lenL_cons, hnil]
      simp [lenL]
    · simp only [decide_eq_false hx]
      rw [if_neg (by simp)]
      exact ih h2
theorem lenL_set [DecidableEq σ] [DecidableRel lt] (h : Line lt) {L : List (Item σ)} (hL : Rise lt L) (s : σ) (t : Int) (c : List Ver) : lenL (setL lt L s t c) + (atL L s t).length = lenL L + c.length := by
  have h3 := len_three (lt := lt) L s t (fun x _ ha e => by
    have ha' : x.Ahead lt x.set x.time := by rw [← e.1, ← e.2] at ha; exact ha
    exact ahead_irr h x ha')
  rw [len_at h hL] at h3
  unfold setL
  rw [lenL_append, lenL_cons]
  simp only
  omega
theorem putL_len [DecidableEq σ] [DecidableRel lt] (h : Line lt) {L : List (Item σ)} (hL : StoreOk lt L) {s : σ} {t : Int} {v : Ver} (h0 : (putL lt L s t v).1 = 0) : lenL (putL lt L s t v).2 = lenL L + 1 := by
  unfold putL at h0 ⊢
  by_cases h1 : (putC (atL L s t) v).1 ≠ 0
  · rw [if_pos h1] at h0; exact absurd h0 h1
  rw [if_neg h1]
  have h1' : (putC (atL L s t) v).1 = 0 := by simpa using h1
  have h2 := lenL_set h hL.rise s t (putC (atL L s t) v).2
  rw [putC_len h1'] at h2
  simp only
  omega
/-- writes, one behind the other -/
def putsL [DecidableEq σ] (lt : σ → σ → Prop) [DecidableRel lt] : List (Item σ) → List (σ × Int × Ver) → List (Item σ)
  | L, [] => L
  | L, w :: W => putsL lt (putL lt L w.1 w.2.1 w.2.2).2 W
/-- two writes of one set, one time, one stamp -/
def SameKey (a b : σ × Int × Ver) : Prop := a.1 = b.1 ∧ a.2.1 = b.2.1 ∧ a.2.2.at_ = b.2.2.at_
theorem empty_ok [DecidableEq σ] [DecidableRel lt] : StoreOk lt ([] : List (Item σ)) := ⟨List.Pairwise.nil, fun _ hx => (List.not_mem_nil hx).elim, fun _ hx => (List.not_mem_nil hx).elim⟩
end
end Go.Sx
namespace Go.Sx
open Go.Ix
theorem bytesLess_lt : ∀ (x y : List UInt8), Op.bytesLess x y = decide (x < y)
  | [], [] => by simp [Op.bytesLess]
  | _ :: _, [] => by simp [Op.bytesLess]
  | [], _ :: _ => by simp [Op.bytesLess]
  | a :: x, b :: y => by
    rw [Op.bytesLess, bytesLess_lt x y]
    simp only [List.cons_lt_cons_iff]
    by_cases h1 : a < b <;> by_cases h2 : a = b <;> by_cases h3 : x < y <;> simp [h1, h2, h3]
theorem toList_inj {a b : ByteArray} (h : a.toList = b.toList) : a = b := by
  have h1 : bl a = bl b := by
    have e : ∀ c : ByteArray, c.toList = bl c := fun c => by
      exact ByteArray.toList_eq c
    rw [← e, ← e, h]
  exact bl_inj h1
theorem less_tri (a b : ByteArray) : Less a b ∨ a = b ∨ Less b a := by
  unfold Less
  rw [bytesLess_lt, bytesLess_lt, decide_eq_true_eq, decide_eq_true_eq]
  by_cases h1 : a.toList < b.toList
  · exact .inl h1
  · by_cases h2 : b.toList < a.toList
    · exact .inr (.inr h2)
    · exact .inr (.inl (toList_inj (List.le_antisymm (by exact h2) (by exact h1))))
theorem less_irr (a : ByteArray) : ¬ Less a a := by
  unfold Less
  rw [bytesLess_lt, decide_eq_true_eq]
  exact List.lt_irrefl _
theorem less_trn {a b c : ByteArray} (h : Less a b) (k : Less b c) : Less a c := by
  unfold Less at *
  rw [bytesLess_lt, decide_eq_true_eq] at *
  exact List.lt_trans h k
/-- how two sets stand -/
def cmpS : List Pr → List Pr → Int
  | [], [] => 0
  | [], _ :: _ => -1
  | _ :: _, [] => 1
  | p :: a, q :: b => if p.n ≠ q.n then (if Op.bytesLess p.n.toList q.n.toList = true then -1 else 1) else if p.v ≠ q.v then (if Op.bytesLess p.v.toList q.v.toList = true then -1 else 1) else cmpS a b
def ltS (a b : List Pr) : Prop := cmpS a b = -1
theorem cmpS_rng : ∀ a b, cmpS a b = -1 ∨ cmpS a b = 0 ∨ cmpS a b = 1
  | [], [] => by simp [cmpS]
  | [], _ :: _ => by simp [cmpS]
  | _ :: _, [] => by simp [cmpS]
  | p :: a, q :: b => by
    have ih := cmpS_rng a b
    unfold cmpS
    split
    · split <;> simp
    · split
      · split <;> simp
      · exact ih
theorem cmpS_cons (p q : Pr) (a b : List Pr) : cmpS (p :: a) (q :: b) = if p.n ≠ q.n then (if Op.bytesLess p.n.toList q.n.toList = true then -1 else 1) else if p.v ≠ q.v then (if Op.bytesLess p.v.toList q.v.toList = true then -1 else 1) else cmpS a b := by rw [cmpS]
theorem cmpS_zero : ∀ {a b : List Pr}, cmpS a b = 0 → a = b
  | [], [], _ => rfl
  | [], _ :: _, h => by simp [cmpS] at h
  | _ :: _, [], h => by simp [cmpS] at h
  | p :: a, q :: b, h => by
    rw [cmpS_cons] at h
    by_cases h1 : p.n = q.n
    · rw [if_neg (by simpa using h1)] at h
      by_cases h2 : p.v = q.v
      · rw [if_neg (by simpa using h2)] at h
        rw [cmpS_zero h, Pr.ext' h1 h2]
      · rw [if_pos h2] at h
        split at h <;> simp at h
    · rw [if_pos h1] at h
      split at h <;> simp at h
theorem cmpS_self : ∀ a, cmpS a a = 0
  | [] => rfl
  | p :: a => by rw [cmpS_cons, if_neg (by simp), if_neg (by simp)]; exact cmpS_self a
theorem less_no {a b : ByteArray} (h : Less a b) : ¬ Op.bytesLess b.toList a.toList = true := fun k => less_irr _ (less_trn h k)
theorem cmpS_turn : ∀ a b, cmpS b a = - cmpS a b
  | [], [] => rfl
  | [], _ :: _ => rfl
  | _ :: _, [] => rfl
  | p :: a, q :: b => by
    have ih := cmpS_turn a b
    rw [cmpS_cons, cmpS_cons]
    by_cases h1 : p.n = q.n
    · rw [if_neg (show ¬ q.n ≠ p.n by simpa using h1.symm), if_neg (show ¬ p.n ≠ q.n by simpa using h1)]
      by_cases h2 : p.v = q.v
      · rw [if_neg (show ¬ q.v ≠ p.v by simpa using h2.symm), if_neg (show ¬ p.v ≠ q.v by simpa using h2)]
        exact ih
      · rw [if_pos (show q.v ≠ p.v from fun e => h2 e.symm), if_pos (show p.v ≠ q.v from h2)]
        rcases less_tri p.v q.v with h | h | h
        · rw [if_neg (less_no h), if_pos (show Op.bytesLess p.v.toList q.v.toList = true from h)]
          rfl
        · exact absurd h h2
        · rw [if_pos (show Op.bytesLess q.v.toList p.v.toList = true from h), if_neg (less_no h)]
    · rw [if_pos (show q.n ≠ p.n from fun e => h1 e.symm), if_pos (show p.n ≠ q.n from h1)]
      rcases less_tri p.n q.n with h | h | h
      · rw [if_neg (less_no h), if_pos (show Op.bytesLess p.n.toList q.n.toList = true from h)]
        rfl
      · exact absurd h h1
      · rw [if_pos (show Op.bytesLess q.n.toList p.n.toList = true from h), if_neg (less_no h)]
theorem ltS_cons {p q : Pr} {a b : List Pr} : ltS (p :: a) (q :: b) ↔ Less p.n q.n ∨ (p.n = q.n ∧ (Less p.v q.v ∨ (p.v = q.v ∧ ltS a b))) := by
  unfold ltS
  rw [cmpS_cons]
  by_cases h1 : p.n = q.n
  · rw [if_neg (by simpa using h1)]
    have n1 : ¬ Less p.n q.n := by rw [h1]; exact less_irr _
    by_cases h2 : p.v = q.v
    · rw [if_neg (by simpa using h2)]
      have n2 : ¬ Less p.v q.v := by rw [h2]; exact less_irr _
      simp only [n1, n2, false_or, h1, h2, true_and]
      simp [less_irr]
    · rw [if_pos h2]
      by_cases h3 : Less p.v q.v
      · rw [if_pos (show Op.bytesLess p.v.toList q.v.toList = true from h3)]
        simp [h1, h3]
      · rw [if_neg (show ¬ Op.bytesLess p.v.toList q.v.toList = true from h3)]
        simp [h1, h2, h3, less_irr]
  · rw [if_pos h1]
    by_cases h3 : Less p.n q.n
    · rw [if_pos (show Op.bytesLess p.n.toList q.n.toList = true from h3)]
      simp [h3]
    · rw [if_neg (show ¬ Op.bytesLess p.n.toList q.n.toList = true from h3)]
      simp [h1, h3]
theorem ltS_trans : ∀ {a b c : List Pr}, ltS a b → ltS b c → ltS a c
  | [], [], _, h, _ => by simp [ltS, cmpS] at h
  | _ :: _, [], _, h, _ => by simp [ltS, cmpS] at h
  | _, _ :: _, [], _, h => by simp [ltS, cmpS] at h
  | [], _ :: _, _ :: _, _, _ => by simp [ltS, cmpS]
  | p :: a, q :: b, r :: c, h, k => by
    rw [ltS_cons] at h k ⊢
    rcases h with h | ⟨e, h⟩
    · rcases k with k | ⟨f, -⟩
      · exact .inl (less_trn h k)
      · exact .inl (f ▸ h)
    · rcases k with k | ⟨f, k⟩
      · exact .inl (e ▸ k)
      · refine .inr ⟨e.trans f, ?_⟩
        rcases h with h | ⟨e2, h⟩
        · rcases k with k | ⟨f2, -⟩
          · exact .inl (less_trn h k)
          · exact .inl (f2 ▸ h)
        · rcases k with k | ⟨f2, k⟩
          · exact .inl (e2 ▸ k)
          · exact .inr ⟨e2.trans f2, ltS_trans h k⟩
theorem line_sets : Line ltS := by
  refine ⟨fun a h => ?_, fun h k => ltS_trans h k, fun a b => ?_⟩
  · unfold ltS at h
    rw [cmpS_self] at h
    simp at h
  · rcases cmpS_rng a b with h | h | h
    · exact .inl h
    · exact .inr (.inl (cmpS_zero h))
    · refine .inr (.inr ?_)
      unfold ltS
      rw [cmpS_turn, h]
end Go.Sx
set_option linter.unusedVariables false
set_option linter.unusedSimpArgs false
namespace Go.Sx
section
variable {σ : Type} {lt : σ → σ → Prop}
theorem split_ahead [DecidableEq σ] [DecidableRel lt] (h : Line lt) {L : List (Item σ)} (hL : Rise lt L) {s : σ} {t : Int} {k : Nat} (hn : ∀ x, L[k]? = some x → ¬ x.Ahead lt s t) : ∀ y ∈ L.drop k, ¬ y.Ahead lt s t := by
  intro y hy
  obtain ⟨j, hj, rfl⟩ := List.getElem_of_mem hy
  rw [List.length_drop] at hj
  rw [List.getElem_drop]
  by_cases e : j = 0
  · subst e
    exact hn _ (List.getElem?_eq_getElem (by omega))
  · intro ha
    have hp := List.pairwise_iff_getElem.1 hL k (k + j) (by omega) (by omega) (by omega)
    exact hn _ (List.getElem?_eq_getElem (by omega)) (ahead_trans h hp ha)
theorem set_take [DecidableEq σ] [DecidableRel lt] {L : List (Item σ)} {s : σ} {t : Int} {k : Nat} (hk : ∀ x ∈ L.take k, x.Ahead lt s t) (hd : ∀ y ∈ L.drop k, ¬ y.Ahead lt s t) :
    L.filter (fun x => decide (x.Ahead lt s t)) = L.take k := by
  conv => lhs; rw [← List.take_append_drop k L]
  rw [List.filter_append, List.filter_eq_self.2 (fun x hx => by simpa using hk x hx), List.filter_eq_nil_iff.2 (fun x hx => by simpa using hd x hx), List.append_nil]
theorem ahead_unlike (h : Line lt) {x : Item σ} {s : σ} {t : Int} (ha : x.Ahead lt s t) : ¬ (x.set = s ∧ x.time = t) := by
  rintro ⟨rfl, rfl⟩
  exact ahead_irr h x ha
/-- the chain is there -/
theorem set_there [DecidableEq σ] [DecidableRel lt] (h : Line lt) {L : List (Item σ)} (hL : Rise lt L) {s : σ} {t : Int} {k : Nat} {x : Item σ} (hk : ∀ y ∈ L.take k, y.Ahead lt s t) (hx : L[k]? = some x) (e1 : x.set = s) (e2 : x.time = t) :
    atL L s t = x.l ∧ ∀ c, setL lt L s t c = L.take k ++ ⟨s, t, c⟩ :: L.drop (k + 1) := by
  subst e1 e2
  obtain ⟨hk', hxe⟩ := List.getElem?_eq_some_iff.1 hx
  have hm : x ∈ L := List.mem_of_getElem? hx
  refine ⟨atL_of h hL hm, fun c => ?_⟩
  have hd : ∀ y ∈ L.drop k, ¬ y.Ahead lt x.set x.time := split_ahead h hL (fun y hy => by
    rw [hx] at hy
    injection hy with hy
    rw [← hy]
    exact ahead_irr h _)
  have hdk : L.drop k = x :: L.drop (k + 1) := by rw [List.drop_eq_getElem_cons hk', hxe]
  unfold setL
  rw [set_take hk hd]
  congr 2
  have hs : ∀ p : Item σ → Bool, L.filter p = (L.take k).filter p ++ (x :: L.drop (k + 1)).filter p := fun p => by rw [← List.filter_append, ← hdk, List.take_append_drop]
  rw [hs, List.filter_eq_nil_iff.2 (fun y hy => by simp [hk y hy]), List.nil_append, List.filter_cons, if_neg (by simp)]
  refine List.filter_eq_self.2 (fun y hy => ?_)
  have h1 := hd y (by rw [hdk]; exact List.mem_cons_of_mem _ hy)
  have h2 : ¬ (y.set = x.set ∧ y.time = x.time) := by
    obtain ⟨j, hj, rfl⟩ := List.getElem_of_mem hy
    rw [List.length_drop] at hj
    rw [List.getElem_drop]
    have hp := List.pairwise_iff_getElem.1 hL k (k + 1 + j) hk' (by omega) (by omega)
    rintro ⟨e1, e2⟩
    rw [e1, e2, hxe] at hp
    exact ahead_irr h _ hp
  simp [h1, h2]
/-- there is no such chain -/
theorem set_new [DecidableEq σ] [DecidableRel lt] (h : Line lt) {L : List (Item σ)} (hL : Rise lt L) {s : σ} {t : Int} {k : Nat} (hk : ∀ y ∈ L.take k, y.Ahead lt s t) (hn : ∀ x, L[k]? = some x → ¬ x.Ahead lt s t) (hu : ∀ x, L[k]? = some x → ¬ (x.set = s ∧ x.time = t)) :
    atL L s t = [] ∧ ∀ c, setL lt L s t c = L.take k ++ ⟨s, t, c⟩ :: L.drop k := by
  have hd := split_ahead h hL hn
  have hs : ∀ y ∈ L.drop k, ¬ (y.set = s ∧ y.time = t) := by
    intro y hy
    obtain ⟨j, hj, rfl⟩ := List.getElem_of_mem hy
    rw [List.length_drop] at hj
    rw [List.getElem_drop]
    by_cases e : j = 0
    · subst e
      exact hu _ (List.getElem?_eq_getElem (by omega))
    · rintro ⟨e1, e2⟩
      have hp := List.pairwise_iff_getElem.1 hL k (k + j) (by omega) (by omega) (by omega)
      rw [e1, e2] at hp
      exact hn _ (List.getElem?_eq_getElem (by omega)) hp
  refine ⟨?_, fun c => ?_⟩
  · unfold atL
    have : L.find? (fun x => decide (x.set = s ∧ x.time = t)) = none := by
      rw [List.find?_eq_none]
      intro y hy
      rw [← List.take_append_drop k L] at hy
      rcases List.mem_append.1 hy with h1 | h1
      · simpa using ahead_unlike h (hk y h1)
      · simpa using hs y h1
    rw [this]
  · unfold setL
    rw [set_take hk hd]
    congr 2
    conv => lhs; rw [← List.take_append_drop k L]
    rw [List.filter_append, List.filter_eq_nil_iff.2 (fun y hy => by simp [hk y hy]), List.nil_append]
    exact List.filter_eq_self.2 (fun y hy => by have h1 := hd y hy; have h2 := hs y hy; simp [h1, h2])
end
end Go.Sx
