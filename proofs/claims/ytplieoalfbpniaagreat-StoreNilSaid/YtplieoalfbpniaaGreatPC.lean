/- Plain facts: stamps, versions, chains. -/
namespace Go.Sx
/-- a stamp -/
structure Tm where
  wall : Int
  tick : Int
  mark : Int
deriving DecidableEq
def Tm.lt (a b : Tm) : Prop := a.wall < b.wall ∨ (a.wall = b.wall ∧ (a.tick < b.tick ∨ (a.tick = b.tick ∧ a.mark < b.mark)))
instance (a b : Tm) : Decidable (a.lt b) := by unfold Tm.lt; infer_instance
theorem Tm.ext' {a b : Tm} (h1 : a.wall = b.wall) (h2 : a.tick = b.tick) (h3 : a.mark = b.mark) : a = b := by cases a; cases b; simp_all
theorem Tm.irr (a : Tm) : ¬ a.lt a := by unfold Tm.lt; omega
theorem Tm.trans {a b c : Tm} (h1 : a.lt b) (h2 : b.lt c) : a.lt c := by unfold Tm.lt at *; omega
theorem Tm.asymm {a b : Tm} (h1 : a.lt b) : ¬ b.lt a := by unfold Tm.lt at *; omega
theorem Tm.tri (a b : Tm) : a.lt b ∨ a = b ∨ b.lt a := by
  by_cases h1 : a.wall = b.wall
  · by_cases h2 : a.tick = b.tick
    · by_cases h3 : a.mark = b.mark
      · exact .inr (.inl (Tm.ext' h1 h2 h3))
      · unfold Tm.lt; omega
    · unfold Tm.lt; omega
  · unfold Tm.lt; omega
/-- a version -/
structure Ver where
  at_ : Tm
  kind : Int
  num : Int
  text : ByteArray
/-- which versions may be -/
def verR (v : Ver) : Prop := (0 ≤ v.at_.wall ∧ v.at_.wall ≤ 4611686018427387904) ∧ 1 ≤ v.kind ∧ v.kind ≤ 3 ∧ v.text.size ≤ 256 ∧ (v.kind = 2 ∨ v.text.size = 0) ∧ (v.kind = 1 ∨ v.num = 0)
instance (v : Ver) : Decidable (verR v) := by unfold verR; infer_instance
/-- a chain: rising stamps -/
def Chain (l : List Ver) : Prop := l.Pairwise (fun a b => a.at_.lt b.at_)
/-- how many stand ahead of a stamp -/
def place (l : List Ver) (t : Tm) : Nat := (l.filter fun x => decide (x.at_.lt t)).length
def has (l : List Ver) (t : Tm) : Bool := l.any fun x => decide (x.at_ = t)
/-- how many don't stand behind it -/
def upto (l : List Ver) (t : Tm) : Nat := (l.filter fun x => decide (¬ t.lt x.at_)).length
theorem place_le (l : List Ver) (t : Tm) : place l t ≤ l.length := List.length_filter_le _ _
theorem upto_le (l : List Ver) (t : Tm) : upto l t ≤ l.length := List.length_filter_le _ _
theorem place_none {l : List Ver} {t : Tm} (h : ∀ y ∈ l, t.lt y.at_) : place l t = 0 ∧ upto l t = 0 ∧ has l t = false := by
  refine ⟨?_, ?_, ?_⟩
  · unfold place
    rw [List.filter_eq_nil_iff.2]
    · rfl
    · intro y hy
      simpa using Tm.asymm (h y hy)
  · unfold upto
    rw [List.filter_eq_nil_iff.2]
    · rfl
    · intro y hy
      simpa using h y hy
  · unfold has
    rw [List.any_eq_false]
    intro y hy e
    have : y.at_ = t := by simpa using e
    have h2 := h y hy
    rw [this] at h2
    exact Tm.irr _ h2
theorem place_cons {x : Ver} {l : List Ver} {t : Tm} : place (x :: l) t = (if x.at_.lt t then 1 else 0) + place l t := by
  unfold place
  rw [List.filter_cons]
  by_cases h : x.at_.lt t
  · simp [h]; omega
  · simp [h]
theorem upto_cons {x : Ver} {l : List Ver} {t : Tm} : upto (x :: l) t = (if t.lt x.at_ then 0 else 1) + upto l t := by
  unfold upto
  rw [List.filter_cons]
  by_cases h : t.lt x.at_
  · simp [h]
  · simp [h]; omega
/-- those ahead, and those behind, of a chain -/
theorem chain_parts : ∀ {l : List Ver} (t : Tm), Chain l → l.filter (fun x => decide (x.at_.lt t)) = l.take (place l t) ∧ l.filter (fun x => decide (t.lt x.at_)) = l.drop (upto l t) ∧ upto l t = place l t + (if has l t then 1 else 0)
  | [], t, _ => ⟨rfl, rfl, rfl⟩
  | x :: l, t, h => by
    have hc := (List.pairwise_cons.1 h).2
    have hx := (List.pairwise_cons.1 h).1
    obtain ⟨i1, i2, i3⟩ := chain_parts t hc
    rcases Tm.tri x.at_ t with h1 | h1 | h1
    · have h2 : ¬ t.lt x.at_ := Tm.asymm h1
      have h3 : x.at_ ≠ t := fun e => Tm.irr t (e ▸ h1)
      rw [place_cons, upto_cons, if_pos h1, if_neg h2]
      refine ⟨?_, ?_, ?_⟩
      · rw [List.filter_cons, if_pos (by simpa using h1), i1, Nat.add_comm, List.take_succ_cons]
      · rw [List.filter_cons, if_neg (by simpa using h2), i2, Nat.add_comm, List.drop_succ_cons]
      · have : has (x :: l) t = has l t := by simp [has, h3]
        rw [this, i3]
        omega
    · have hb : ∀ y ∈ l, t.lt y.at_ := fun y hy => h1 ▸ hx y hy
      obtain ⟨p1, p2, p3⟩ := place_none hb
      have h2 : ¬ t.lt x.at_ := by rw [h1]; exact Tm.irr t
      have h3 : ¬ x.at_.lt t := by rw [h1]; exact Tm.irr t
      rw [place_cons, upto_cons, if_neg h3, if_neg h2, p1, p2]
      refine ⟨?_, ?_, ?_⟩
      · rw [List.filter_cons, if_neg (by simpa using h3), i1, p1]
        simp
      · rw [List.filter_cons, if_neg (by simpa using h2), i2, p2]
        simp
      · simp [has, h1]
    · have hb : ∀ y ∈ x :: l, t.lt y.at_ := fun y hy => by
        rcases List.mem_cons.1 hy with rfl | hy
        · exact h1
        · exact Tm.trans h1 (hx y hy)
      obtain ⟨p1, p2, p3⟩ := place_none hb
      rw [p1, p2, p3]
      refine ⟨?_, ?_, by simp⟩
      · rw [List.take_zero, List.filter_eq_nil_iff]
        intro y hy
        simpa using Tm.asymm (hb y hy)
      · rw [List.drop_zero, List.filter_eq_self]
        intro y hy
        simpa using hb y hy
/-- a version more -/
def putC (l : List Ver) (v : Ver) : Int × List Ver :=
  if ¬ verR v then (1, []) else if has l v.at_ = true then (7, []) else (0, l.take (place l v.at_) ++ v :: l.drop (place l v.at_))
/-- the last that isn't behind, if it is no Gone -/
def getC (l : List Ver) (t : Tm) : Option Ver := match upto l t with
  | 0 => none
  | i + 1 => match l[i]? with
    | some v => if v.kind = 3 then none else some v
    | none => none
/-- where a cut begins -/
def cutAt (l : List Ver) (t : Tm) : Nat := match upto l t with
  | 0 => 0
  | i + 1 => match l[i]? with
    | some v => if v.kind = 3 then i + 1 else i
    | none => 0
def cutC (l : List Ver) (t : Tm) : List Ver := l.drop (cutAt l t)
theorem mem_take_lt {l : List Ver} {t : Tm} (h : Chain l) {y : Ver} (hy : y ∈ l.take (place l t)) : y.at_.lt t := by
  rw [← (chain_parts t h).1] at hy
  simpa using (List.mem_filter.1 hy).2
theorem mem_drop_gt {l : List Ver} {t : Tm} (h : Chain l) {y : Ver} (hy : y ∈ l.drop (upto l t)) : t.lt y.at_ := by
  rw [← (chain_parts t h).2.1] at hy
  simpa using (List.mem_filter.1 hy).2
theorem upto_none {l : List Ver} {t : Tm} (h : Chain l) (hn : has l t = false) : upto l t = place l t := by
  rw [(chain_parts t h).2.2, hn]
  simp
theorem putC_chain {l : List Ver} {v : Ver} (h : Chain l) (h0 : (putC l v).1 = 0) : Chain (putC l v).2 := by
  unfold putC at h0 ⊢
  by_cases h1 : ¬ verR v
  · rw [if_pos h1] at h0; cases h0
  rw [if_neg h1] at h0 ⊢
  by_cases h2 : has l v.at_ = true
  · rw [if_pos h2] at h0; cases h0
  rw [if_neg h2]
  have hn : has l v.at_ = false := by simpa using h2
  have hu := upto_none h hn
  unfold Chain
  rw [List.pairwise_append]
  refine ⟨List.Pairwise.sublist (List.take_sublist _ _) h, ?_, ?_⟩
  · rw [List.pairwise_cons]
    exact ⟨fun y hy => mem_drop_gt h (by rw [hu]; exact hy), List.Pairwise.sublist (List.drop_sublist _ _) h⟩
  · intro a ha b hb
    have ha' := mem_take_lt h ha
    rcases List.mem_cons.1 hb with rfl | hb
    · exact ha'
    · exact Tm.trans ha' (mem_drop_gt h (by rw [hu]; exact hb))
theorem cutC_chain {l : List Ver} (h : Chain l) (t : Tm) : Chain (cutC l t) := List.Pairwise.sublist (List.drop_sublist _ _) h
theorem cutAt_le (l : List Ver) (t : Tm) : cutAt l t ≤ l.length := by
  have h := upto_le l t
  unfold cutAt
  split
  · omega
  · rename_i i hi
    split
    · split <;> omega
    · omega
theorem putC_len {l : List Ver} {v : Ver} (h0 : (putC l v).1 = 0) : (putC l v).2.length = l.length + 1 := by
  have hp := place_le l v.at_
  unfold putC at h0 ⊢
  by_cases h1 : ¬ verR v
  · rw [if_pos h1] at h0; cases h0
  rw [if_neg h1] at h0 ⊢
  by_cases h2 : has l v.at_ = true
  · rw [if_pos h2] at h0; cases h0
  rw [if_neg h2]
  simp
  omega
/-- what is told at a stamp is what is told behind a cut at, or ahead of, it -/
theorem get_cut {l : List Ver} (h : Chain l) {t u : Tm} (htu : ¬ u.lt t) : getC (cutC l t) u = getC l u := by
  have hc := cutC_chain h t
  have hle := cutAt_le l t
  -- how many of the cut chain don't stand behind u
  have hsplit : ∀ n, n ≤ upto l t → n ≤ upto l u ∧ upto (l.drop n) u = upto l u - n := by
    intro n hn
    have hmono : upto l t ≤ upto l u := by
      have e1 := (chain_parts t h).2.1
      have e2 := (chain_parts u h).2.1
      have hsub : (l.filter fun x => decide (¬ t.lt x.at_)).length ≤ (l.filter fun x => decide (¬ u.lt x.at_)).length := by
        rw [← List.countP_eq_length_filter, ← List.countP_eq_length_filter]
        refine List.countP_mono_left (fun x _ hx => ?_)
        simp only [decide_eq_true_eq] at hx ⊢
        intro hux
        rcases Tm.tri t u with h1 | h1 | h1
        · exact hx (Tm.trans h1 hux)
        · exact hx (h1 ▸ hux)
        · exact htu h1
      exact hsub
    refine ⟨by omega, ?_⟩
    have hall : ∀ y ∈ l.take n, ¬ u.lt y.at_ := by
      intro y hy hu
      have hy2 : y ∈ l.take (upto l u) := List.IsPrefix.mem hy (List.take_prefix_take_left (by omega))
      obtain ⟨i, hi, e⟩ := List.getElem_of_mem hy2
      have hi' : i < upto l u ∧ i < l.length := by simp only [List.length_take] at hi; omega
      have hd := (chain_parts u h).2.1
      have hyl : y ∈ l.filter (fun x => decide (u.lt x.at_)) := List.mem_filter.2 ⟨List.mem_of_mem_take hy, by simpa using hu⟩
      rw [hd] at hyl
      obtain ⟨j, hj, e'⟩ := List.getElem_of_mem hyl
      rw [List.getElem_take] at e
      rw [List.getElem_drop] at e'
      have hp := List.pairwise_iff_getElem.1 h i (upto l u + j) (by omega) (by simp at hj; omega) (by omega)
      rw [e, e'] at hp
      exact Tm.irr _ hp
    have e : l = l.take n ++ l.drop n := (List.take_append_drop n l).symm
    have hl : upto l u = upto (l.take n) u + upto (l.drop n) u := by
      conv => lhs; rw [e]
      unfold upto
      rw [List.filter_append, List.length_append]
    have ht : upto (l.take n) u = n := by
      unfold upto
      rw [List.filter_eq_self.2 (fun y hy => by simpa using hall y hy)]
      have := upto_le l t
      simp
      omega
    omega
  unfold cutC
  have hcu : cutAt l t ≤ upto l t := by
    unfold cutAt
    split
    · omega
    · rename_i i hi
      split
      · split <;> omega
      · omega
  obtain ⟨h1, h2⟩ := hsplit _ hcu
  have hm := (hsplit _ (Nat.le_refl _)).1
  unfold getC
  rw [h2]
  cases hu : upto l u with
  | zero =>
    rw [hu] at h1
    have : cutAt l t = 0 := by omega
    simp [this]
  | succ k =>
    by_cases hk : cutAt l t ≤ k
    · have e : k + 1 - cutAt l t = (k - cutAt l t) + 1 := by omega
      rw [e]
      simp only
      rw [List.getElem?_drop, show cutAt l t + (k - cutAt l t) = k by omega]
    · -- the whole that isn't behind u is cut: its last is a Gone
      have hk2 : cutAt l t = k + 1 := by omega
      have e : k + 1 - cutAt l t = 0 := by omega
      rw [e]
      simp only
      unfold cutAt at hk2
      split at hk2
      · omega
      · rename_i i hi
        split at hk2
        · rename_i v hv
          split at hk2
          · rename_i h3
            obtain rfl : i = k := by omega
            rw [hv]
            simp [h3]
          · omega
        · omega
end Go.Sx
