/- A cell in plain: commands, replies, what they do. Plain laws of a cell: what is kept by every command. What holds of every cell that commands have made. CellRises, CellBehind, CellOnce, CellNumbers in plain. CellOnce and CellFinal in plain. CellFinal in plain: what was read once at a stamp is read there for ever. CellFull in plain: a cell that is full of batches that were dropped. -/
import Derived.Test.YtbaflgddpciadaaGreatSG
import Derived.Test.YtbaflgddpciadaaGreatE1
import Derived.Test.YtbaflgddpciadaaGreatDG
set_option linter.unusedVariables false
set_option linter.unusedSimpArgs false
namespace Go.Cx
open Go.Sx Go.Ix Go.Proofs.YtbaflgddpciadaaGreat
/-- a write -/
structure Wp where
  st : List Pr
  t : Int
  k : Int
  n : Int
  x : ByteArray
def RightWp (p : Wp) : Prop := RightP p.st ∧ 0 ≤ p.t ∧ p.t ≤ 4611686018427387904 ∧ verR ⟨⟨0, 0, 0⟩, p.k, p.n, p.x⟩
abbrev Its := List (Go.Sx.Item (List Pr))
/-- a write put into a store -/
noncomputable def putP (L : Its) (p : Wp) (t : Tm) : Int × Its :=
  if pb (RightWp p) = false then (1, L) else if 65536 ≤ lenL L then (4, L) else putL ltS L p.st p.t ⟨t, p.k, p.n, p.x⟩
def Batch (l : List Wp) : Prop := 1 ≤ l.length ∧ l.length ≤ 64 ∧ (∀ w ∈ l, RightWp w) ∧ l.Pairwise fun a b => ¬ (a.t = b.t ∧ a.st = b.st)
def tmR (t : Tm) : Prop := 0 ≤ t.wall ∧ t.wall ≤ 4611686018427387904
instance (t : Tm) : Decidable (tmR t) := by unfold tmR; infer_instance
structure Cmd where
  kind : Int
  deed : Int
  at_ : Tm
  yes : Bool
  token : ByteArray
  n : Int
  id : Int
  ws : List Wp
structure Rep where
  err : Int
  deed : Int
  state : Int
  at_ : Tm
/-- a deed; an entry of the book; a pin -/
structure Dd where
  id : Int
  state : Int
  at_ : Tm
  ws : List Wp
structure En where
  token : ByteArray
  deed : Int
  state : Int
  at_ : Tm
  ws : List Wp
structure Pi where
  id : Int
  at_ : Tm
  until_ : Int
structure Cl where
  id : Int
  M : Its
  deeds : List Dd
  book : List En
  closed : Tm
  safe : Tm
  hor : Int
  pins : List Pi
  ticks : Int
def t0 : Tm := ⟨0, 0, 0⟩
def newC (id : Int) : Cl := ⟨id, [], [], [], t0, t0, 0, [], 0⟩
def bad (e : Int) : Rep := ⟨e, 0, 0, t0⟩
def findD (D : List Dd) (d : Int) : Option Dd := D.find? fun x => decide (x.id = d)
def putD (D : List Dd) (d : Dd) : List Dd := D.filter (fun x => decide (x.id < d.id)) ++ d :: D.filter (fun x => decide (d.id < x.id))
def heldD (D : List Dd) : Nat := (D.map fun x => x.ws.length).sum
def waits (D : List Dd) (t : Tm) : Bool := D.any fun x => decide (x.state = 1 ∧ ¬ t.lt x.at_)
def Dd.told (d : Dd) : Rep := ⟨0, d.id, d.state, d.at_⟩
def En.told (x : En) : Rep := ⟨0, x.deed, x.state, x.at_⟩
/-- the first stamp behind all with that wall and tick -/
def nextT (s : Tm) : Option Tm := if s.tick < 4294967295 then some ⟨s.wall, s.tick + 1, 0⟩ else if s.wall < 4611686018427387904 then some ⟨s.wall + 1, 0, 0⟩ else none
def lastT (s : Tm) : Tm := ⟨s.wall, s.tick, 4294967295⟩
def mostT (a b : Tm) : Tm := if a.lt b then b else a
section
open Classical
noncomputable def beginC (c : Cl) (m : Cmd) : Rep × Cl :=
  if ¬ (Token m.token ∧ Batch m.ws) then (bad 1, c) else
  match c.book.find? fun x => decide (x.token = m.token) with
  | some x => if x.ws = m.ws then (x.told, c) else (bad 120, c)
  | none => if 1024 ≤ c.book.length then (bad 4, c) else
    let x : En := ⟨m.token, c.book.length * 4 + c.id + 1, 1, t0, m.ws⟩
    (x.told, { c with book := c.book ++ [x] })
/-- an entry decided -/
def En.decide_ (x : En) (m : Cmd) : En := if m.yes = true then { x with state := 2, at_ := m.at_ } else { x with state := 3 }
noncomputable def decideC (c : Cl) (m : Cmd) : Rep × Cl :=
  match c.book.find? fun x => decide (x.deed = m.deed) with
  | none => (bad 6, c)
  | some x => if x.state ≠ 1 then (x.told, c) else if m.yes = true ∧ ¬ (tmR m.at_ ∧ m.at_.mark = m.deed) then (bad 1, c) else
    ((x.decide_ m).told, { c with book := c.book.map fun y => if y.deed = m.deed then y.decide_ m else y })
/-- where a batch is held -/
def stampC (c : Cl) (m : Cmd) : Option Tm :=
  if c.closed.lt ⟨m.at_.wall, m.at_.tick, 0⟩ then some ⟨m.at_.wall, m.at_.tick, m.deed⟩ else (nextT c.closed).map fun n => ⟨n.wall, n.tick, m.deed⟩
noncomputable def prepareC (c : Cl) (m : Cmd) : Rep × Cl :=
  match findD c.deeds m.deed with
  | some d => (d.told, c)
  | none => if m.deed = 0 ∨ ¬ Batch m.ws ∨ ¬ tmR m.at_ then (bad 1, c) else
    if 1024 ≤ c.deeds.length ∨ 65536 < lenL c.M + heldD c.deeds + m.ws.length then (bad 4, c) else
    match stampC c m with
    | none => (bad 20, c)
    | some t => let d : Dd := ⟨m.deed, 1, t, m.ws⟩
      (d.told, { c with deeds := putD c.deeds d })
/-- a batch's writes laid down -/
noncomputable def layC (hor : Int) (t : Tm) (L : Its) (ws : List Wp) : Its := ws.foldl (fun L w => if hor ≤ w.t then (putP L w t).2 else L) L
noncomputable def resolveC (c : Cl) (m : Cmd) : Rep × Cl :=
  let fin (ws : List Wp) (at_ : Tm) : Rep × Cl :=
    if m.yes = true ∧ (¬ (tmR m.at_ ∧ m.at_.mark = m.deed) ∨ m.at_.lt at_) then (bad 1, c) else
    let d : Dd := if m.yes = true then ⟨m.deed, 2, m.at_, []⟩ else ⟨m.deed, 3, t0, []⟩
    (d.told, { c with deeds := putD c.deeds d, M := if m.yes = true then layC c.hor m.at_ c.M ws else c.M })
  match findD c.deeds m.deed with
  | some d => if d.state ≠ 1 then (d.told, c) else if m.deed = 0 then (bad 1, c) else fin d.ws d.at_
  | none => if m.deed = 0 then (bad 1, c) else if m.yes = true then (bad 6, c) else if 1024 ≤ c.deeds.length then (bad 4, c) else fin [] t0
noncomputable def cutCl (c : Cl) (m : Cmd) : Rep × Cl :=
  if ¬ tmR m.at_ then (bad 1, c) else if ¬ c.safe.lt m.at_ then (⟨0, 0, 0, c.safe⟩, c) else if c.closed.lt m.at_ then (bad 101, c) else
  if waits c.deeds m.at_ = true then (bad 102, c) else if c.pins.any (fun p => decide (p.at_.lt m.at_)) = true then (bad 3, c) else
  (⟨0, 0, 0, m.at_⟩, { c with safe := m.at_, M := cutL c.M m.at_ })
/-- up to when a pin lasts -/
def lasts (c : Cl) (m : Cmd) : Int := match c.pins.find? fun p => decide (p.id = m.id) with
  | some p => max p.until_ (c.ticks + m.n)
  | none => max 0 (c.ticks + m.n)
noncomputable def pinC (c : Cl) (m : Cmd) : Rep × Cl :=
  if m.id < 0 ∨ 16 ≤ m.id ∨ ¬ tmR m.at_ ∨ m.n < 1 ∨ 1048576 < m.n then (bad 1, c) else if m.at_.lt c.safe then (bad 100, c) else
  if (c.pins.any fun p => decide (p.id = m.id ∧ p.at_ ≠ m.at_)) = true then (bad 7, c) else
  (⟨0, 0, 0, m.at_⟩, { c with pins := (c.pins.filter fun p => decide (p.id ≠ m.id)) ++ [⟨m.id, m.at_, lasts c m⟩] })
noncomputable def doC (c : Cl) (m : Cmd) : Rep × Cl :=
  if m.kind = 1 then beginC c m else if m.kind = 2 then decideC c m else if m.kind = 3 then prepareC c m else if m.kind = 4 then resolveC c m else
  if m.kind = 5 then (if ¬ tmR m.at_ then (bad 1, c) else (⟨0, 0, 0, mostT c.closed (lastT m.at_)⟩, { c with closed := mostT c.closed (lastT m.at_) })) else
  if m.kind = 6 then cutCl c m else
  if m.kind = 7 then (if m.n < 0 ∨ 4611686018427387904 < m.n then (bad 1, c) else (bad 0, { c with hor := max c.hor m.n, M := retL c.M (max c.hor m.n) })) else
  if m.kind = 8 then pinC c m else
  if m.kind = 9 then (bad 0, { c with ticks := c.ticks + 1, pins := c.pins.filter fun p => decide (c.ticks + 1 < p.until_) }) else (bad 1, c)
end
end Go.Cx
set_option linter.unusedVariables false
set_option linter.unusedSimpArgs false
namespace Go.Cx
open Go.Sx Go.Ix Go.Proofs.YtbaflgddpciadaaGreat
/-! ### stamps -/
theorem mostT_ge (a b : Tm) : ¬ (mostT a b).lt a := by
  unfold mostT
  by_cases h : a.lt b
  · rw [if_pos h]; exact Tm.asymm h
  · rw [if_neg h]; exact Tm.irr a
theorem Tm.lt_le {a b c : Tm} (h1 : a.lt b) (h2 : ¬ c.lt b) : a.lt c := by unfold Tm.lt at *; omega
theorem Tm.le_lt {a b c : Tm} (h1 : ¬ b.lt a) (h2 : b.lt c) : a.lt c := by unfold Tm.lt at *; omega
/-- the numbers of a stamp of the program -/
def U32 (t : Tm) : Prop := 0 ≤ t.tick ∧ t.tick ≤ 4294967295 ∧ 0 ≤ t.mark ∧ t.mark ≤ 4294967295
def CmdOk (m : Cmd) : Prop := 0 ≤ m.deed ∧ m.deed ≤ 4294967295 ∧ U32 m.at_
theorem stampC_gt {c : Cl} {m : Cmd} {t : Tm} (h : stampC c m = some t) (hm : CmdOk m) (hd : m.deed ≠ 0) : c.closed.lt t ∧ t.mark = m.deed ∧ ¬ t.lt ⟨m.at_.wall, m.at_.tick, m.deed⟩ := by
  obtain ⟨h1, h2, h3⟩ := hm
  unfold stampC at h
  split at h
  · rename_i hc
    injection h with h
    subst h
    refine ⟨?_, rfl, Tm.irr _⟩
    unfold Tm.lt at hc ⊢
    simp only at hc ⊢
    omega
  · rename_i hc
    obtain ⟨n, hn, rfl⟩ := Option.map_eq_some_iff.1 h
    unfold nextT at hn
    unfold Tm.lt at hc
    simp only at hc
    split at hn
    · injection hn with hn; subst hn
      refine ⟨.inr ⟨rfl, .inl (by simp only; omega)⟩, rfl, ?_⟩
      unfold Tm.lt
      simp only
      omega
    · split at hn
      · injection hn with hn
        subst hn
        have := h3
        unfold U32 at this
        refine ⟨.inl (by simp only; omega), rfl, ?_⟩
        unfold Tm.lt
        simp only
        omega
      · cases hn
/-! ### deeds -/
def RiseD (D : List Dd) : Prop := D.Pairwise fun a b => a.id < b.id
theorem putD_mem {D : List Dd} {d x : Dd} : x ∈ putD D d ↔ x = d ∨ (x ∈ D ∧ x.id ≠ d.id) := by
  unfold putD
  rw [List.mem_append, List.mem_cons, List.mem_filter, List.mem_filter]
  simp only [decide_eq_true_eq]
  constructor
  · rintro (⟨h, h1⟩ | rfl | ⟨h, h1⟩)
    · exact .inr ⟨h, by omega⟩
    · exact .inl rfl
    · exact .inr ⟨h, by omega⟩
  · rintro (rfl | ⟨h, h1⟩)
    · exact .inr (.inl rfl)
    · by_cases h2 : x.id < d.id
      · exact .inl ⟨h, h2⟩
      · exact .inr (.inr ⟨h, by omega⟩)
theorem putD_rise {D : List Dd} (h : RiseD D) (d : Dd) : RiseD (putD D d) := by
  unfold putD RiseD
  rw [List.pairwise_append]
  refine ⟨List.Pairwise.sublist List.filter_sublist h, ?_, ?_⟩
  · rw [List.pairwise_cons]
    exact ⟨fun y hy => by simpa using (List.mem_filter.1 hy).2, List.Pairwise.sublist List.filter_sublist h⟩
  · intro a ha b hb
    have h1 : a.id < d.id := by simpa using (List.mem_filter.1 ha).2
    rcases List.mem_cons.1 hb with rfl | hb
    · exact h1
    · have h2 : d.id < b.id := by simpa using (List.mem_filter.1 hb).2
      omega
theorem findD_some {D : List Dd} {d : Int} {x : Dd} (h : findD D d = some x) : x ∈ D ∧ x.id = d := ⟨List.mem_of_find?_eq_some h, by simpa using List.find?_some h⟩
theorem findD_none {D : List Dd} {d : Int} (h : findD D d = none) : ∀ x ∈ D, x.id ≠ d := fun x hx => by simpa using List.find?_eq_none.1 h x hx
theorem rise_same {D : List Dd} (h : RiseD D) {x y : Dd} (hx : x ∈ D) (hy : y ∈ D) (he : x.id = y.id) : x = y := by
  obtain ⟨i, hi, rfl⟩ := List.getElem_of_mem hx
  obtain ⟨j, hj, rfl⟩ := List.getElem_of_mem hy
  have hp := List.pairwise_iff_getElem.1 h
  rcases Nat.lt_trichotomy i j with h1 | h1 | h1
  · have := hp i j hi hj h1; omega
  · subst h1; rfl
  · have := hp j i hj hi h1; omega
/-- the sum of two parts and what stands between -/
theorem sum_split {D : List Dd} {d : Int} (f : Dd → Nat) : (D.map f).sum = ((D.filter fun x => decide (x.id < d)).map f).sum + ((D.filter fun x => decide (d < x.id)).map f).sum + ((D.filter fun x => decide (x.id = d)).map f).sum := by
  induction D with
  | nil => rfl
  | cons x D ih =>
    rcases Int.lt_trichotomy x.id d with h | h | h
    · have h1 : ¬ d < x.id := by omega
      have h2 : x.id ≠ d := by omega
      simp [h, h1, h2, ih]; omega
    · subst h
      simp [ih]; omega
    · have h1 : ¬ x.id < d := by omega
      have h2 : x.id ≠ d := by omega
      simp [h, h1, h2, ih]; omega
theorem same_filter {D : List Dd} (h : RiseD D) (d : Int) : D.filter (fun x => decide (x.id = d)) = (findD D d).toList := by
  induction D with
  | nil => rfl
  | cons x D ih =>
    obtain ⟨h1, h2⟩ := List.pairwise_cons.1 h
    by_cases e : x.id = d
    · subst e
      have hn : D.filter (fun y => decide (y.id = x.id)) = [] := List.filter_eq_nil_iff.2 (fun y hy => by have := h1 y hy; simp; omega)
      simp [findD, hn]
    · have ih' := ih h2
      unfold findD at ih' ⊢
      simp [e, ih']
/-- putting a deed that is new, or one that is there -/
theorem putD_sum_new {D : List Dd} (h : RiseD D) {d : Dd} (hn : findD D d.id = none) (f : Dd → Nat) : ((putD D d).map f).sum = (D.map f).sum + f d := by
  have hs := sum_split (D := D) (d := d.id) f
  rw [same_filter h, hn] at hs
  unfold putD
  simp at hs ⊢
  omega
theorem putD_sum_old {D : List Dd} (h : RiseD D) {d x : Dd} (hn : findD D d.id = some x) (f : Dd → Nat) : ((putD D d).map f).sum + f x = (D.map f).sum + f d := by
  have hs := sum_split (D := D) (d := d.id) f
  rw [same_filter h, hn] at hs
  unfold putD
  simp at hs ⊢
  omega
theorem len_sum (D : List Dd) : D.length = (D.map fun _ => 1).sum := by induction D with
  | nil => rfl
  | cons x D ih => simp; omega
theorem putD_len_new {D : List Dd} (h : RiseD D) {d : Dd} (hn : findD D d.id = none) : (putD D d).length = D.length + 1 := by
  rw [len_sum, len_sum D, putD_sum_new h hn]
theorem putD_len_old {D : List Dd} (h : RiseD D) {d x : Dd} (hn : findD D d.id = some x) : (putD D d).length = D.length := by
  have := putD_sum_old h hn (fun _ => 1)
  rw [len_sum, len_sum D]; omega
end Go.Cx
set_option linter.unusedVariables false
set_option linter.unusedSimpArgs false
namespace Go.Cx
open Go.Sx Go.Ix Go.Proofs.YtbaflgddpciadaaGreat
def StateOk (d : Dd) : Prop := (d.state = 1 ∧ Batch d.ws) ∨ ((d.state = 2 ∨ d.state = 3) ∧ d.ws = [])
structure CInv (c : Cl) : Prop where
  cl : tmR c.closed ∧ U32 c.closed
  sf : tmR c.safe ∧ U32 c.safe
  ok : StoreOk ltS c.M
  full : lenL c.M + heldD c.deeds ≤ 65536
  rise : RiseD c.deeds
  deed : ∀ d ∈ c.deeds, (1 ≤ d.id ∧ d.id ≤ 4294967295) ∧ StateOk d ∧ U32 d.at_
  ndeed : c.deeds.length ≤ 1024
  nbook : c.book.length ≤ 1024
  ids : 0 ≤ c.id ∧ c.id < 4
  entry : ∀ (i : Nat) x, c.book[i]? = some x → x.deed = i * 4 + c.id + 1 ∧ Token x.token ∧ Batch x.ws ∧ (x.state = 1 ∨ x.state = 2 ∨ x.state = 3) ∧ U32 x.at_
  tokens : c.book.Pairwise fun a b => a.token ≠ b.token
  hor : 0 ≤ c.hor ∧ c.hor ≤ 4611686018427387904
  pins : c.pins.Pairwise fun a b => a.id ≠ b.id
  pin : ∀ p ∈ c.pins, (0 ≤ p.id ∧ p.id < 16) ∧ ¬ p.at_.lt c.safe ∧ (tmR p.at_ ∧ U32 p.at_) ∧ c.ticks < p.until_ ∧ p.until_ ≤ c.ticks + 1048576
  ticks : 0 ≤ c.ticks
theorem u32_t0 : U32 t0 := by unfold U32 t0; simp
theorem new_inv (id : Int) (h : 0 ≤ id ∧ id < 4) : CInv (newC id) where
  cl := ⟨by unfold tmR; simp [newC, t0], u32_t0⟩
  sf := ⟨by unfold tmR; simp [newC, t0], u32_t0⟩
  ok := empty_ok
  full := by simp [newC, heldD, lenL]
  rise := List.Pairwise.nil
  deed := fun d hd => by cases hd
  ndeed := by simp [newC]
  nbook := by simp [newC]
  ids := h
  entry := fun i x hx => by simp [newC] at hx
  tokens := List.Pairwise.nil
  hor := by simp [newC]
  pins := List.Pairwise.nil
  pin := fun p hp => by cases hp
  ticks := by simp [newC]
theorem begin_inv {c : Cl} (h : CInv c) (m : Cmd) : CInv (beginC c m).2 := by
  unfold beginC
  split
  · exact h
  rename_i hm
  have hm : Token m.token ∧ Batch m.ws := by simpa using hm
  split
  · split <;> exact h
  rename_i hf
  split
  · exact h
  rename_i hl
  refine { h with nbook := ?_, entry := ?_, tokens := ?_ }
  · simp only [List.length_append, List.length_cons, List.length_nil]; omega
  · intro i x hx
    simp only at hx
    rw [List.getElem?_append] at hx
    split at hx
    · exact h.entry i x hx
    · rename_i hi
      have hi0 : i = c.book.length := by
        have := (List.getElem?_eq_some_iff.1 hx).1
        simp at this
        omega
      subst hi0
      simp at hx
      subst hx
      exact ⟨rfl, hm.1, hm.2, .inl rfl, u32_t0⟩
  · simp only
    rw [List.pairwise_append]
    refine ⟨h.tokens, by simp, fun a ha b hb => ?_⟩
    rw [List.mem_singleton.1 hb]
    have := List.find?_eq_none.1 hf a ha
    simpa using this
theorem decide_inv {c : Cl} (h : CInv c) (m : Cmd) (hm : CmdOk m) : CInv (decideC c m).2 := by
  unfold decideC
  split
  · exact h
  split
  · exact h
  split
  · exact h
  have key : ∀ y : En, (if y.deed = m.deed then y.decide_ m else y).token = y.token ∧ (if y.deed = m.deed then y.decide_ m else y).deed = y.deed ∧ (if y.deed = m.deed then y.decide_ m else y).ws = y.ws ∧
      ((y.state = 1 ∨ y.state = 2 ∨ y.state = 3) → ((if y.deed = m.deed then y.decide_ m else y).state = 1 ∨ (if y.deed = m.deed then y.decide_ m else y).state = 2 ∨ (if y.deed = m.deed then y.decide_ m else y).state = 3)) ∧
      (U32 y.at_ → U32 (if y.deed = m.deed then y.decide_ m else y).at_) := by
    intro y
    split
    · unfold En.decide_
      split
      · exact ⟨rfl, rfl, rfl, fun _ => .inr (.inl rfl), fun _ => hm.2.2⟩
      · exact ⟨rfl, rfl, rfl, fun _ => .inr (.inr rfl), fun h => h⟩
    · exact ⟨rfl, rfl, rfl, fun h => h, fun h => h⟩
  refine { h with nbook := ?_, entry := ?_, tokens := ?_ }
  · simp only [List.length_map]; exact h.nbook
  · intro i x hx
    simp only [List.getElem?_map, Option.map_eq_some_iff] at hx
    obtain ⟨y, hy, rfl⟩ := hx
    obtain ⟨e1, e2, e3, e4, e5⟩ := h.entry i y hy
    obtain ⟨k1, k2, k3, k4, k5⟩ := key y
    rw [k1, k2, k3]
    exact ⟨e1, e2, e3, k4 e4, k5 e5⟩
  · simp only
    rw [List.pairwise_map]
    exact h.tokens.imp (fun {a b} hab => by rw [(key a).1, (key b).1]; exact hab)
theorem stampC_u32 {c : Cl} {m : Cmd} {t : Tm} (h : stampC c m = some t) (hc : U32 c.closed) (hm : CmdOk m) : U32 t := by
  obtain ⟨h1, h2, h3⟩ := hm
  unfold U32 at *
  unfold stampC at h
  split at h
  · injection h with h; subst h; simp only; omega
  · obtain ⟨n, hn, rfl⟩ := Option.map_eq_some_iff.1 h
    unfold nextT at hn
    split at hn
    · injection hn with hn; subst hn; simp only; omega
    · split at hn
      · injection hn with hn; subst hn; simp only; omega
      · cases hn
theorem prepare_inv {c : Cl} (h : CInv c) (m : Cmd) (hm : CmdOk m) : CInv (prepareC c m).2 := by
  unfold prepareC
  split
  · exact h
  rename_i hf
  split
  · exact h
  rename_i hb
  split
  · exact h
  rename_i hl
  split
  · exact h
  rename_i t ht
  have hb : m.deed ≠ 0 ∧ Batch m.ws ∧ tmR m.at_ := by
    refine ⟨fun e => hb (.inl e), Classical.byContradiction fun e => hb (.inr (.inl e)), Classical.byContradiction fun e => hb (.inr (.inr e))⟩
  have hl1 : ¬ 1024 ≤ c.deeds.length := fun e => hl (.inl e)
  have hl2 : ¬ 65536 < lenL c.M + heldD c.deeds + m.ws.length := fun e => hl (.inr e)
  refine { h with full := ?_, rise := putD_rise h.rise _, deed := ?_, ndeed := ?_ }
  · have := putD_sum_new (d := ⟨m.deed, 1, t, m.ws⟩) h.rise hf (fun x => x.ws.length)
    simp only at this ⊢
    unfold heldD at *
    omega
  · intro d hd
    rcases putD_mem.1 hd with rfl | ⟨hd, -⟩
    · exact ⟨⟨by have := hm.1; have := hb.1; simp only; omega, hm.2.1⟩, .inl ⟨rfl, hb.2.1⟩, stampC_u32 ht h.cl.2 hm⟩
    · exact h.deed d hd
  · have := putD_len_new (d := ⟨m.deed, 1, t, m.ws⟩) h.rise hf
    simp only at this ⊢
    omega
theorem putP_ok {L : Its} (h : StoreOk ltS L) (p : Wp) (t : Tm) : StoreOk ltS (putP L p t).2 := by
  unfold putP
  split
  · exact h
  split
  · exact h
  exact putL_ok line_sets h _ _ _
theorem putP_len {L : Its} (h : StoreOk ltS L) (p : Wp) (t : Tm) : lenL (putP L p t).2 ≤ lenL L + 1 := by
  unfold putP
  split
  · simp
  split
  · simp
  by_cases h0 : (putL ltS L p.st p.t ⟨t, p.k, p.n, p.x⟩).1 = 0
  · rw [putL_len line_sets h h0]; exact Nat.le_refl _
  · have : (putL ltS L p.st p.t ⟨t, p.k, p.n, p.x⟩).2 = L := by
      unfold putL at h0 ⊢
      split
      · rfl
      · rename_i h1; rw [if_neg h1] at h0; exact absurd rfl h0
    rw [this]; exact Nat.le_succ _
theorem layC_ok (hor : Int) (t : Tm) : ∀ (ws : List Wp) {L : Its}, StoreOk ltS L → StoreOk ltS (layC hor t L ws) ∧ lenL (layC hor t L ws) ≤ lenL L + ws.length
  | [], L, h => ⟨h, by simp [layC]⟩
  | w :: ws, L, h => by
    have e : layC hor t L (w :: ws) = layC hor t (if hor ≤ w.t then (putP L w t).2 else L) ws := rfl
    rw [e]
    split
    · obtain ⟨h1, h2⟩ := layC_ok hor t ws (putP_ok h w t)
      have := putP_len h w t
      exact ⟨h1, by simp only [List.length_cons]; omega⟩
    · obtain ⟨h1, h2⟩ := layC_ok hor t ws h
      exact ⟨h1, by simp only [List.length_cons]; omega⟩
theorem resolve_inv {c : Cl} (h : CInv c) (m : Cmd) (hm : CmdOk m) : CInv (resolveC c m).2 := by
  have fin : ∀ (ws : List Wp) (at_ : Tm) (hd : m.deed ≠ 0) (hw : (findD c.deeds m.deed = none ∧ ws = [] ∧ c.deeds.length < 1024) ∨ ∃ d, findD c.deeds m.deed = some d ∧ d.ws = ws) (yes : Bool),
      CInv { c with deeds := putD c.deeds (if yes = true then ⟨m.deed, 2, m.at_, []⟩ else ⟨m.deed, 3, t0, []⟩), M := if yes = true then layC c.hor m.at_ c.M ws else c.M } := by
    intro ws at_ hd hw yes
    obtain ⟨D, hD⟩ : ∃ D : Dd, (if yes = true then (⟨m.deed, 2, m.at_, []⟩ : Dd) else ⟨m.deed, 3, t0, []⟩) = D := ⟨_, rfl⟩
    rw [hD]
    have hid : D.id = m.deed := by rw [← hD]; split <;> rfl
    have hws : D.ws = [] := by rw [← hD]; split <;> rfl
    have hst : StateOk D := .inr ⟨by rw [← hD]; split; exact .inl rfl; exact .inr rfl, hws⟩
    have hu : U32 D.at_ := by rw [← hD]; split; exact hm.2.2; exact u32_t0
    obtain ⟨l1, l2⟩ := layC_ok c.hor m.at_ ws h.ok
    refine { h with ok := ?_, full := ?_, rise := putD_rise h.rise _, deed := ?_, ndeed := ?_ }
    · simp only; split
      · exact l1
      · exact h.ok
    · have hl : lenL (if yes = true then layC c.hor m.at_ c.M ws else c.M) ≤ lenL c.M + ws.length := by
        split
        · exact l2
        · omega
      have hfull := h.full
      unfold heldD at *
      simp only
      rcases hw with ⟨hn, e, -⟩ | ⟨d, hs, e⟩
      · have := putD_sum_new (d := D) h.rise (by rw [hid]; exact hn) (fun x => x.ws.length)
        simp only [hws, List.length_nil] at this
        subst e
        rw [List.length_nil] at hl
        omega
      · have := putD_sum_old (d := D) h.rise (by rw [hid]; exact hs) (fun x => x.ws.length)
        simp only [hws, List.length_nil, e] at this
        omega
    · intro d hd'
      rcases putD_mem.1 hd' with rfl | ⟨hd', -⟩
      · exact ⟨⟨by have := hm.1; omega, by rw [hid]; exact hm.2.1⟩, hst, hu⟩
      · exact h.deed d hd'
    · simp only
      rcases hw with ⟨hn, -, hl⟩ | ⟨d, hs, -⟩
      · rw [putD_len_new h.rise (by rw [hid]; exact hn)]; omega
      · rw [putD_len_old h.rise (by rw [hid]; exact hs)]; exact h.ndeed
  unfold resolveC
  simp only
  split
  · rename_i d hf
    split
    · exact h
    split
    · exact h
    rename_i hd
    split
    · exact h
    · exact fin d.ws d.at_ hd (.inr ⟨d, hf, rfl⟩) m.yes
  · rename_i hf
    split
    · exact h
    rename_i hd
    split
    · exact h
    split
    · exact h
    rename_i hl
    split
    · exact h
    · have := fin [] t0 hd (.inl ⟨hf, rfl, by omega⟩) false
      simpa using this
theorem cutL_ok {L : Its} (h : StoreOk ltS L) (t : Tm) : StoreOk ltS (cutL L t) :=
  ⟨cutL_rise h.rise t, fun x hx => by obtain ⟨y, hy, rfl, -⟩ := cutL_mem.1 hx; exact cutC_chain (h.chain y hy) t, fun x hx => by obtain ⟨y, hy, rfl, h2⟩ := cutL_mem.1 hx; exact h2⟩
theorem retL_ok {L : Its} (h : StoreOk ltS L) (t : Int) : StoreOk ltS (retL L t) :=
  ⟨retL_rise h.rise t, fun x hx => h.chain x (List.mem_filter.1 hx).1, fun x hx => h.full x (List.mem_filter.1 hx).1⟩
theorem retL_len (L : Its) (t : Int) : lenL (retL L t) ≤ lenL L := by
  induction L with
  | nil => simp [retL]
  | cons x L ih =>
    unfold retL at ih ⊢
    rw [List.filter_cons]
    split
    · rw [lenL_cons, lenL_cons]; omega
    · rw [lenL_cons]; omega
theorem cut_inv {c : Cl} (h : CInv c) (m : Cmd) (hm : CmdOk m) : CInv (cutCl c m).2 := by
  unfold cutCl
  split
  · exact h
  rename_i hr
  split
  · exact h
  rename_i hs
  split
  · exact h
  split
  · exact h
  split
  · exact h
  rename_i hp
  have hr : tmR m.at_ := Classical.byContradiction hr
  refine { h with sf := ⟨hr, hm.2.2⟩, ok := cutL_ok h.ok _, full := ?_, pin := ?_ }
  · have := lenL_cut c.M m.at_
    have := h.full
    simp only
    omega
  · intro p hp'
    obtain ⟨h1, h2, h3, h4⟩ := h.pin p hp'
    refine ⟨h1, fun e => hp ?_, h3, h4⟩
    rw [List.any_eq_true]
    exact ⟨p, hp', by simpa using e⟩
theorem lasts_in {c : Cl} (h : CInv c) {m : Cmd} (h1 : 1 ≤ m.n) (h2 : m.n ≤ 1048576) : c.ticks + m.n ≤ lasts c m ∧ lasts c m ≤ c.ticks + 1048576 := by
  have h0 := h.ticks
  unfold lasts
  split
  · rename_i p hp
    have := h.pin p (List.mem_of_find?_eq_some hp)
    omega
  · omega
theorem pin_inv {c : Cl} (h : CInv c) (m : Cmd) (hm : CmdOk m) : CInv (pinC c m).2 := by
  unfold pinC
  split
  · exact h
  rename_i hb
  split
  · exact h
  rename_i hs
  split
  · exact h
  have h1 : ¬ m.id < 0 := fun e => hb (.inl e)
  have h2 : ¬ 16 ≤ m.id := fun e => hb (.inr (.inl e))
  have h3 : tmR m.at_ := Classical.byContradiction fun e => hb (.inr (.inr (.inl e)))
  have h4 : ¬ m.n < 1 := fun e => hb (.inr (.inr (.inr (.inl e))))
  have h5 : ¬ 1048576 < m.n := fun e => hb (.inr (.inr (.inr (.inr e))))
  obtain ⟨l1, l2⟩ := lasts_in h (m := m) (by omega) (by omega)
  refine { h with pins := ?_, pin := ?_ }
  · simp only
    rw [List.pairwise_append]
    refine ⟨List.Pairwise.sublist List.filter_sublist h.pins, by simp, fun a ha b hb => ?_⟩
    rw [List.mem_singleton.1 hb]
    simpa using (List.mem_filter.1 ha).2
  · intro p hp
    simp only at hp ⊢
    rcases List.mem_append.1 hp with hp | hp
    · exact h.pin p (List.mem_filter.1 hp).1
    · rw [List.mem_singleton.1 hp]
      exact ⟨by simp only; omega, hs, ⟨h3, hm.2.2⟩, by simp only; omega, by simp only; omega⟩
theorem mostT_or (a b : Tm) : mostT a b = a ∨ mostT a b = b := by
  unfold mostT
  split
  · exact .inr rfl
  · exact .inl rfl
theorem do_inv {c : Cl} (h : CInv c) (m : Cmd) (hm : CmdOk m) : CInv (doC c m).2 := by
  unfold doC
  split
  · exact begin_inv h m
  split
  · exact decide_inv h m hm
  split
  · exact prepare_inv h m hm
  split
  · exact resolve_inv h m hm
  split
  · split
    · exact h
    rename_i hr
    refine { h with cl := ?_ }
    have hr : tmR m.at_ := Classical.byContradiction hr
    have hu := hm.2.2
    rcases mostT_or c.closed (lastT m.at_) with e | e
    · simp only [e]; exact h.cl
    · simp only [e]
      unfold U32 at hu
      exact ⟨hr, by unfold U32 lastT; simp only; omega⟩
  split
  · exact cut_inv h m hm
  split
  · split
    · exact h
    rename_i hn
    have h1 : ¬ m.n < 0 := fun e => hn (.inl e)
    have h2 : ¬ 4611686018427387904 < m.n := fun e => hn (.inr e)
    have h3 := h.hor
    refine { h with hor := ?_, ok := retL_ok h.ok _, full := ?_ }
    · have q1 := retL_len c.M (max c.hor m.n)
      have q2 := h.full
      exact Nat.le_trans (Nat.add_le_add_right q1 _) q2
    · simp only; omega
  split
  · exact pin_inv h m hm
  split
  · refine { h with pins := ?_, pin := ?_, ticks := ?_ }
    · exact List.Pairwise.sublist List.filter_sublist h.pins
    · intro p hp
      simp only at hp ⊢
      obtain ⟨hp1, hp2⟩ := List.mem_filter.1 hp
      obtain ⟨g1, g2, g3, g4, g5⟩ := h.pin p hp1
      have : c.ticks + 1 < p.until_ := by simpa using hp2
      exact ⟨g1, g2, g3, this, by omega⟩
    · have := h.ticks
      simp only; omega
  · exact h
end Go.Cx
set_option linter.unusedVariables false
set_option linter.unusedSimpArgs false
namespace Go.Cx
open Go.Sx Go.Ix Go.Proofs.YtbaflgddpciadaaGreat
/-! ### what a command leaves as it is -/
theorem begin_frame (c : Cl) (m : Cmd) : ∃ b, (beginC c m).2 = { c with book := b } := by
  unfold beginC
  split
  · exact ⟨_, rfl⟩
  split
  · split <;> exact ⟨_, rfl⟩
  split <;> exact ⟨_, rfl⟩
theorem decide_frame (c : Cl) (m : Cmd) : ∃ b, (decideC c m).2 = { c with book := b } := by
  unfold decideC
  split
  · exact ⟨_, rfl⟩
  split
  · exact ⟨_, rfl⟩
  split <;> exact ⟨_, rfl⟩
theorem prepare_frame (c : Cl) (m : Cmd) : ∃ d, (prepareC c m).2 = { c with deeds := d } := by
  unfold prepareC
  split
  · exact ⟨_, rfl⟩
  split
  · exact ⟨_, rfl⟩
  split
  · exact ⟨_, rfl⟩
  split <;> exact ⟨_, rfl⟩
theorem resolve_frame (c : Cl) (m : Cmd) : ∃ d M, (resolveC c m).2 = { c with deeds := d, M := M } := by
  unfold resolveC
  simp only
  split
  · split
    · exact ⟨_, _, rfl⟩
    split
    · exact ⟨_, _, rfl⟩
    split <;> exact ⟨_, _, rfl⟩
  · split
    · exact ⟨_, _, rfl⟩
    split
    · exact ⟨_, _, rfl⟩
    split
    · exact ⟨_, _, rfl⟩
    split <;> exact ⟨_, _, rfl⟩
/-! ### CellRises -/
theorem cut_rises (c : Cl) (m : Cmd) : (cutCl c m).2.closed = c.closed ∧ ¬ (cutCl c m).2.safe.lt c.safe ∧ (cutCl c m).2.ticks = c.ticks ∧ (cutCl c m).2.pins = c.pins := by
  unfold cutCl
  split
  · exact ⟨rfl, Tm.irr _, rfl, rfl⟩
  split
  · exact ⟨rfl, Tm.irr _, rfl, rfl⟩
  rename_i h
  split
  · exact ⟨rfl, Tm.irr _, rfl, rfl⟩
  split
  · exact ⟨rfl, Tm.irr _, rfl, rfl⟩
  split
  · exact ⟨rfl, Tm.irr _, rfl, rfl⟩
  exact ⟨rfl, Tm.asymm (Classical.byContradiction h), rfl, rfl⟩
theorem pin_rises (c : Cl) (m : Cmd) : (pinC c m).2.closed = c.closed ∧ (pinC c m).2.safe = c.safe ∧ (pinC c m).2.ticks = c.ticks := by
  unfold pinC
  split
  · exact ⟨rfl, rfl, rfl⟩
  split
  · exact ⟨rfl, rfl, rfl⟩
  split <;> exact ⟨rfl, rfl, rfl⟩
theorem do_rises (c : Cl) (m : Cmd) : ¬ (doC c m).2.closed.lt c.closed ∧ ¬ (doC c m).2.safe.lt c.safe ∧ c.ticks ≤ (doC c m).2.ticks ∧ (doC c m).2.ticks ≤ c.ticks + 1 := by
  have hs : ∀ c' : Cl, c'.closed = c.closed → ¬ c'.safe.lt c.safe → c'.ticks = c.ticks → ¬ c'.closed.lt c.closed ∧ ¬ c'.safe.lt c.safe ∧ c.ticks ≤ c'.ticks ∧ c'.ticks ≤ c.ticks + 1 := fun c' h1 h2 h3 => ⟨by rw [h1]; exact Tm.irr _, h2, by omega, by omega⟩
  unfold doC
  split
  · obtain ⟨b, e⟩ := begin_frame c m; rw [e]; exact hs _ rfl (Tm.irr _) rfl
  split
  · obtain ⟨b, e⟩ := decide_frame c m; rw [e]; exact hs _ rfl (Tm.irr _) rfl
  split
  · obtain ⟨b, e⟩ := prepare_frame c m; rw [e]; exact hs _ rfl (Tm.irr _) rfl
  split
  · obtain ⟨b, M, e⟩ := resolve_frame c m; rw [e]; exact hs _ rfl (Tm.irr _) rfl
  split
  · split
    · exact hs _ rfl (Tm.irr _) rfl
    · exact ⟨mostT_ge _ _, Tm.irr _, Int.le_refl _, by simp only; omega⟩
  split
  · obtain ⟨h1, h2, h3, -⟩ := cut_rises c m; exact hs _ h1 h2 h3
  split
  · split
    · exact hs _ rfl (Tm.irr _) rfl
    · exact hs _ rfl (Tm.irr _) rfl
  split
  · obtain ⟨h1, h2, h3⟩ := pin_rises c m; exact hs _ h1 (by rw [h2]; exact Tm.irr _) h3
  split
  · exact ⟨Tm.irr _, Tm.irr _, by simp only; omega, Int.le_refl _⟩
  · exact hs _ rfl (Tm.irr _) rfl
/-- each pin that lasts is kept -/
def Pinned (c : Cl) (H : List (Tm × Int)) : Prop := ∀ p ∈ H, c.ticks < p.2 → ∃ q ∈ c.pins, q.at_ = p.1 ∧ p.2 ≤ q.until_
/-! ### CellBehind -/
end Go.Cx
set_option linter.unusedVariables false
set_option linter.unusedSimpArgs false
namespace Go.Cx
open Go.Sx Go.Ix Go.Proofs.YtbaflgddpciadaaGreat
/-! ### errors -/
/-! ### CellOnce -/
/-- what is decided stays -/
def Keeps (c c' : Cl) : Prop := (∀ x ∈ c.book, x.state ≠ 1 → x ∈ c'.book) ∧ (∀ x ∈ c.book, ∃ y ∈ c'.book, y.token = x.token ∧ y.deed = x.deed) ∧ (∀ x ∈ c.deeds, x.state ≠ 1 → x ∈ c'.deeds)
theorem entry_inj {c : Cl} (h : CInv c) {x y : En} (hx : x ∈ c.book) (hy : y ∈ c.book) (e : x.deed = y.deed) : x = y := by
  obtain ⟨i, hi⟩ := List.getElem?_of_mem hx
  obtain ⟨j, hj⟩ := List.getElem?_of_mem hy
  have h1 := (h.entry i x hi).1
  have h2 := (h.entry j y hj).1
  obtain rfl : i = j := by omega
  rw [hi] at hj
  injection hj
def DoKeeps (c : Cl) (m : Cmd) (z : Rep × Cl) : Prop := Keeps c z.2 ∧ (z.1.err = 0 → ((m.kind = 1 ∨ m.kind = 2) → ∃ x ∈ z.2.book, x.told = z.1 ∧ (m.kind = 1 → x.token = m.token)) ∧ ((m.kind = 3 ∨ m.kind = 4) → ∃ x ∈ z.2.deeds, x.told = z.1))
/-- what the law has noted -/
structure Noted (c : Cl) (token : ByteArray → Option Int) (fate part : Int → Option Rep) : Prop where
  token : ∀ s d, token s = some d → ∃ x ∈ c.book, x.token = s ∧ x.deed = d
  fate : ∀ d r, fate d = some r → ∃ x ∈ c.book, x.deed = d ∧ x.told = r ∧ x.state ≠ 1
  part : ∀ d r, part d = some r → ∃ x ∈ c.deeds, x.id = d ∧ x.told = r ∧ x.state ≠ 1
end Go.Cx
set_option linter.unusedVariables false
set_option linter.unusedSimpArgs false
namespace Go.Sx
theorem exists_split {σ : Type} (p : Item σ → Prop) : ∀ L : List (Item σ), ∃ k, (∀ y ∈ L.take k, p y) ∧ ∀ x, L[k]? = some x → ¬ p x
  | [] => ⟨0, by simp, by simp⟩
  | x :: L => by
    by_cases h : p x
    · obtain ⟨k, h1, h2⟩ := exists_split p L
      refine ⟨k + 1, fun y hy => ?_, fun y hy => h2 y (by simpa using hy)⟩
      rcases List.mem_cons.1 (by simpa using hy) with rfl | hy
      · exact h
      · exact h1 y hy
    · exact ⟨0, by simp, fun y hy => by simp at hy; rw [← hy]; exact h⟩
theorem upto_append (A B : List Ver) (u : Tm) : upto (A ++ B) u = upto A u + upto B u := by simp [upto]
theorem upto_le_place {l : List Ver} {u v : Tm} (h : u.lt v) : upto l u ≤ place l v := by
  unfold upto place
  induction l with
  | nil => simp
  | cons x l ih =>
    rw [List.filter_cons, List.filter_cons]
    by_cases h1 : u.lt x.at_
    · simp only [h1, not_true, decide_false, Bool.false_eq_true, if_false]
      split
      · simp only [List.length_cons]; omega
      · exact ih
    · have h2 : x.at_.lt v := by unfold Tm.lt at *; omega
      simp only [h1, h2, not_false_eq_true, decide_true, if_true, List.length_cons]
      omega
/-- a version laid behind a stamp changes nothing that is got there -/
theorem getC_put {l : List Ver} {v : Ver} {u : Tm} (h0 : (putC l v).1 = 0) (hu : u.lt v.at_) : getC (putC l v).2 u = getC l u := by
  have hp := place_le l v.at_
  have hq := upto_le_place (l := l) hu
  unfold putC at h0 ⊢
  by_cases h1 : ¬ verR v
  · rw [if_pos h1] at h0; cases h0
  rw [if_neg h1] at h0 ⊢
  by_cases h2 : has l v.at_ = true
  · rw [if_pos h2] at h0; cases h0
  rw [if_neg h2]
  simp only
  have hup : upto (l.take (place l v.at_) ++ v :: l.drop (place l v.at_)) u = upto l u := by
    have e : upto (v :: l.drop (place l v.at_)) u = upto (l.drop (place l v.at_)) u := by rw [upto_cons, if_pos hu, Nat.zero_add]
    rw [upto_append, e, ← upto_append, List.take_append_drop]
  unfold getC
  rw [hup]
  cases hn : upto l u with
  | zero => rfl
  | succ i =>
    simp only
    rw [List.getElem?_append_left (by rw [List.length_take]; omega), List.getElem?_take, if_pos (by omega)]
end Go.Sx
namespace Go.Cx
open Go.Sx Go.Ix Go.Proofs.YtbaflgddpciadaaGreat
theorem scanL_append (A B : Its) (p : List Pr → Bool) (a b : Int) (u : Tm) : scanL (A ++ B) p a b u = scanL A p a b u ++ scanL B p a b u := by simp [scanL, List.filterMap_append]
theorem tell_getC {s : List Pr} {t : Int} {l l' : List Ver} {u : Tm} (h : getC l u = getC l' u) (a b : Int) : tell (⟨s, t, l⟩ : Go.Sx.Item (List Pr)) a b u = tell ⟨s, t, l'⟩ a b u := by unfold tell; simp only [h]
theorem scan_cons (x : Go.Sx.Item (List Pr)) (B : Its) (p : List Pr → Bool) (a b : Int) (u : Tm) : scanL (x :: B) p a b u = (if p x.set = true then tell x a b u else none).toList ++ scanL B p a b u := by
  unfold scanL
  rw [List.filterMap_cons]
  cases (if p x.set = true then tell x a b u else none) <;> simp
/-- a write laid behind a stamp changes nothing that is told there -/
theorem scan_put {L : Its} (h : StoreOk ltS L) (w : Wp) {t u : Tm} (hu : u.lt t) (p : List Pr → Bool) (a b : Int) : scanL (putP L w t).2 p a b u = scanL L p a b u := by
  unfold putP
  split
  · rfl
  split
  · rfl
  obtain ⟨k, hk, hn⟩ := exists_split (fun x => x.Ahead ltS w.st w.t) L
  unfold putL
  split
  · rfl
  rename_i h0
  have h0 : (putC (atL L w.st w.t) ⟨t, w.k, w.n, w.x⟩).1 = 0 := Classical.byContradiction h0
  have hg := getC_put h0 (u := u) hu
  simp only
  by_cases hs : ∃ x, L[k]? = some x ∧ x.set = w.st ∧ x.time = w.t
  · obtain ⟨x, hx, e1, e2⟩ := hs
    obtain ⟨h1, h2⟩ := set_there line_sets h.rise hk hx e1 e2
    rw [h1] at hg
    rw [h2, h1]
    obtain ⟨hk', hxe⟩ := List.getElem?_eq_some_iff.1 hx
    have hL : L = L.take k ++ x :: L.drop (k + 1) := by rw [← hxe, ← List.drop_eq_getElem_cons hk', List.take_append_drop]
    conv => rhs; rw [hL]
    rw [scanL_append, scanL_append, scan_cons, scan_cons]
    obtain ⟨xs, xt, xl⟩ := x
    simp only at e1 e2 hg
    subst e1 e2
    rw [tell_getC hg]
  · obtain ⟨h1, h2⟩ := set_new line_sets h.rise hk hn (fun x hx e => hs ⟨x, hx, e.1, e.2⟩)
    rw [h1] at hg
    rw [h2, h1]
    have hL : scanL L p a b u = scanL (L.take k) p a b u ++ scanL (L.drop k) p a b u := by rw [← scanL_append, List.take_append_drop]
    rw [scanL_append, scan_cons, hL]
    rw [getC_nil] at hg
    have hT : tell (⟨w.st, w.t, (putC [] ⟨t, w.k, w.n, w.x⟩).2⟩ : Go.Sx.Item (List Pr)) a b u = none := by
      unfold tell
      simp only [hg]
      split <;> rfl
    rw [hT]
    split <;> rfl
theorem scan_lay (hor : Int) {t u : Tm} (hu : u.lt t) (p : List Pr → Bool) (a b : Int) : ∀ (ws : List Wp) {L : Its}, StoreOk ltS L → scanL (layC hor t L ws) p a b u = scanL L p a b u
  | [], L, _ => rfl
  | w :: ws, L, h => by
    have e : layC hor t L (w :: ws) = layC hor t (if hor ≤ w.t then (putP L w t).2 else L) ws := rfl
    rw [e]
    split
    · rw [scan_lay hor hu p a b ws (putP_ok h w t), scan_put h w hu]
    · exact scan_lay hor hu p a b ws h
/-- a read: whether its rules are right, what they say, its span, its stamp -/
structure Sn where
  ok : Bool
  p : List Pr → Bool
  fr : Int
  to_ : Int
  at_ : Tm
  pts : List (List Pr × Int × Ver)
/-- why a read is not answered -/
def readE (c : Cl) (ok : Bool) (fr to_ : Int) (t : Tm) : Int :=
  if ¬ tmR t ∨ ok = false ∨ fr < 0 ∨ to_ < fr then 1 else if t.lt c.safe ∨ fr < c.hor then 100 else if c.closed.lt t then 101 else if waits c.deeds t = true then 102 else 0
structure Fin (c : Cl) (most : Tm) (all : List Sn) : Prop where
  closed : ¬ c.closed.lt most
  deeds : ∀ d ∈ c.deeds, d.state = 1 → most.lt d.at_
  reads : ∀ s ∈ all, (tmR s.at_ ∧ s.ok = true ∧ 0 ≤ s.fr ∧ s.fr ≤ s.to_) ∧ ¬ most.lt s.at_ ∧ (¬ (s.at_.lt c.safe ∨ s.fr < c.hor) → scanL c.M s.p s.fr s.to_ s.at_ = s.pts)
theorem fin_new (id : Int) : Fin (newC id) t0 [] := ⟨Tm.irr _, fun d hd => (by cases hd), fun s hs => (by cases hs)⟩
/-- a read that is answered -/
theorem fin_read {c : Cl} {most : Tm} {all : List Sn} (h : Fin c most all) {s : Sn} (he : readE c s.ok s.fr s.to_ s.at_ = 0) (hp : s.pts = scanL c.M s.p s.fr s.to_ s.at_) :
    Fin c (if most.lt s.at_ then s.at_ else most) (all ++ [s]) := by
  unfold readE at he
  split at he
  · cases he
  rename_i h1
  split at he
  · cases he
  rename_i h2
  split at he
  · cases he
  rename_i h3
  split at he
  · cases he
  rename_i h4
  have hw : ∀ d ∈ c.deeds, d.state = 1 → s.at_.lt d.at_ := fun d hd hs => Classical.byContradiction fun hn => h4 (by
    unfold waits
    rw [List.any_eq_true]
    exact ⟨d, hd, by simpa using ⟨hs, hn⟩⟩)
  have hm : ∀ x : Tm, ¬ most.lt x → ¬ (if most.lt s.at_ then s.at_ else most).lt x := fun x hx => by
    split
    · rename_i hl; exact fun e => hx (Tm.trans hl e)
    · exact hx
  refine ⟨?_, fun d hd hs => ?_, fun r hr => ?_⟩
  · split
    · exact h3
    · exact h.closed
  · split
    · exact hw d hd hs
    · exact h.deeds d hd hs
  · rcases List.mem_append.1 hr with hr | hr
    · obtain ⟨a, b, d⟩ := h.reads r hr
      exact ⟨a, hm _ b, d⟩
    · rw [List.mem_singleton.1 hr]
      refine ⟨⟨Classical.byContradiction fun e => h1 (.inl e), by cases ho : s.ok with | true => rfl | false => exact absurd (.inr (.inl ho)) h1, ?_, ?_⟩, ?_, fun _ => hp.symm⟩
      · exact Int.not_lt.1 fun e => h1 (.inr (.inr (.inl e)))
      · exact Int.not_lt.1 fun e => h1 (.inr (.inr (.inr e)))
      · split
        · exact Tm.irr _
        · rename_i hn; exact fun e => hn e
/-- what is read again -/
theorem fin_again {c : Cl} {most : Tm} {all : List Sn} (h : Fin c most all) {s : Sn} (hs : s ∈ all) : readE c s.ok s.fr s.to_ s.at_ = 100 ∨ (readE c s.ok s.fr s.to_ s.at_ = 0 ∧ scanL c.M s.p s.fr s.to_ s.at_ = s.pts) := by
  obtain ⟨⟨h1, h2, h3, h4⟩, h5, h6⟩ := h.reads s hs
  unfold readE
  rw [if_neg (by rintro (e | e | e | e) <;> first | exact e h1 | (rw [h2] at e; cases e) | omega)]
  by_cases ho : s.at_.lt c.safe ∨ s.fr < c.hor
  · rw [if_pos ho]; exact .inl rfl
  rw [if_neg ho, if_neg (fun e => h.closed (Tm.lt_le e h5))]
  have hw : waits c.deeds s.at_ = false := by
    unfold waits
    rw [List.any_eq_false]
    intro d hd e
    have e : d.state = 1 ∧ ¬ s.at_.lt d.at_ := by simpa using e
    exact e.2 (Tm.le_lt h5 (h.deeds d hd e.1))
  rw [if_neg (by rw [hw]; simp)]
  exact .inr ⟨rfl, h6 ho⟩
theorem fin_same {c c' : Cl} {most : Tm} {all : List Sn} (h : Fin c most all) (h1 : c'.closed = c.closed) (h2 : c'.deeds = c.deeds) (h3 : c'.safe = c.safe) (h4 : c'.hor = c.hor) (h5 : c'.M = c.M) : Fin c' most all :=
  ⟨by rw [h1]; exact h.closed, by rw [h2]; exact h.deeds, by rw [h3, h4, h5]; exact h.reads⟩
theorem fin_prepare {c : Cl} {most : Tm} {all : List Sn} (h : Fin c most all) (m : Cmd) (hm : CmdOk m) : Fin (prepareC c m).2 most all ∧ ((prepareC c m).1.state = 1 → most.lt (prepareC c m).1.at_) := by
  unfold prepareC
  split
  · rename_i d hf
    exact ⟨h, fun e => h.deeds d (findD_some hf).1 e⟩
  split
  · exact ⟨h, fun e => by cases e⟩
  rename_i hb
  split
  · exact ⟨h, fun e => by cases e⟩
  split
  · exact ⟨h, fun e => by cases e⟩
  rename_i t ht
  have hl : most.lt t := Tm.le_lt h.closed (stampC_gt ht hm (fun e => hb (.inl e))).1
  refine ⟨⟨h.closed, fun d hd hs => ?_, h.reads⟩, fun _ => hl⟩
  rcases putD_mem.1 hd with rfl | ⟨hd, -⟩
  · exact hl
  · exact h.deeds d hd hs
theorem fin_resolve {c : Cl} (hc : CInv c) {most : Tm} {all : List Sn} (h : Fin c most all) (m : Cmd) : Fin (resolveC c m).2 most all := by
  unfold resolveC
  simp only
  split
  · rename_i d hf
    split
    · exact h
    rename_i hs
    have hs : d.state = 1 := Classical.byContradiction hs
    split
    · exact h
    split
    · exact h
    rename_i hy
    refine ⟨h.closed, fun x hx hxs => ?_, fun s hsm => ?_⟩
    · rcases putD_mem.1 hx with rfl | ⟨hx, -⟩
      · first | (split at hxs <;> simp at hxs; done) | (simp at hxs; done)
      · exact h.deeds x hx hxs
    · obtain ⟨h1, h2, h3⟩ := h.reads s hsm
      refine ⟨h1, h2, fun ho => ?_⟩
      simp only
      split
      · rename_i hyes
        have hl : s.at_.lt m.at_ := Tm.lt_le (Tm.le_lt h2 (h.deeds d (findD_some hf).1 hs)) (fun e => hy ⟨hyes, .inr e⟩)
        rw [scan_lay c.hor hl _ _ _ _ hc.ok]
        exact h3 ho
      · exact h3 ho
  · split
    · exact h
    split
    · exact h
    rename_i hyes
    split
    · exact h
    split
    · exact h
    refine ⟨h.closed, fun x hx hxs => ?_, fun s hsm => ?_⟩
    · rcases putD_mem.1 hx with rfl | ⟨hx, -⟩
      · first | (split at hxs <;> simp at hxs; done) | (simp at hxs; done)
      · exact h.deeds x hx hxs
    · obtain ⟨h1, h2, h3⟩ := h.reads s hsm
      refine ⟨h1, h2, fun ho => ?_⟩
      simp only [if_neg hyes]
      exact h3 ho
theorem fin_do {c : Cl} (hc : CInv c) {most : Tm} {all : List Sn} (h : Fin c most all) (m : Cmd) (hm : CmdOk m) : Fin (doC c m).2 most all ∧ (m.kind = 3 → (doC c m).1.state = 1 → most.lt (doC c m).1.at_) := by
  unfold doC
  split
  · obtain ⟨b, e⟩ := begin_frame c m; rw [e]; exact ⟨fin_same h rfl rfl rfl rfl rfl, fun e => by omega⟩
  split
  · obtain ⟨b, e⟩ := decide_frame c m; rw [e]; exact ⟨fin_same h rfl rfl rfl rfl rfl, fun e => by omega⟩
  split
  · exact ⟨(fin_prepare h m hm).1, fun _ => (fin_prepare h m hm).2⟩
  split
  · exact ⟨fin_resolve hc h m, fun e => by omega⟩
  split
  · refine ⟨?_, fun e => by omega⟩
    split
    · exact h
    · exact ⟨fun e => h.closed (Tm.le_lt (mostT_ge c.closed (lastT m.at_)) e), h.deeds, h.reads⟩
  split
  · refine ⟨?_, fun e => by omega⟩
    unfold cutCl
    split
    · exact h
    split
    · exact h
    rename_i hsafe
    split
    · exact h
    split
    · exact h
    split
    · exact h
    refine ⟨h.closed, h.deeds, fun s hs => ?_⟩
    obtain ⟨h1, h2, h3⟩ := h.reads s hs
    refine ⟨h1, h2, fun ho => ?_⟩
    simp only at ho ⊢
    have hsl : c.safe.lt m.at_ := Classical.byContradiction hsafe
    rw [scan_cut hc.ok.chain (fun e => ho (.inl e))]
    exact h3 (fun e => by
      rcases e with e | e
      · exact ho (.inl (Tm.trans e hsl))
      · exact ho (.inr e))
  split
  · refine ⟨?_, fun e => by omega⟩
    split
    · exact h
    refine ⟨h.closed, h.deeds, fun s hs => ?_⟩
    obtain ⟨h1, h2, h3⟩ := h.reads s hs
    refine ⟨h1, h2, fun ho => ?_⟩
    simp only at ho ⊢
    have hlo : ¬ s.fr < max c.hor m.n := fun e => ho (.inr e)
    rw [scan_ret, show max s.fr (max c.hor m.n) = s.fr by omega]
    exact h3 (fun e => by
      rcases e with e | e
      · exact ho (.inl e)
      · omega)
  split
  · refine ⟨?_, fun e => by omega⟩
    unfold pinC
    split
    · exact h
    split
    · exact h
    split
    · exact h
    exact fin_same h rfl rfl rfl rfl rfl
  split
  · exact ⟨fin_same h rfl rfl rfl rfl rfl, fun e => by omega⟩
  · exact ⟨h, fun e => by omega⟩
end Go.Cx
