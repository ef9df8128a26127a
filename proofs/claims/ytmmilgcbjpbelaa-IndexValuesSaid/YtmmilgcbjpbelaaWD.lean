/- An index in memory (1): what a step turns; the lists of numbers by names and values. -/
import Derived.Test.YtmmilgcbjpbelaaWA
namespace Go.Proofs.Ytmmilgcbjpbelaa
open Go.RowKit Go.Kt Go.Ix

/-! ### nothing that lay before has turned but what F names -/
structure Turn (F : Nat → Prop) (w w' : World) : Prop where
  os : w'.os = w.os
  tape : w'.tape = w.tape
  output : w'.output = w.output
  size : w.heap.size ≤ w'.heap.size
  block : ∀ k, k < w.heap.size → ¬ F k → w'.heap[k]? = w.heap[k]?
theorem Turn.refl (F : Nat → Prop) (w : World) : Turn F w w := ⟨rfl, rfl, rfl, Nat.le_refl _, fun _ _ _ => rfl⟩
theorem Turn.trans {F G : Nat → Prop} {a b c : World} (h : Turn F a b) (k : Turn G b c) (hG : ∀ x, G x → F x ∨ a.heap.size ≤ x) : Turn F a c :=
  ⟨k.os.trans h.os, k.tape.trans h.tape, k.output.trans h.output, Nat.le_trans h.size k.size, fun i hi hn => (k.block i (Nat.lt_of_lt_of_le hi h.size) (fun hx => by
    rcases hG i hx with h1 | h1
    · exact hn h1
    · omega)).trans (h.block i hi hn)⟩
theorem Turn.of {F : Nat → Prop} {w w' : World} (h : Below w.heap.size w w') : Turn F w w' := ⟨h.os, h.tape, h.output, h.size, fun k hk _ => h.block k hk⟩
theorem Turn.bel {F : Nat → Prop} {w w' : World} (h : Turn F w w') {B : Nat} (hB : B ≤ w.heap.size) (hF : ∀ x, F x → B ≤ x) : Below B w w' :=
  ⟨h.os, h.tape, h.output, h.size, fun k hk => h.block k (by omega) (fun hx => by have := hF k hx; omega)⟩
theorem Turn.mono {F G : Nat → Prop} {w w' : World} (h : Turn F w w') (hG : ∀ x, F x → G x) : Turn G w w' := ⟨h.os, h.tape, h.output, h.size, fun k hk hn => h.block k hk (fun hx => hn (hG k hx))⟩
theorem Turn.alloc {F : Nat → Prop} {w w' : World} (h : Turn F w w') (o : Obj) : Turn F w (w'.alloc o) := h.trans (Turn.of (F := fun _ => False) (below_alloc w' o)) (fun _ hx => hx.elim)
theorem Turn.next {F : Nat → Prop} {w w1 w' : World} (h : Turn F w w1) (hb : Below w1.heap.size w1 w') : Turn F w w' := h.trans (Turn.of (F := fun _ => False) hb) (fun _ hx => hx.elim)
theorem Turn.set {F : Nat → Prop} {w w' : World} (h : Turn F w w') {a : Addr} (ha : F a.block) (u : Value) : Turn F w (w'.setCell a u) :=
  ⟨h.os, h.tape, h.output, by simpa using h.size, fun k hk hn => (heap_setCell_other w' a k u (fun e => hn (e ▸ ha))).trans (h.block k hk hn)⟩
theorem Turn.grown {F : Nat → Prop} {w w' : World} {r : Option Nat} (hg : w.grownBy w' r) (hF : ∀ b, r = some b → F b) : Turn F w w' :=
  ⟨hg.os, hg.tape, hg.output, hg.size, fun k hk hn => hg.block k hk (fun e => hn (hF k e.symm))⟩
theorem blk_keep {F : Nat → Prop} {w w' : World} {g : Nat} {cs : Array Value} {t : TypeId} (ht : Turn F w w') (h : Blk w g cs t) (hn : ¬ F g) : Blk w' g cs t := (ht.block _ h.lt hn).trans h
theorem own_keep {F : Nat → Prop} {w w' : World} {e : TypeId} {size n : Nat} {v : Value} {xs : List Value} (ht : Turn F w w') (h : Own e size w v n xs) (hn : ∀ b, v.ownBlock = some b → ¬ F b) : Own e size w' v n xs :=
  Own.keep h fun x hx => ht.block x (h.lt x hx) (hn x hx)
theorem map_keep {F : Nat → Prop} {w w' : World} {k : TypeId} {m n : Nat} {f : Lit → Option Value} (ht : Turn F w w') (h : MapIs Try.prog k w m f n) (hn : ¬ F m) : MapIs Try.prog k w' m f n := by
  obtain ⟨D, ⟨es, ck, hb, F1, hs, hD⟩, h2, h3⟩ := h
  exact ⟨D, ⟨es, ck, (ht.block m (Array.getElem?_eq_some_iff.1 hb).1 hn).trans hb, F1, hs, hD⟩, h2, h3⟩

/-! ### the numbers of the sets that have a label -/
/-- an entry: a name, a value, a set's number -/
abbrev Ent := Lit × Lit × Nat
open Classical in
noncomputable def yOf (E : List Ent) (k v : Lit) : List Nat := (E.filter fun e => decide (e.1 = k ∧ e.2.1 = v)).map fun e => e.2.2
theorem yOf_nil (k v : Lit) : yOf [] k v = [] := by simp [yOf]
theorem yOf_yes (E : List Ent) (k v : Lit) (n : Nat) : yOf (E ++ [(k, v, n)]) k v = yOf E k v ++ [n] := by
  unfold yOf
  rw [List.filter_append, List.map_append]
  simp
theorem yOf_no (E : List Ent) {k v k' v' : Lit} (n : Nat) (h : ¬ (k = k' ∧ v = v')) : yOf (E ++ [(k, v, n)]) k' v' = yOf E k' v' := by
  unfold yOf
  rw [List.filter_append, List.map_append]
  simp [h]
theorem yOf_len (E : List Ent) (k v : Lit) : (yOf E k v).length ≤ E.length := by
  unfold yOf
  rw [List.length_map]
  exact List.length_filter_le _ _
theorem yOf_mem (E : List Ent) (k v : Lit) (n : Nat) : n ∈ yOf E k v ↔ (k, v, n) ∈ E := by
  unfold yOf
  simp only [List.mem_map, List.mem_filter, decide_eq_true_eq]
  constructor
  · rintro ⟨⟨a, b, c⟩, ⟨h1, rfl, rfl⟩, rfl⟩; exact h1
  · intro h; exact ⟨(k, v, n), ⟨h, rfl, rfl⟩, rfl⟩
def ints (l : List Nat) : List Value := l.map fun (n : Nat) => .int .i64 (n : Int)
theorem ints_len (l : List Nat) : (ints l).length = l.length := by simp [ints]
theorem ints_snoc (l : List Nat) (n : Nat) : ints (l ++ [n]) = ints l ++ [.int .i64 (n : Int)] := by simp [ints]

/-- the maps: by names the inner maps' blocks (b), of each the rows by values (g), how many (c) -/
structure Post where
  f : Lit → Option Value
  b : Lit → Nat
  g : Lit → Lit → Option Value
  c : Lit → Nat
  n : Nat
structure PostsAt (F : Nat → Prop) (w : World) (pm : Nat) (Q : Post) (E : List Ent) : Prop where
  outer : MapIs Try.prog 9 w pm Q.f Q.n
  Fpm : F pm
  nle : Q.n ≤ E.length + 1
  ptr : ∀ k u, Q.f k = some u → u = .map (some (Q.b k)) ∧ F (Q.b k) ∧ Q.b k ≠ pm ∧ MapIs Try.prog 9 w (Q.b k) (Q.g k) (Q.c k) ∧ Q.c k ≤ E.length
  gn : ∀ k, Q.f k = none → ∀ v, Q.g k v = none
  row : ∀ k v r, Q.g k v = some r → Own 3 1 w r (yOf E k v).length (ints (yOf E k v)) ∧ (∀ b, r.ownBlock = some b → F b) ∧ yOf E k v ≠ []
  no : ∀ k v, Q.g k v = none → yOf E k v = []
  apB : ∀ k k' u u', Q.f k = some u → Q.f k' = some u' → k ≠ k' → Q.b k ≠ Q.b k'
  apR : ∀ k v r k' v' r', Q.g k v = some r → Q.g k' v' = some r' → ¬ (k = k' ∧ v = v') → ∀ b, r.ownBlock = some b → r'.ownBlock ≠ some b

variable {F : Nat → Prop} {w w' : World} {pm : Nat} {Q : Post} {E : List Ent}
def post0 : Post := ⟨fun _ => none, fun _ => 0, fun _ _ => none, fun _ => 0, 0⟩
theorem PostsAt.new (w : World) : PostsAt (fun x => w.heap.size ≤ x) (w.alloc (.map #[] 0)) w.heap.size post0 [] :=
  ⟨MapIs.made w Try.prog 9, Nat.le_refl _, Nat.zero_le _, fun _ _ h => (by cases h), fun _ _ _ => rfl, fun _ _ _ h => (by cases h), fun _ _ _ => yOf_nil _ _, fun _ _ _ _ h => (by cases h), fun _ _ _ _ _ _ h => (by cases h)⟩
theorem PostsAt.more (h : PostsAt F w pm Q E) {G : Nat → Prop} (hG : ∀ x, F x → G x) : PostsAt G w pm Q E :=
  ⟨h.outer, hG _ h.Fpm, h.nle, fun k u hu => ⟨(h.ptr k u hu).1, hG _ (h.ptr k u hu).2.1, (h.ptr k u hu).2.2⟩, h.gn, fun k v r hr => ⟨(h.row k v r hr).1, fun b hb => hG _ ((h.row k v r hr).2.1 b hb), (h.row k v r hr).2.2⟩, h.no, h.apB, h.apR⟩
theorem PostsAt.keep (h : PostsAt F w pm Q E) {G : Nat → Prop} (ht : Turn G w w') (hG : ∀ x, F x → ¬ G x) : PostsAt F w' pm Q E :=
  ⟨map_keep ht h.outer (hG _ h.Fpm), h.Fpm, h.nle, fun k u hu => ⟨(h.ptr k u hu).1, (h.ptr k u hu).2.1, (h.ptr k u hu).2.2.1, map_keep ht (h.ptr k u hu).2.2.2.1 (hG _ (h.ptr k u hu).2.1), (h.ptr k u hu).2.2.2.2⟩, h.gn,
    fun k v r hr => ⟨own_keep ht (h.row k v r hr).1 (fun b hb => hG _ ((h.row k v r hr).2.1 b hb)), (h.row k v r hr).2⟩, h.no, h.apB, h.apR⟩
theorem PostsAt.next (h : PostsAt F w pm Q E) (hb : Below w.heap.size w w') : PostsAt F w' pm Q E := h.keep (Turn.of (F := fun _ => False) hb) (fun _ _ hx => hx)

/-- a new name: an empty map laid in block b, and put into the outer map -/
noncomputable def Post.name (Q : Post) (k : Lit) (b : Nat) : Post := ⟨upd Q.f k (.map (some b)), setX Q.b k b, Q.g, setX Q.c k 0, Q.n + 1⟩
theorem PostsAt.name (h : PostsAt F w pm Q E) {k : Lit} (hk : Q.f k = none) {w2 : World} (hlt : ∀ x, F x → x < w.heap.size) (hn : Q.n ≤ E.length)
    (hm : MapIs Try.prog 9 w2 pm (upd Q.f k (.map (some w.heap.size))) (Q.n + 1)) (hg : (w.alloc (.map #[] 0)).grownBy w2 (some pm)) :
    PostsAt (fun x => F x ∨ x = w.heap.size) w2 pm (Q.name k w.heap.size) E := by
  have ht : Turn (fun x => x = pm) (w.alloc (.map #[] 0)) w2 := Turn.grown hg (fun b hb => by injection hb with hb; exact hb.symm)
  have hpl := hlt _ h.Fpm
  have hal := h.next (below_alloc w (.map #[] 0))
  refine ⟨hm, .inl h.Fpm, by show Q.n + 1 ≤ E.length + 1; omega, fun k' u hu => ?_, fun k' hu v => ?_, fun k' v r hr => ?_, h.no, fun k1 k2 u1 u2 h1 h2 hne => ?_, h.apR⟩
  · have hu' : upd Q.f k (.map (some w.heap.size)) k' = some u := hu
    show u = .map (some (setX Q.b k w.heap.size k')) ∧ (F (setX Q.b k w.heap.size k') ∨ setX Q.b k w.heap.size k' = w.heap.size) ∧ setX Q.b k w.heap.size k' ≠ pm ∧ MapIs Try.prog 9 w2 (setX Q.b k w.heap.size k') (Q.g k') (setX Q.c k 0 k') ∧ setX Q.c k 0 k' ≤ E.length
    by_cases e : k' = k
    · subst e
      rw [upd_same] at hu'
      cases hu'
      rw [setX_same, setX_same]
      have hmade := map_keep ht (MapIs.made w Try.prog 9) (by omega : ¬ (w.heap.size = pm))
      refine ⟨rfl, .inr rfl, by omega, ?_, Nat.zero_le _⟩
      have e2 : Q.g k' = fun _ => none := funext fun v => h.gn k' hk v
      rw [e2]
      exact hmade
    · rw [upd_other Q.f _ e] at hu'
      rw [setX_other _ _ e, setX_other _ _ e]
      obtain ⟨p1, p2, p3, p4, p5⟩ := hal.ptr k' u hu'
      exact ⟨p1, .inl p2, p3, map_keep ht p4 p3, p5⟩
  · have hu' : upd Q.f k (.map (some w.heap.size)) k' = none := hu
    by_cases e : k' = k
    · subst e; rw [upd_same] at hu'; cases hu'
    · rw [upd_other Q.f _ e] at hu'
      exact h.gn k' hu' v
  · obtain ⟨r1, r2, r3⟩ := hal.row k' v r hr
    refine ⟨own_keep ht r1 (fun b hb e => ?_), fun b hb => .inl (r2 b hb), r3⟩
    exact own_no_map r1 hal.outer (by rw [hb, e])
  · have h1' : upd Q.f k (.map (some w.heap.size)) k1 = some u1 := h1
    have h2' : upd Q.f k (.map (some w.heap.size)) k2 = some u2 := h2
    show setX Q.b k w.heap.size k1 ≠ setX Q.b k w.heap.size k2
    by_cases e1 : k1 = k
    · have e2 : k2 ≠ k := fun e2 => hne (by rw [e1, e2])
      rw [upd_other Q.f _ e2] at h2'
      have := hlt _ (h.ptr k2 u2 h2').2.1
      rw [e1, setX_same, setX_other _ _ e2]
      omega
    · rw [upd_other Q.f _ e1] at h1'
      have hl1 := hlt _ (h.ptr k1 u1 h1').2.1
      by_cases e2 : k2 = k
      · rw [e2, setX_same, setX_other _ _ e1]
        omega
      · rw [upd_other Q.f _ e2] at h2'
        rw [setX_other _ _ e1, setX_other _ _ e2]
        exact h.apB k1 k2 u1 u2 h1' h2' hne

/-- what is read of a name's value -/
theorem PostsAt.look (h : PostsAt F w pm Q E) (k v : Lit) : Own 3 1 w ((Q.g k v).getD (.slice none 0 0)) (yOf E k v).length (ints (yOf E k v)) ∧ ∀ b, ((Q.g k v).getD (.slice none 0 0)).ownBlock = some b → F b := by
  cases hf : Q.g k v with
  | none =>
    rw [h.no k v hf]
    exact ⟨own_nil w 3 1, fun b hb => by cases hb⟩
  | some r => exact ⟨(h.row k v r hf).1, (h.row k v r hf).2.1⟩

/-- a number more of a name's value: appended (w to w1), put into the inner map (w1 to w2) -/
noncomputable def Post.push (Q : Post) (k v : Lit) (r : Value) : Post := ⟨Q.f, Q.b, setX Q.g k (upd (Q.g k) v r), setX Q.c k (if (Q.g k v).isSome then Q.c k else Q.c k + 1), Q.n⟩
theorem PostsAt.push (h : PostsAt F w pm Q E) {k v : Lit} {u r : Value} (hk : Q.f k = some u) {w1 w2 : World} {n : Nat} (hlt : ∀ x, F x → x < w.heap.size)
    (ho : Own 3 1 w1 r ((yOf E k v).length + 1) (ints (yOf E k v) ++ [.int .i64 (n : Int)])) (hg : w.grownBy w1 ((Q.g k v).getD (.slice none 0 0)).ownBlock)
    (hn : ∀ b, r.ownBlock = some b → ((Q.g k v).getD (.slice none 0 0)).ownBlock = some b ∨ w.heap.size ≤ b)
    (hm : MapIs Try.prog 9 w2 (Q.b k) (upd (Q.g k) v r) (if (Q.g k v).isSome then Q.c k else Q.c k + 1)) (hg2 : w1.grownBy w2 (some (Q.b k))) :
    PostsAt (fun x => F x ∨ r.ownBlock = some x) w2 pm (Q.push k v r) (E ++ [(k, v, n)]) := by
  have hl := h.look k v
  have ht1 : Turn (fun x => ((Q.g k v).getD (.slice none 0 0)).ownBlock = some x) w w1 := Turn.grown hg (fun b hb => hb)
  have ht2 : Turn (fun x => x = Q.b k) w1 w2 := Turn.grown hg2 (fun b hb => by injection hb with hb; exact hb.symm)
  have hpk := h.ptr k u hk
  have mapK : ∀ {m c : Nat} {f : Lit → Option Value}, MapIs Try.prog 9 w m f c → MapIs Try.prog 9 w1 m f c := fun hm => map_keep ht1 hm (fun e => own_no_map hl.1 hm e)
  have hbk1 := mapK hpk.2.2.2.1
  have hrow1 : ∀ k' v' r', Q.g k' v' = some r' → ¬ (k' = k ∧ v' = v) → Own 3 1 w1 r' (yOf E k' v').length (ints (yOf E k' v')) := fun k' v' r' hr hne => by
    refine own_keep ht1 (h.row k' v' r' hr).1 (fun b hb e => ?_)
    cases hf : Q.g k v with
    | none => rw [hf] at e; cases e
    | some r0 =>
      rw [hf] at e
      exact h.apR k' v' r' k v r0 hr hf hne b hb e
  have hrow2 : ∀ k' v' r', Q.g k' v' = some r' → ¬ (k' = k ∧ v' = v) → Own 3 1 w2 r' (yOf E k' v').length (ints (yOf E k' v')) := fun k' v' r' hr hne => by
    have h1 := hrow1 k' v' r' hr hne
    exact own_keep ht2 h1 (fun b hb e => own_no_map h1 hbk1 (by rw [hb, e]))
  have ho2 : Own 3 1 w2 r (yOf (E ++ [(k, v, n)]) k v).length (ints (yOf (E ++ [(k, v, n)]) k v)) := by
    rw [yOf_yes, List.length_append, ints_snoc]
    exact own_keep ht2 ho (fun b hb e => own_no_map ho hbk1 (by rw [hb, e]))
  have hfresh : ∀ k' v' r', Q.g k' v' = some r' → ¬ (k' = k ∧ v' = v) → ∀ b, r'.ownBlock = some b → r.ownBlock ≠ some b := fun k' v' r' hr hne b hb e => by
    rcases hn b e with h1 | h1
    · cases hf : Q.g k v with
      | none => rw [hf] at h1; cases h1
      | some r0 =>
        rw [hf] at h1
        exact h.apR k' v' r' k v r0 hr hf hne b hb h1
    · have := hlt b ((h.row k' v' r' hr).2.1 b hb)
      omega
  have gsame : (Q.push k v r).g k v = some r := by show setX Q.g k (upd (Q.g k) v r) k v = some r; rw [setX_same, upd_same]
  have gother : ∀ k' v', ¬ (k' = k ∧ v' = v) → (Q.push k v r).g k' v' = Q.g k' v' := fun k' v' hne => by
    show setX Q.g k (upd (Q.g k) v r) k' v' = Q.g k' v'
    by_cases e : k' = k
    · subst e
      rw [setX_same, upd_other _ _ (fun e2 => hne ⟨rfl, e2⟩)]
    · rw [setX_other _ _ e]
  have hlen : (E ++ [(k, v, n)]).length = E.length + 1 := by simp
  refine ⟨map_keep ht2 (mapK h.outer) (fun e => hpk.2.2.1 e.symm), .inl h.Fpm, ?_, fun k' u' hu => ?_, fun k' hu v' => ?_, fun k' v' r' hr => ?_, fun k' v' hr => ?_, h.apB, fun k1 v1 r1 k2 v2 r2 h1 h2 hne b hb => ?_⟩
  · rw [hlen]; have := h.nle; show Q.n ≤ _; omega
  · obtain ⟨p1, p2, p3, p4, p5⟩ := h.ptr k' u' hu
    show u' = .map (some (Q.b k')) ∧ (F (Q.b k') ∨ _) ∧ Q.b k' ≠ pm ∧ MapIs Try.prog 9 w2 (Q.b k') (setX Q.g k (upd (Q.g k) v r) k') (setX Q.c k (if (Q.g k v).isSome then Q.c k else Q.c k + 1) k') ∧ setX Q.c k (if (Q.g k v).isSome then Q.c k else Q.c k + 1) k' ≤ _
    rw [hlen]
    by_cases e : k' = k
    · subst e
      rw [setX_same, setX_same]
      exact ⟨p1, .inl p2, p3, hm, by split <;> omega⟩
    · rw [setX_other _ _ e, setX_other _ _ e]
      exact ⟨p1, .inl p2, p3, map_keep ht2 (mapK p4) (h.apB k' k u' u hu hk e), by omega⟩
  · have e : k' ≠ k := fun e => by subst e; rw [show Q.f k' = none from hu] at hk; cases hk
    rw [gother k' v' (fun x => e x.1)]
    exact h.gn k' hu v'
  · by_cases e : k' = k ∧ v' = v
    · obtain ⟨rfl, rfl⟩ := e
      rw [gsame] at hr
      cases hr
      exact ⟨ho2, fun b hb => .inr hb, by rw [yOf_yes]; simp⟩
    · rw [gother k' v' e] at hr
      rw [yOf_no E n (fun x => e ⟨x.1.symm, x.2.symm⟩)]
      exact ⟨hrow2 k' v' r' hr e, fun b hb => .inl ((h.row k' v' r' hr).2.1 b hb), (h.row k' v' r' hr).2.2⟩
  · by_cases e : k' = k ∧ v' = v
    · obtain ⟨rfl, rfl⟩ := e
      rw [gsame] at hr
      cases hr
    · rw [gother k' v' e] at hr
      rw [yOf_no E n (fun x => e ⟨x.1.symm, x.2.symm⟩)]
      exact h.no k' v' hr
  · by_cases e1 : k1 = k ∧ v1 = v
    · obtain ⟨rfl, rfl⟩ := e1
      rw [gsame] at h1
      cases h1
      have e2 : ¬ (k2 = k1 ∧ v2 = v1) := fun x => hne ⟨x.1.symm, x.2.symm⟩
      rw [gother k2 v2 e2] at h2
      exact fun hb2 => hfresh k2 v2 r2 h2 e2 b hb2 hb
    · rw [gother k1 v1 e1] at h1
      by_cases e2 : k2 = k ∧ v2 = v
      · obtain ⟨rfl, rfl⟩ := e2
        rw [gsame] at h2
        cases h2
        exact hfresh k1 v1 r1 h1 e1 b hb
      · rw [gother k2 v2 e2] at h2
        exact h.apR k1 v1 r1 k2 v2 r2 h1 h2 hne b hb
end Go.Proofs.Ytmmilgcbjpbelaa
