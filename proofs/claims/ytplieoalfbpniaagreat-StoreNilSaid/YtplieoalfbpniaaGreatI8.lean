/- What a step turns; keys; Clone of labels (38); labels by name. -/
import Derived.Test.YtplieoalfbpniaaGreatI7
namespace Go.Proofs.YtplieoalfbpniaaGreat
open Go.RowKit Go.Kt Go.Ix
set_option maxRecDepth 100000

structure Turn (F : Nat → Prop) (w w' : World) : Prop where
  os : w'.os = w.os
  tape : w'.tape = w.tape
  output : w'.output = w.output
  size : w.heap.size ≤ w'.heap.size
  block : ∀ k, k < w.heap.size → ¬ F k → w'.heap[k]? = w.heap[k]?
theorem Turn.refl (F : Nat → Prop) (w : World) : Turn F w w := ⟨rfl, rfl, rfl, Nat.le_refl _, fun _ _ _ => rfl⟩
theorem Turn.trans {F G : Nat → Prop} {a b c : World} (h : Turn F a b) (k : Turn G b c) (hG : ∀ x, G x → F x ∨ a.heap.size ≤ x) : Turn F a c :=
  ⟨k.os.trans h.os, k.tape.trans h.tape, k.output.trans h.output, Nat.le_trans h.size k.size, fun i hi hn => (k.block i (Nat.lt_of_lt_of_le hi h.size) (fun hx => by
    rcases hG i hx with h1 | h1
    · exact hn h1
    · omega)).trans (h.block i hi hn)⟩
theorem Turn.of {F : Nat → Prop} {w w' : World} (h : Below w.heap.size w w') : Turn F w w' := ⟨h.os, h.tape, h.output, h.size, fun k hk _ => h.block k hk⟩
theorem Turn.bel {F : Nat → Prop} {w w' : World} (h : Turn F w w') {B : Nat} (hB : B ≤ w.heap.size) (hF : ∀ x, F x → B ≤ x) : Below B w w' :=
  ⟨h.os, h.tape, h.output, h.size, fun k hk => h.block k (by omega) (fun hx => by have := hF k hx; omega)⟩
theorem Turn.mono {F G : Nat → Prop} {w w' : World} (h : Turn F w w') (hG : ∀ x, F x → G x) : Turn G w w' := ⟨h.os, h.tape, h.output, h.size, fun k hk hn => h.block k hk (fun hx => hn (hG k hx))⟩
theorem Turn.alloc {F : Nat → Prop} {w w' : World} (h : Turn F w w') (o : Obj) : Turn F w (w'.alloc o) := h.trans (Turn.of (F := fun _ => False) (below_alloc w' o)) (fun _ hx => hx.elim)
theorem Turn.next {F : Nat → Prop} {w w1 w' : World} (h : Turn F w w1) (hb : Below w1.heap.size w1 w') : Turn F w w' := h.trans (Turn.of (F := fun _ => False) hb) (fun _ hx => hx.elim)
theorem Turn.set {F : Nat → Prop} {w w' : World} (h : Turn F w w') {a : Addr} (ha : F a.block) (u : Value) : Turn F w (w'.setCell a u) :=
  ⟨h.os, h.tape, h.output, by simpa using h.size, fun k hk hn => (heap_setCell_other w' a k u (fun e => hn (e ▸ ha))).trans (h.block k hk hn)⟩
theorem Turn.grown {F : Nat → Prop} {w w' : World} {r : Option Nat} (hg : w.grownBy w' r) (hF : ∀ b, r = some b → F b) : Turn F w w' :=
  ⟨hg.os, hg.tape, hg.output, hg.size, fun k hk hn => hg.block k hk (fun e => hn (hF k e.symm))⟩
theorem blk_keep {F : Nat → Prop} {w w' : World} {g : Nat} {cs : Array Value} {t : TypeId} (ht : Turn F w w') (h : Blk w g cs t) (hn : ¬ F g) : Blk w' g cs t := (ht.block _ h.lt hn).trans h
theorem own_keep {F : Nat → Prop} {w w' : World} {e : TypeId} {size n : Nat} {v : Value} {xs : List Value} (ht : Turn F w w') (h : Own e size w v n xs) (hn : ∀ b, v.ownBlock = some b → ¬ F b) : Own e size w' v n xs :=
  Own.keep h fun x hx => ht.block x (h.lt x hx) (hn x hx)
theorem map_keep {F : Nat → Prop} {w w' : World} {k : TypeId} {m n : Nat} {f : Lit → Option Value} (ht : Turn F w w') (h : MapIs Tryz.prog k w m f n) (hn : ¬ F m) : MapIs Tryz.prog k w' m f n := by
  obtain ⟨D, ⟨es, ck, hb, F1, hs, hD⟩, h2, h3⟩ := h
  exact ⟨D, ⟨es, ck, (ht.block m (Array.getElem?_eq_some_iff.1 hb).1 hn).trans hb, F1, hs, hD⟩, h2, h3⟩


def ints (l : List Nat) : List Value := l.map fun (n : Nat) => .int .i64 (n : Int)
theorem ints_len (l : List Nat) : (ints l).length = l.length := by simp [ints]
theorem ints_snoc (l : List Nat) (n : Nat) : ints (l ++ [n]) = ints l ++ [.int .i64 (n : Int)] := by simp [ints]


def kl (s : ByteArray) : Lit := .string (bl s)
theorem key9 : Maps.Keyed Tryz.prog 9 := Maps.string_keyed Tryz.underlying9
theorem keyOf9 (s : ByteArray) (hs : s.size ≤ maxLen) : keyOf Tryz.prog 9 (.string s) = some (kl s) := WideMaps.keyOf_string_mk Tryz.underlying9 hs
theorem kl_inj {a b : ByteArray} (h : kl a = kl b) : a = b := by unfold kl at h; injection h with h; exact bl_inj h

set_option maxRecDepth 8000 in
set_option maxHeartbeats 1000000 in
theorem clone_any (v : Value) (l : List Pr) (w : World) (hv : RdP w v l) (hlen : l.length ≤ 4398046511104) :
    Calls Tryz.prog 38 #[v] w fun e w' => ∃ v', e = .returned v' ∧ MineP 69 w w' v' l := by
  have he := fun (a : Option Addr) (n c : Nat) => Lib.run_eql_slice_nil (P := Tryz.prog) w 33 69 a n c 0 0 Tryz.underlying33
  have HV := Lib.hid hv
  obtain ⟨hl, a, cap, rfl, h1, h2, h3, _⟩ := hv
  cases a with
  | none =>
    obtain rfl : cap = 0 := h3 rfl
    obtain hl0 : l = [] := List.eq_nil_of_length_eq_zero (by omega)
    subst hl0
    clear HV
    go_enter Tryz.func38, Tryz.ntmps38
    go_wp2_with fail
    go_ret
    exact ⟨_, rfl, mine_nil 69 2 w⟩
  | some ad =>
    clear hl h3
    go_enter Tryz.func38, Tryz.ntmps38
    go_wp2_with (at_builtin; apply Hold.mk)
    unfold Hold
    refine wpList_app rfl _ _ 33 rfl ok67 (by rfl) (by rfl) (n := 0) (xs := []) (own_lit w 69 2 #[] 0 (Nat.zero_le _) rfl) (HV.out.below (below_alloc w _)) (by exact flatP_one l) (by simp only [maxLen]; omega) (by omega) ?_
    intro v7 w7 ho7 hg7 hn7
    rw [Nat.zero_add, List.nil_append] at ho7
    have HM7 : Hid (MineP 69 w w7 v7 l) := Lib.hid ⟨ho7, fun b hb => by
        rcases hn7 b hb with h | h
        · have h' : w.heap.size = b := by simpa [Value.ownBlock] using h
          omega
        · simp only [World.size_alloc] at h; omega, (bel_alloc (bel_refl w)).grown hg7 (by simp only [World.size_alloc]; omega) (fun k hk => Nat.le_of_eq (by simpa [Value.ownBlock] using hk))⟩
    clear ho7 hg7 hn7
    go_wp2_with fail
    go_ret
    exact ⟨_, rfl, HM7.out⟩
theorem right_len {d : List Pr} (h : RightP d) : d.length ≤ 4398046511104 := by have := h.1; omega

theorem bytesLess_eq' : ∀ (x y : List UInt8), Op.bytesLess x y = decide (x < y)
  | [], [] => by simp [Op.bytesLess]
  | _ :: _, [] => by simp [Op.bytesLess]
  | [], _ :: _ => by simp [Op.bytesLess]
  | a :: x, b :: y => by
    rw [Op.bytesLess, bytesLess_eq' x y]
    simp only [List.cons_lt_cons_iff]
    by_cases h1 : a < b <;> by_cases h2 : a = b <;> by_cases h3 : x < y <;> simp [h1, h2, h3]
theorem less_trans {a b c : ByteArray} (h : Less a b) (k : Less b c) : Less a c := by
  unfold Less at *
  rw [bytesLess_eq', decide_eq_true_eq] at *
  exact List.lt_trans h k
theorem less_irrefl (a : ByteArray) : ¬ Less a a := by
  unfold Less
  rw [bytesLess_eq', decide_eq_true_eq]
  exact List.lt_irrefl _
theorem right_lt {d : List Pr} (h : RightP d) : ∀ (j : Nat) (hj : j < d.length) (i : Nat) (hi : i < j), Less (d[i]'(by omega)).n d[j].n
  | 0, _, i, hi => by omega
  | j + 1, hj, i, hi => by
    have h1 := (h.2 (j + 1) hj).2 j (by omega) rfl
    by_cases e : i = j
    · subst e; exact h1
    · exact less_trans (right_lt h j (by omega) i (by omega)) h1
theorem getL_at : ∀ (l : List Pr) (i : Nat) (hi : i < l.length), (∀ j (hj : j < i), (l[j]'(by omega)).n ≠ l[i].n) → getL l l[i].n = l[i].v
  | [], i, hi, _ => by simp at hi
  | p :: t, 0, _, _ => by simp [getL]
  | p :: t, i + 1, hi, h => by
    have h0 := h 0 (by omega)
    simp only [List.getElem_cons_zero, List.getElem_cons_succ] at h0
    simp only [List.getElem_cons_succ, getL]
    rw [if_neg h0]
    exact getL_at t i (by simpa using hi) (fun j hj => by have := h (j + 1) (by omega); simpa using this)
theorem getL_mem {d : List Pr} (h : RightP d) {p : Pr} (hp : p ∈ d) : getL d p.n = p.v := by
  obtain ⟨i, hi, rfl⟩ := List.mem_iff_getElem.1 hp
  exact getL_at d i hi (fun j hj e => by
    have := right_lt h i hi j hj
    rw [e] at this
    exact less_irrefl _ this)
theorem getL_some : ∀ {l : List Pr} {nm : ByteArray}, 0 < (getL l nm).size → ∃ p ∈ l, p.n = nm ∧ p.v = getL l nm
  | [], nm, h => by simp [getL] at h
  | p :: t, nm, h => by
    unfold getL at h ⊢
    by_cases e : p.n = nm
    · rw [if_pos e] at h ⊢
      exact ⟨p, by simp, e, rfl⟩
    · rw [if_neg e] at h ⊢
      obtain ⟨q, hq, h1, h2⟩ := getL_some h
      exact ⟨q, by simp [hq], h1, h2⟩
theorem right_val {d : List Pr} (h : RightP d) {p : Pr} (hp : p ∈ d) : 0 < p.v.size ∧ p.v.size ≤ 64 := by
  obtain ⟨i, hi, rfl⟩ := List.mem_iff_getElem.1 hp
  have h1 := (h.2 i hi).1.2
  have h2 := h1.1
  have h3 := h1.2.1
  rw [bl_len] at h2 h3
  omega
theorem getL_size {d : List Pr} (h : RightP d) (nm : ByteArray) : (getL d nm).size ≤ 64 := by
  by_cases h0 : (getL d nm).size = 0
  · omega
  · obtain ⟨p, hp, _, e⟩ := getL_some (show 0 < (getL d nm).size by omega)
    rw [← e]
    exact (right_val h hp).2
theorem own_place {e : TypeId} {size : Nat} {w : World} {v : Value} {n : Nat} {xs : List Value} (h : Own e size w v n xs) {j : Nat} (hj : j < n * size) :
    ∃ b cap, v = .slice (some ⟨b, 0, none⟩) n cap ∧ w.cell? ⟨b, j, none⟩ = xs[j]? ∧ w.frozen? ⟨b, j, none⟩ = false ∧ ∀ u, Own e size (w.setCell ⟨b, j, none⟩ u) v n (xs.set j u) := by
  have h' := h
  rcases h with ⟨hl, ⟨rfl, h0⟩ | ⟨g, cap', cur, rfl, hb, hg, hn, hm, hcs, ht⟩⟩
  · subst h0
    simp at hj
  · have hown : w.ownsRow 0 e size (.slice (some ⟨g, 0, none⟩) n cap') n xs := h'
    exact ⟨g, cap', rfl, hown.cellAt j (by omega), hown.frozenAt j, fun u => (hown.stored j u).1⟩
end Go.Proofs.YtplieoalfbpniaaGreat
