/- An index in memory (2): the whole; New (37), Clone (45), Len (24). -/
import Derived.Test.YtmmilgcbjpbelaaWD
namespace Go.Proofs.Ytmmilgcbjpbelaa
open Go.RowKit Go.Kt Go.Ix

def kl (s : ByteArray) : Lit := .string (bl s)
theorem key9 : Maps.Keyed Try.prog 9 := Maps.string_keyed Try.underlying9
theorem keyOf9 (s : ByteArray) (hs : s.size ≤ maxLen) : keyOf Try.prog 9 (.string s) = some (kl s) := WideMaps.keyOf_string_mk Try.underlying9 hs
theorem kl_inj {a b : ByteArray} (h : kl a = kl b) : a = b := by unfold kl at h; injection h with h; exact bl_inj h

/-! ### what the sets say -/
def entP (d : List Pr) (n : Nat) : List Ent := d.map fun p => (kl p.n, kl p.v, n)
def entD (D : List (List Pr)) : List Ent := D.zipIdx.flatMap fun x => entP x.1 x.2
theorem entD_nil : entD [] = [] := rfl
theorem entD_snoc (D : List (List Pr)) (d : List Pr) : entD (D ++ [d]) = entD D ++ entP d D.length := by
  unfold entD
  rw [List.zipIdx_append, List.flatMap_append]
  simp
theorem entD_mem (D : List (List Pr)) (k v : Lit) (n : Nat) : (k, v, n) ∈ entD D ↔ ∃ d, D[n]? = some d ∧ ∃ p ∈ d, k = kl p.n ∧ v = kl p.v := by
  unfold entD entP
  simp only [List.mem_flatMap, List.mem_map]
  constructor
  · rintro ⟨⟨d, i⟩, h1, p, hp, e⟩
    injection e with e1 e2
    injection e2 with e2 e3
    rw [List.mem_zipIdx_iff_getElem?] at h1
    simp only at h1 e3
    subst e3
    exact ⟨d, h1, p, hp, e1.symm, e2.symm⟩
  · rintro ⟨d, hd, p, hp, rfl, rfl⟩
    exact ⟨(d, n), by rw [List.mem_zipIdx_iff_getElem?]; exact hd, p, hp, rfl⟩
def ByMap (f : Lit → Option Value) (D : List (List Pr)) : Prop := ∀ k v, f k = some v ↔ ∃ (i : Nat) (d : List Pr), D[i]? = some d ∧ k = .string (textL d) ∧ v = .int .i64 (i : Int)
def Rows2 (F : Nat → Prop) (w : World) (us : List Value) (D : List (List Pr)) : Prop :=
  us.length = D.length ∧ ∀ (i : Nat) u d, us[i]? = some u → D[i]? = some d → OwnP 75 w u d ∧ ∀ b, u.ownBlock = some b → F b

structure IdxAt (F : Nat → Prop) (w : World) (g : Nat) (sv : Value) (us : List Value) (bm pm : Nat) (bf : Lit → Option Value) (Q : Post) (D : List (List Pr)) (E : List Ent) : Prop where
  blk : Blk w g #[sv, .map (some bm), .map (some pm)] 103
  Fg : F g
  sets : Own 67 1 w sv D.length us
  Fs : ∀ b, sv.ownBlock = some b → F b
  rows : Rows2 F w us D
  by_ : MapIs Try.prog 9 w bm bf D.length
  byD : ByMap bf D
  Fb : F bm
  ne : bm ≠ pm
  nb : ∀ k u, Q.f k = some u → Q.b k ≠ bm
  posts : PostsAt F w pm Q E
  ok : ∀ d ∈ D, RightP d
  nodup : D.Nodup
  len : D.length ≤ 61
  lt : ∀ x, F x → x < w.heap.size

variable {F : Nat → Prop} {w w' : World} {g bm pm : Nat} {sv : Value} {us : List Value} {bf : Lit → Option Value} {Q : Post} {D : List (List Pr)} {E : List Ent}
theorem IdxAt.keep (h : IdxAt F w g sv us bm pm bf Q D E) {G : Nat → Prop} (ht : Turn G w w') (hG : ∀ x, F x → ¬ G x) : IdxAt F w' g sv us bm pm bf Q D E :=
  ⟨blk_keep ht h.blk (hG _ h.Fg), h.Fg, own_keep ht h.sets (fun b hb => hG _ (h.Fs b hb)), h.Fs, ⟨h.rows.1, fun i u d hu hd => ⟨own_keep ht (h.rows.2 i u d hu hd).1 (fun b hb => hG _ ((h.rows.2 i u d hu hd).2 b hb)), (h.rows.2 i u d hu hd).2⟩⟩,
    map_keep ht h.by_ (hG _ h.Fb), h.byD, h.Fb, h.ne, h.nb, h.posts.keep ht hG, h.ok, h.nodup, h.len, fun x hx => Nat.lt_of_lt_of_le (h.lt x hx) ht.size⟩
theorem IdxAt.next (h : IdxAt F w g sv us bm pm bf Q D E) (hb : Below w.heap.size w w') : IdxAt F w' g sv us bm pm bf Q D E := h.keep (Turn.of (F := fun _ => False) hb) (fun _ _ hx => hx)
/-- an index somewhere -/
def Idx (F : Nat → Prop) (w : World) (g : Nat) (D : List (List Pr)) : Prop := ∃ sv us bm pm bf Q, IdxAt F w g sv us bm pm bf Q D (entD D) ∧ Q.n ≤ (entD D).length
theorem Idx.keep (h : Idx F w g D) {G : Nat → Prop} (ht : Turn G w w') (hG : ∀ x, F x → ¬ G x) : Idx F w' g D := by
  obtain ⟨sv, us, bm, pm, bf, Q, h, hqn⟩ := h
  exact ⟨sv, us, bm, pm, bf, Q, h.keep ht hG, hqn⟩
theorem Idx.next (h : Idx F w g D) (hb : Below w.heap.size w w') : Idx F w' g D := h.keep (Turn.of (F := fun _ => False) hb) (fun _ _ hx => hx)

theorem new_any (w : World) : Calls Try.prog 37 #[] w fun e w' => ∃ g F, e = .returned (.pointer (some ⟨g, 0, none⟩)) ∧ Idx F w' g [] ∧ (∀ x, F x → w.heap.size ≤ x) ∧ Below w.heap.size w w' := by
  have hmm := @run_makeMap Try.prog
  go_enter Try.func37, Try.ntmps37
  go_wp2_with fail
  go_ret
  refine ⟨w.heap.size + 2, fun x => w.heap.size ≤ x ∧ x < w.heap.size + 3, rfl, ⟨.slice none 0 0, [], w.heap.size, w.heap.size + 1, fun _ => none, post0, ?_, Nat.zero_le _⟩, fun x hx => hx.1, by repeat (first | exact bel_refl _ | apply bel_alloc)⟩
  have h1 := MapIs.made w Try.prog 9
  have h2 := (PostsAt.new (w.alloc (.map #[] 0)))
  simp only [World.size_alloc] at h2
  have h3 := Blk.new ((w.alloc (.map #[] 0)).alloc (.map #[] 0)) #[.slice none 0 0, .map (some w.heap.size), .map (some (w.heap.size + 1))] 103
  simp only [World.size_alloc] at h3
  have hpo : PostsAt (fun x => w.heap.size ≤ x ∧ x < w.heap.size + 3) ((w.alloc (.map #[] 0)).alloc (.map #[] 0)) (w.heap.size + 1) post0 [] :=
    ⟨h2.outer, by omega, h2.nle, fun _ _ h => (by cases h), fun _ _ _ => rfl, fun _ _ _ h => (by cases h), fun _ _ _ => yOf_nil _ _, fun _ _ _ _ h => (by cases h), fun _ _ _ _ _ _ h => (by cases h)⟩
  exact ⟨h3, by omega, own_nil _ _ _, (fun b hb => by cases hb), ⟨rfl, fun i u d hu => by simp at hu⟩, (h1.alloc _).alloc _, fun k v => ⟨fun h => (by cases h), fun ⟨i, d, hd, _⟩ => by simp at hd⟩, by omega, by omega,
    (fun _ _ h => by cases h), hpo.next (below_alloc _ _), (fun d hd => by cases hd), List.nodup_nil, Nat.zero_le _, fun x hx => by simp only [World.size_alloc]; omega⟩

set_option maxRecDepth 8000 in
set_option maxHeartbeats 1000000 in
theorem clone_any (v : Value) (l : List Pr) (w : World) (hv : RdP w v l) (hlen : l.length ≤ 4398046511104) :
    Calls Try.prog 45 #[v] w fun e w' => ∃ v', e = .returned v' ∧ MineP 75 w w' v' l := by
  have he := fun (a : Option Addr) (n c : Nat) => Lib.run_eql_slice_nil (P := Try.prog) w 67 75 a n c 0 0 Try.underlying67
  have HV := Lib.hid hv
  obtain ⟨hl, a, cap, rfl, h1, h2, h3, _⟩ := hv
  cases a with
  | none =>
    obtain rfl : cap = 0 := h3 rfl
    obtain hl0 : l = [] := List.eq_nil_of_length_eq_zero (by omega)
    subst hl0
    clear HV
    go_enter Try.func45, Try.ntmps45
    go_wp2_with fail
    go_ret
    exact ⟨_, rfl, mine_nil 75 2 w⟩
  | some ad =>
    clear hl h3
    go_enter Try.func45, Try.ntmps45
    go_wp2_with (at_builtin; apply Hold.mk)
    unfold Hold
    refine wpList_app rfl _ _ 67 rfl ok67 (by rfl) (by rfl) (n := 0) (xs := []) (own_lit w 75 2 #[] 0 (Nat.zero_le _) rfl) (HV.out.below (below_alloc w _)) (by exact flatP_one l) (by simp only [maxLen]; omega) (by omega) ?_
    intro v7 w7 ho7 hg7 hn7
    rw [Nat.zero_add, List.nil_append] at ho7
    have HM7 : Hid (MineP 75 w w7 v7 l) := Lib.hid ⟨ho7, fun b hb => by
        rcases hn7 b hb with h | h
        · have h' : w.heap.size = b := by simpa [Value.ownBlock] using h
          omega
        · simp only [World.size_alloc] at h; omega, (bel_alloc (bel_refl w)).grown hg7 (by simp only [World.size_alloc]; omega) (fun k hk => Nat.le_of_eq (by simpa [Value.ownBlock] using hk))⟩
    clear ho7 hg7 hn7
    go_wp2_with fail
    go_ret
    exact ⟨_, rfl, HM7.out⟩
theorem IdxAt.slice (h : IdxAt F w g sv us bm pm bf Q D E) : ∃ a c, sv = .slice a D.length c := by
  obtain ⟨_, a, c, rfl, _⟩ := h.sets.rd
  exact ⟨a, c, rfl⟩
theorem len_any (w : World) (h : Idx F w g D) : Calls Try.prog 24 #[.pointer (some ⟨g, 0, none⟩)] w fun e w' => e = .returned (.int .i64 (D.length : Int)) ∧ w = w' := by
  obtain ⟨sv, us, bm, pm, bf, Q, h, _⟩ := h
  obtain ⟨a, c, rfl⟩ := h.slice
  have k0 : w.cell? ⟨g, 0, none⟩ = some (.slice a D.length c) := h.blk.cell 0
  clear h
  go_enter Try.func24, Try.ntmps24
  go_wp2_with fail
  go_ret
  exact ⟨rfl, rfl⟩
theorem len_nil (w : World) : Calls Try.prog 24 #[.pointer none] w fun e w' => e = .returned (.int .i64 0) ∧ w = w' := by
  go_enter Try.func24, Try.ntmps24
  go_wp2_with fail
  go_ret
  exact ⟨rfl, rfl⟩
theorem set_nil (n : Int) (w : World) : Calls Try.prog 27 #[.pointer none, .int .i64 n] w fun e w' => e = .returned (.tuple #[.slice none 0 0, .int .i64 2]) ∧ w = w' := by
  go_enter Try.func27, Try.ntmps27
  go_wp2_with fail
  refine bodyPost_ret (v := .tuple #[.slice none 0 0, .int .i64 2]) (by simp [results, Try.results27, go_sem, *]) rfl ?_
  exact ⟨rfl, rfl⟩
theorem set_no (n : Int) (w : World) (h : Idx F w g D) (hn : n < 0 ∨ (D.length : Int) ≤ n) : Calls Try.prog 27 #[.pointer (some ⟨g, 0, none⟩), .int .i64 n] w fun e w' => e = .returned (.tuple #[.slice none 0 0, .int .i64 1]) ∧ Below w.heap.size w w' := by
  obtain ⟨sv, us, bm, pm, bf, Q, h, _⟩ := h
  obtain ⟨a, c, rfl⟩ := h.slice
  have k0 : w.cell? ⟨g, 0, none⟩ = some (.slice a D.length c) := h.blk.cell 0
  clear h
  by_cases h0 : n < 0
  · go_enter Try.func27, Try.ntmps27
    go_wp2_with fail
    refine bodyPost_ret (v := .tuple #[.slice none 0 0, .int .i64 1]) (by simp [results, Try.results27, go_sem, *]) rfl ?_
    exact ⟨rfl, bel_refl w⟩
  · have h1 : (D.length : Int) ≤ n := by omega
    have h2 : 0 ≤ n := by omega
    go_enter Try.func27, Try.ntmps27
    go_wp2_with fail
    refine bodyPost_ret (v := .tuple #[.slice none 0 0, .int .i64 1]) (by simp [results, Try.results27, go_sem, *]) rfl ?_
    exact ⟨rfl, bel_refl w⟩
theorem right_len {d : List Pr} (h : RightP d) : d.length ≤ 4398046511104 := by have := h.1; omega
/-- a set told: a copy of it -/
theorem set_yes (i : Nat) (d : List Pr) (w : World) (h : Idx F w g D) (hd : D[i]? = some d) : Calls Try.prog 27 #[.pointer (some ⟨g, 0, none⟩), .int .i64 (i : Int)] w fun e w' => ∃ v', e = .returned (.tuple #[v', .int .i64 0]) ∧ MineP 75 w w' v' d := by
  obtain ⟨sv, us, bm, pm, bf, Q, h, _⟩ := h
  have hi : i < D.length := (List.getElem?_eq_some_iff.1 hd).1
  obtain ⟨u, hu⟩ : ∃ u, us[i]? = some u := ⟨us[i]'(by rw [h.rows.1]; exact hi), List.getElem?_eq_getElem _⟩
  obtain ⟨hou, _⟩ := h.rows.2 i u d hu hd
  obtain ⟨_, a, c, rfl, h1, h2, _, h5⟩ := h.sets.rd
  obtain ⟨b, o, rfl, hc⟩ := h5 i u hu
  have k0 : w.cell? ⟨g, 0, none⟩ = some (.slice (some ⟨b, o, none⟩) D.length c) := h.blk.cell 0
  have HR := Lib.hid hou.rd
  have HD := Lib.hid (right_len (h.ok d (List.mem_of_getElem? hd)))
  obtain ⟨ua, uc, rfl, _⟩ := HR.out.open
  have hi1 : (0 : Int) ≤ (i : Int) := by omega
  have hi2 : (i : Int) < (D.length : Int) := by omega
  have hc' : w.cell? ⟨b, o + i, none⟩ = some (.slice ua d.length uc) := hc
  clear h hd hu hou h5 hc
  go_enter Try.func27, Try.ntmps27
  go_wp2_with (first | (go_at_call 45; refine (clone_any (.slice ua d.length uc) d w HR.out HD.out).mono ?_; rintro e w3 ⟨v3, rfl, hm3⟩; obtain ⟨a3, c3, rfl, _⟩ := hm3.rd.open; have HM3 := Lib.hid hm3; clear hm3) | fail)
  refine bodyPost_ret (v := .tuple #[.slice a3 d.length c3, .int .i64 0]) (by simp [results, Try.results27, go_sem, *]) rfl ?_
  exact ⟨_, rfl, HM3.out⟩
end Go.Proofs.Ytmmilgcbjpbelaa
