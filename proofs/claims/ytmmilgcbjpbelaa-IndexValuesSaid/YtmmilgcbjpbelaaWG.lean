/- Index.Add (25): a set that is new. -/
import Derived.Test.YtmmilgcbjpbelaaWF
import Derived.WideKeyEntry
namespace Go.Proofs.Ytmmilgcbjpbelaa
open Go.RowKit Go.Kt Go.Ix

variable {F : Nat → Prop} {w w' : World} {g bm pm : Nat} {sv : Value} {us : List Value} {bf : Lit → Option Value} {Q : Post} {D : List (List Pr)} {E : List Ent}

theorem blk_no_map {w : World} {g m c : Nat} {cs : Array Value} {t k : TypeId} {f : Lit → Option Value} (h : Blk w g cs t) (hm : MapIs Try.prog k w m f c) : g ≠ m := by
  rintro rfl
  obtain ⟨D, ⟨es, clock, hb, _⟩, _⟩ := hm
  unfold Blk at h
  rw [h] at hb
  cases hb
theorem one_slice (a : Option Addr) (n c : Nat) : ∀ u ∈ (#[Value.slice a n c] : Array Value).toList, u.oneCell' = true := by
  intro u hu
  simp only [List.mem_singleton] at hu
  subst hu
  rfl
theorem ok52 : ElemOk Try.prog 52 3 (.int .i64 0) 1 8 := ⟨Try.underlying52, info_parts (by kernel_rfl), rfl, by decide⟩
theorem one_int (n : Int) : ∀ u ∈ (#[Value.int .i64 n] : Array Value).toList, u.oneCell' = true := by
  intro u hu
  simp only [List.mem_singleton] at hu
  subst hu
  rfl
theorem ok99 : ElemOk Try.prog 99 67 (.slice none 0 0) 1 24 := ⟨Try.underlying99, info_parts (by kernel_rfl), rfl, by decide⟩
theorem rdP_cells {w : World} {a : Option Addr} {c : Nat} {l : List Pr} (h : RdP w (.slice a l.length c) l) : ∀ (i : Nat) (x : Pr), l[i]? = some x → ∃ b o, a = some ⟨b, o, none⟩ ∧ w.cell? ⟨b, o + i * 2, none⟩ = some (.string x.n) ∧ w.cell? ⟨b, o + i * 2 + 1, none⟩ = some (.string x.v) := by
  obtain ⟨a', c', e, _, _, hc⟩ := h.open
  injection e with e _ _
  subst e
  exact hc
theorem zero111 (w : World) : (zeroValue 111).run Try.prog w = .ok (.map none) w := by kernel_rfl
theorem zero52 (w : World) : (zeroValue 52).run Try.prog w = .ok (.slice none 0 0) w := by kernel_rfl
theorem eqlSome (bm : Nat) (w : World) : (binOp .eql 111 (.map (some bm)) (.map none)).run Try.prog w = .ok (.bool false) w := by kernel_rfl
theorem eqlNil (w : World) : (binOp .eql 111 (.map none) (.map none)).run Try.prog w = .ok (.bool true) w := by kernel_rfl
theorem rdP_turn {F : Nat → Prop} {w w' : World} {v : Value} {l : List Pr} (h : RdP w v l) (ht : Turn F w w') (hn : ∀ b, v.ownBlock = some b → ¬ F b) : RdP w' v l := by
  obtain ⟨h0, a, cap, rfl, h1, h2, h3, h5⟩ := h
  refine ⟨h0, a, cap, rfl, h1, h2, h3, fun j u hj => ?_⟩
  obtain ⟨b, o, rfl, hc⟩ := h5 j u hj
  exact ⟨b, o, rfl, (World.cell?_of_block (ht.block b (World.block_lt_of_cell? w _ hc) (hn b rfl))).trans hc⟩
set_option maxRecDepth 8000 in
/-- an entry is made or found, then its value is laid -/
theorem entry9 {t e : TypeId} {w : World} {b n : Nat} {f : Lit → Option Value} (h : MapIs Try.prog 9 w b f n) (ht : Try.prog.underlying t = some (.map 9 e)) (hn : n < maxLen) {z : Value} (hz : ∀ u : World, (zeroValue e).run Try.prog u = .ok z u)
    {key : Value} {kl : Lit} (hkey : keyOf Try.prog 9 key = some kl) (hk : WideAt.IsKeyLit kl) (val : Value) :
    ∃ (v0 : Value) (st : Nat) (w1 w2 : World), (Instr.mapEntry t (.map (some b)) key).run Try.prog w = .ok (.tuple #[v0, .int .i64 (st : Int)]) w1 ∧ (Instr.entryStore t (.map (some b)) (.int .i64 (st : Int)) val).run Try.prog w1 = .ok () w2 ∧
      MapIs Try.prog 9 w2 b (upd f kl val) (if (f kl).isSome then n else n + 1) ∧ w.grownBy w2 (some b) := by
  obtain ⟨w2, hrun, hm2, hg2⟩ := h.put key9 ht hn val hkey hk
  obtain ⟨D, ⟨es, clock, hb, Ft, hs, hD⟩, _⟩ := h
  obtain ⟨v0, st, es1, clock1, h1, _, h3⟩ := WideElems.entry_then_store (WideMaps.string_law Try.underlying9) ht hz hb Ft hkey
  obtain ⟨es', clock', h4, h5⟩ := h3 (ChangeMaps.setBlock w b (.map es1 clock1)) val (ChangeMaps.heap_setBlock_same hb _)
  refine ⟨v0, st, _, w2, h1, ?_, hm2, hg2⟩
  rw [hrun] at h5
  injection h5 with _ h5
  rw [h5]
  refine h4.trans ?_
  unfold ChangeMaps.setBlock
  simp

theorem PostsAt.keep' (h : PostsAt F w pm Q E) {G : Nat → Prop} (ht : Turn G w w') (h1 : ¬ G pm) (h2 : ∀ k u, Q.f k = some u → ¬ G (Q.b k)) (h3 : ∀ k v r, Q.g k v = some r → ∀ b, r.ownBlock = some b → ¬ G b) : PostsAt F w' pm Q E :=
  ⟨map_keep ht h.outer h1, h.Fpm, h.nle, fun k u hu => ⟨(h.ptr k u hu).1, (h.ptr k u hu).2.1, (h.ptr k u hu).2.2.1, map_keep ht (h.ptr k u hu).2.2.2.1 (h2 k u hu), (h.ptr k u hu).2.2.2.2⟩, h.gn,
    fun k v r hr => ⟨own_keep ht (h.row k v r hr).1 (h3 k v r hr), (h.row k v r hr).2⟩, h.no, h.apB, h.apR⟩
theorem byMap_snoc {d : List Pr} (h : ByMap bf D) (hok : ∀ x ∈ D, RightP x) (hr : RightP d) (hd : d ∉ D) : ByMap (upd bf (.string (textL d)) (.int .i64 (D.length : Int))) (D ++ [d]) := by
  intro k v
  by_cases e : k = .string (textL d)
  · subst e
    rw [upd_same]
    constructor
    · intro h1
      injection h1 with h1
      exact ⟨D.length, d, by simp, rfl, h1.symm⟩
    · rintro ⟨i, d', h1, h2, rfl⟩
      injection h2 with h2
      by_cases hi : i < D.length
      · rw [List.getElem?_append_left hi] at h1
        have := right_text hr (hok d' (List.mem_of_getElem? h1)) h2
        subst this
        exact absurd (List.mem_of_getElem? h1) hd
      · have hlt := (List.getElem?_eq_some_iff.1 h1).1
        simp only [List.length_append, List.length_singleton] at hlt
        obtain rfl : i = D.length := by omega
        rfl
  · rw [upd_other _ _ e, h k v]
    constructor
    · rintro ⟨i, d', h1, h2, h3⟩
      exact ⟨i, d', by rw [List.getElem?_append_left (List.getElem?_eq_some_iff.1 h1).1]; exact h1, h2, h3⟩
    · rintro ⟨i, d', h1, h2, h3⟩
      by_cases hi : i < D.length
      · rw [List.getElem?_append_left hi] at h1
        exact ⟨i, d', h1, h2, h3⟩
      · have hlt := (List.getElem?_eq_some_iff.1 h1).1
        simp only [List.length_append, List.length_singleton] at hlt
        obtain rfl : i = D.length := by omega
        simp at h1
        subst h1
        exact absurd h2 e
theorem idx_push {d : List Pr} {WA w7 wF : World} {u v7 : Value} {n' : Nat} (h : IdxAt F w g sv us bm pm bf Q D E) (hb : Below w.heap.size w WA) (hu : OwnP 75 WA u d) (hu2 : ∀ b, u.ownBlock = some b → w.heap.size ≤ b)
    (ho7 : Own 67 1 w7 v7 (D.length + 1) (us ++ [u])) (hg7 : WA.grownBy w7 sv.ownBlock) (hn7 : ∀ b, v7.ownBlock = some b → sv.ownBlock = some b ∨ WA.heap.size ≤ b)
    (hG7 : Blk w7 g #[sv, .map (some bm), .map (some pm)] 103) (hmF : MapIs Try.prog 9 wF bm (upd bf (.string (textL d)) (.int .i64 (D.length : Int))) n') (hn' : n' = D.length + 1) (hgF : (w7.setCell ⟨g, 0, none⟩ v7).grownBy wF (some bm))
    (hr : RightP d) (hd : d ∉ D) (hl : D.length ≤ 60) :
    ∃ F', IdxAt F' wF g v7 (us ++ [u]) bm pm (upd bf (.string (textL d)) (.int .i64 (D.length : Int))) Q (D ++ [d]) E ∧ (∀ x, F' x → F x ∨ w.heap.size ≤ x) ∧ Turn F w wF := by
  have hA := h.next hb
  have t7 : Turn (fun x => sv.ownBlock = some x ∨ x = g ∨ x = bm) WA w7 := Turn.grown hg7 (fun b hb => .inl hb)
  have t8 : Turn (fun x => sv.ownBlock = some x ∨ x = g ∨ x = bm) WA (w7.setCell ⟨g, 0, none⟩ v7) := t7.set (.inr (.inl rfl)) _
  have t9 : Turn (fun x => sv.ownBlock = some x ∨ x = g ∨ x = bm) (w7.setCell ⟨g, 0, none⟩ v7) wF := Turn.grown hgF (fun b hb => .inr (.inr (by injection hb with hb; exact hb.symm)))
  have tA : Turn (fun x => sv.ownBlock = some x ∨ x = g ∨ x = bm) WA wF := t8.trans t9 (fun x hx => .inl hx)
  have tw : Turn (fun x => sv.ownBlock = some x ∨ x = g ∨ x = bm) w wF := (Turn.of (F := fun x => sv.ownBlock = some x ∨ x = g ∨ x = bm) hb).trans tA (fun x hx => .inl hx)
  have hm7 := map_keep (Turn.grown (F := fun x => sv.ownBlock = some x) hg7 (fun b hb => hb)) hA.by_ (fun e => own_no_map hA.sets hA.by_ e)
  have hgb : g ≠ bm := blk_no_map hA.blk hA.by_
  have hm8 := hm7.setCell (a := ⟨g, 0, none⟩) (fun e => hgb e.symm) v7
  have hsz : WA.heap.size ≤ wF.heap.size := tA.size
  have hszw : w.heap.size ≤ WA.heap.size := hb.size
  have ho8 : Own 67 1 (w7.setCell ⟨g, 0, none⟩ v7) v7 (D.length + 1) (us ++ [u]) := own_set ho7 (fun b hb2 e => own_no_blk ho7 hG7 (by decide) (by rw [hb2, e])) _
  have ho9 : Own 67 1 wF v7 (D.length + 1) (us ++ [u]) := own_keep (Turn.grown (F := fun x => x = bm) hgF (fun b hb => by injection hb with hb; exact hb.symm)) ho8 (fun b hb2 e => own_no_map ho8 hm8 (by rw [hb2, e]))
  have hu9 : OwnP 75 wF u d := own_keep tA hu (fun b hb2 e => by
    rcases e with e | e | e
    · exact own_apart hu hA.sets (by decide) b hb2 e
    · exact own_no_blk hu hA.blk (by decide) (by rw [hb2, e])
    · exact own_no_map hu hA.by_ (by rw [hb2, e]))
  refine ⟨fun x => F x ∨ v7.ownBlock = some x ∨ u.ownBlock = some x, ⟨?_, .inl h.Fg, ?_, fun b hb2 => .inr (.inl hb2), ⟨?_, ?_⟩, by rw [List.length_append, List.length_singleton, ← hn']; exact hmF, byMap_snoc h.byD h.ok hr hd, .inl h.Fb, h.ne, h.nb, ?_, ?_, ?_, ?_, ?_⟩, ?_, ?_⟩
  · exact blk_keep (Turn.grown (F := fun x => x = bm) hgF (fun b hb => by injection hb with hb; exact hb.symm)) (hG7.set 0 v7) hgb
  · rw [List.length_append, List.length_singleton]; exact ho9
  · rw [List.length_append, List.length_append, h.rows.1]; rfl
  · intro i x y hx hy
    by_cases hi : i < D.length
    · rw [List.getElem?_append_left (by rw [h.rows.1]; exact hi)] at hx
      rw [List.getElem?_append_left hi] at hy
      obtain ⟨r1, r2⟩ := hA.rows.2 i x y hx hy
      refine ⟨own_keep tA r1 (fun b hb2 e => ?_), fun b hb2 => .inl (r2 b hb2)⟩
      rcases e with e | e | e
      · exact own_apart r1 hA.sets (by decide) b hb2 e
      · exact own_no_blk r1 hA.blk (by decide) (by rw [hb2, e])
      · exact own_no_map r1 hA.by_ (by rw [hb2, e])
    · have hlt := (List.getElem?_eq_some_iff.1 hy).1
      simp only [List.length_append, List.length_singleton] at hlt
      obtain rfl : i = D.length := by omega
      have e1 : y = d := by simpa using hy.symm
      have e2 : x = u := by
        rw [← h.rows.1] at hx
        simpa using hx.symm
      subst e1
      subst e2
      exact ⟨hu9, fun b hb2 => .inr (.inr hb2)⟩
  · refine (hA.posts.keep' tA ?_ ?_ ?_).more (fun x hx => .inl hx)
    · rintro (e | e | e)
      · exact own_no_map hA.sets hA.posts.outer e
      · exact blk_no_map hA.blk hA.posts.outer e.symm
      · exact h.ne e.symm
    · intro k y hk
      have hp := (hA.posts.ptr k y hk).2.2.2.1
      rintro (e | e | e)
      · exact own_no_map hA.sets hp e
      · exact blk_no_map hA.blk hp e.symm
      · exact h.nb k y hk e
    · intro k y r hk b hb2
      have hp := (hA.posts.row k y r hk).1
      rintro (e | e | e)
      · exact own_apart hp hA.sets (by decide) b hb2 e
      · exact own_no_blk hp hA.blk (by decide) (by rw [hb2, e])
      · exact own_no_map hp hA.by_ (by rw [hb2, e])
  · intro x hx
    rcases List.mem_append.1 hx with hx | hx
    · exact h.ok x hx
    · rw [List.mem_singleton.1 hx]; exact hr
  · exact List.nodup_append.2 ⟨h.nodup, by simp, fun x hx y hy e => by
      rw [List.mem_singleton.1 hy] at e
      subst e
      exact hd hx⟩
  · rw [List.length_append, List.length_singleton]; omega
  · rintro x (hx | hx | hx)
    · have := h.lt x hx; omega
    · exact ho9.lt x hx
    · exact hu9.lt x hx
  · rintro x (hx | hx | hx)
    · exact .inl hx
    · rcases hn7 x hx with h1 | h1
      · exact .inl (h.Fs x h1)
      · exact .inr (by omega)
    · exact .inr (hu2 x hx)
  · refine tw.mono (fun x hx => ?_)
    rcases hx with e | e | e
    · exact h.Fs x e
    · exact e ▸ h.Fg
    · exact e ▸ h.Fb

theorem ent_small {D : List (List Pr)} {d : List Pr} (hok : ∀ x ∈ D ++ [d], RightP x) (hl : (D ++ [d]).length ≤ 61) (j : Nat) : (entD D ++ entP (d.take j) D.length).length ≤ 1024 := by
  have key : ∀ (T : List (List Pr)) (m : Nat), (∀ x ∈ T, x.length ≤ 16) → ((T.zipIdx m).flatMap fun x => entP x.1 x.2).length ≤ 16 * T.length := by
    intro T
    induction T with
    | nil => intro m _; simp
    | cons x T ih =>
      intro m h
      have h1 := ih (m + 1) (fun y hy => h y (by simp [hy]))
      have h2 := h x (by simp)
      rw [List.zipIdx_cons, List.flatMap_cons, List.length_append, List.length_cons]
      simp only [entP, List.length_map] at h1 ⊢
      omega
  have h1 : (entD D).length ≤ 16 * D.length := key D 0 (fun x hx => (hok x (by simp [hx])).1)
  have h2 := (hok d (by simp)).1
  simp only [List.length_append, List.length_singleton] at hl
  rw [List.length_append]
  have h3 : (entP (d.take j) D.length).length ≤ 16 := by
    simp only [entP, List.length_map]
    have := List.length_take_le j d
    have h4 : (d.take j).length ≤ d.length := by rw [List.length_take]; exact Nat.min_le_right _ _
    omega
  omega
theorem idx_name (h : IdxAt F w g sv us bm pm bf Q D E) {k : Lit} (hk : Q.f k = none) (hn : Q.n ≤ E.length) {w2 : World} {m : Nat}
    (hm : MapIs Try.prog 9 w2 pm (upd Q.f k (.map (some w.heap.size))) m) (hm' : m = Q.n + 1) (hg : (w.alloc (.map #[] 0)).grownBy w2 (some pm)) :
    IdxAt (fun x => F x ∨ x = w.heap.size) w2 g sv us bm pm bf (Q.name k w.heap.size) D E := by
  subst hm'
  have ht : Turn (fun x => x = pm) (w.alloc (.map #[] 0)) w2 := Turn.grown hg (fun b hb => by injection hb with hb; exact hb.symm)
  have hA := h.next (below_alloc w (.map #[] 0))
  have hsz := ht.size
  simp only [World.size_alloc] at hsz
  refine ⟨blk_keep ht hA.blk (fun e => blk_no_map hA.blk hA.posts.outer e), .inl h.Fg, own_keep ht hA.sets (fun b hb e => own_no_map hA.sets hA.posts.outer (by rw [hb, e])), fun b hb => .inl (h.Fs b hb),
    ⟨h.rows.1, fun i u d hu hd => ⟨own_keep ht (hA.rows.2 i u d hu hd).1 (fun b hb e => own_no_map (hA.rows.2 i u d hu hd).1 hA.posts.outer (by rw [hb, e])), fun b hb => .inl ((h.rows.2 i u d hu hd).2 b hb)⟩⟩,
    map_keep ht hA.by_ h.ne, h.byD, .inl h.Fb, h.ne, fun k' u hu => ?_, h.posts.name hk h.lt hn hm hg, h.ok, h.nodup, h.len, fun x hx => ?_⟩
  · show setX Q.b k w.heap.size k' ≠ bm
    have hu' : upd Q.f k (.map (some w.heap.size)) k' = some u := hu
    by_cases e : k' = k
    · rw [e, setX_same]
      have := h.lt _ h.Fb
      omega
    · rw [upd_other Q.f _ e] at hu'
      rw [setX_other _ _ e]
      exact h.nb k' u hu'
  · rcases hx with hx | hx
    · have := h.lt x hx; omega
    · omega
theorem idx_app (h : IdxAt F w g sv us bm pm bf Q D E) {k v : Lit} {u r : Value} (hk : Q.f k = some u) {w1 w7 w8 : World} {n : Nat} (hb : Below w.heap.size w w1)
    (hg : w1.grownBy w7 ((Q.g k v).getD (.slice none 0 0)).ownBlock) (hn : ∀ b, r.ownBlock = some b → ((Q.g k v).getD (.slice none 0 0)).ownBlock = some b ∨ w1.heap.size ≤ b)
    (ho : Own 3 1 w7 r ((yOf E k v).length + 1) (ints (yOf E k v) ++ [.int .i64 (n : Int)])) (hm : MapIs Try.prog 9 w8 (Q.b k) (upd (Q.g k) v r) (if (Q.g k v).isSome then Q.c k else Q.c k + 1)) (hg2 : w7.grownBy w8 (some (Q.b k))) :
    IdxAt (fun x => F x ∨ r.ownBlock = some x) w8 g sv us bm pm bf (Q.push k v r) D (E ++ [(k, v, n)]) ∧ (∀ x, r.ownBlock = some x → F x ∨ w.heap.size ≤ x) ∧ Turn F w w8 := by
  have hA := h.next hb
  obtain ⟨hrow, hrowF⟩ := hA.posts.look k v
  obtain ⟨_, hpF, hpm, hpk, _⟩ := hA.posts.ptr k u hk
  have hszw := hb.size
  generalize hv0 : (Q.g k v).getD (.slice none 0 0) = v0 at *
  have tA : Turn (fun x => v0.ownBlock = some x ∨ x = Q.b k) w1 w8 := (Turn.grown (F := fun x => v0.ownBlock = some x ∨ x = Q.b k) hg (fun b hb => .inl hb)).trans (Turn.grown (F := fun x => v0.ownBlock = some x ∨ x = Q.b k) hg2 (fun b hb => .inr (by injection hb with hb; exact hb.symm))) (fun x hx => .inl hx)
  have hsz := tA.size
  have hm7 := map_keep (Turn.grown (F := fun x => v0.ownBlock = some x) hg (fun b hb => hb)) hpk (fun e => own_no_map hrow hpk e)
  have ho8 : Own 3 1 w8 r ((yOf E k v).length + 1) (ints (yOf E k v) ++ [.int .i64 (n : Int)]) := own_keep (Turn.grown (F := fun x => x = Q.b k) hg2 (fun b hb => by injection hb with hb; exact hb.symm)) ho (fun b hb e => own_no_map ho hm7 (by rw [hb, e]))
  refine ⟨⟨blk_keep tA hA.blk ?_, .inl h.Fg, own_keep tA hA.sets ?_, fun b hb => .inl (h.Fs b hb), ⟨h.rows.1, fun i x d hx hd => ⟨own_keep tA (hA.rows.2 i x d hx hd).1 ?_, fun b hb => .inl ((h.rows.2 i x d hx hd).2 b hb)⟩⟩,
    map_keep tA hA.by_ ?_, h.byD, .inl h.Fb, h.ne, h.nb, hA.posts.push hk hA.lt ho (by rw [hv0]; exact hg) (by rw [hv0]; exact hn) hm hg2, h.ok, h.nodup, h.len, fun x hx => ?_⟩, fun x hx => ?_, ?_⟩
  · rintro (e | e)
    · exact own_no_blk hrow hA.blk (by decide) e
    · exact blk_no_map hA.blk hpk e
  · intro b hb2
    rintro (e | e)
    · exact own_apart hA.sets hrow (by decide) b hb2 e
    · exact own_no_map hA.sets hpk (by rw [hb2, e])
  · intro b hb2
    have hr := (hA.rows.2 i x d hx hd).1
    rintro (e | e)
    · exact own_apart hr hrow (by decide) b hb2 e
    · exact own_no_map hr hpk (by rw [hb2, e])
  · rintro (e | e)
    · exact own_no_map hrow hA.by_ e
    · exact h.nb k u hk e.symm
  · rcases hx with hx | hx
    · have := h.lt x hx; omega
    · exact ho8.lt x hx
  · rcases hn x hx with h1 | h1
    · exact .inl (hrowF x h1)
    · exact .inr (by omega)
  · refine ((Turn.of (F := fun x => v0.ownBlock = some x ∨ x = Q.b k) hb).trans tA (fun x hx => .inl hx)).mono (fun x hx => ?_)
    rcases hx with e | e
    · exact hrowF x e
    · exact e ▸ hpF
theorem entP_take {d : List Pr} {j : Nat} {p : Pr} (h : d[j]? = some p) (n : Nat) : entP (d.take (j + 1)) n = entP (d.take j) n ++ [(kl p.n, kl p.v, n)] := by
  obtain ⟨hk, rfl⟩ := List.getElem?_eq_some_iff.1 h
  rw [List.take_succ_eq_append_getElem hk, entP, entP, List.map_append]
  rfl
theorem name_same (Q : Post) (k : Lit) (b : Nat) : (Q.name k b).f k = some (.map (some ((Q.name k b).b k))) := by
  show upd Q.f k (.map (some b)) k = some (.map (some (setX Q.b k b k)))
  rw [upd_same, setX_same]

set_option maxRecDepth 8000 in
set_option maxHeartbeats 1000000 in
theorem add_new (v : Value) (d : List Pr) (w : World) (h : Idx F w g D) (hv : RdP w v d) (hvF : ∀ b, v.ownBlock = some b → ¬ F b) (hr : RightP d) (hd : d ∉ D) (hl : D.length ≤ 60) :
    Calls Try.prog 25 #[.pointer (some ⟨g, 0, none⟩), v] w fun e w' => ∃ F', e = .returned (.tuple #[.int .i64 (D.length : Int), .int .i64 0]) ∧ Idx F' w' g (D ++ [d]) ∧ (∀ x, F' x → F x ∨ w.heap.size ≤ x) ∧ Turn F w w' := by
  obtain ⟨sv, us, bm, pm, bf, Q, h, hqn⟩ := h
  obtain ⟨a, c, rfl, _⟩ := hv.open
  have HI := Lib.hid h
  have HV := Lib.hid hv
  have HVF := Lib.hid hvF
  have HRt := Lib.hid hr
  have HR := Lib.hid (pb_yes hr)
  have HFi := Lib.hid (h.find_no hr hd)
  obtain ⟨sa, sc, rfl⟩ := h.slice
  have HD := Lib.hid hd
  have HQn := Lib.hid hqn
  have HL := Lib.hid hl
  have hg1 : decide (65536 ≤ (D.length : Int)) = false := by simp only [decide_eq_false_iff_not]; omega
  have hg2 : decide (65536 ≤ D.length) = false := by simp only [decide_eq_false_iff_not]; omega
  clear hv hvF hr h hd hl hqn
  go_enter Try.func25, Try.ntmps25
  go_upto_region 12 with (first
    | (go_at_call 44; refine (right_any (.slice a d.length c) d _ HV.out (right_fit HRt.out)).mono ?_; rintro e w3 ⟨he, hb3⟩; obtain rfl := says_pb he; rw [HR.out]; have HB3 := Lib.hid hb3; clear he hb3)
    | (go_at_call 32; refine (text_any (.slice a d.length c) d _ (HV.out.below HB3.out) (by have := HRt.out.1; omega) (by have := right_text_len HRt.out; omega)).mono ?_; rintro e w4 ⟨rfl, hb4⟩; have HB4 := Lib.hid (bel_trans HB3.out hb4); have hI4 := HI.out.next HB4.out; have k0 : w4.cell? ⟨g, 0, none⟩ = some (.slice sa D.length sc) := hI4.blk.cell 0; have k1 : w4.cell? ⟨g, 1, none⟩ = some (.map (some bm)) := hI4.blk.cell 1; have hlook := hI4.by_.look key9 Try.underlying100 (zero3 w4) (keyOf9 (mkS (textL d)) (by rw [mkS_size]; have := right_text_len HRt.out; simp only [maxLen]; omega)); rw [kl_text, HFi.out] at hlook; simp only [Option.getD, Option.isSome] at hlook; clear hb4 hI4)
    | fail)
  have HI4 := Lib.hid (HI.out.next HB4.out)
  have HV4 := Lib.hid (HV.out.below HB4.out)
  have HDl : Hid (d.length ≤ 4398046511104) := Lib.hid (right_len HRt.out)
  have HKs : Hid ((mkS (textL d)).size ≤ maxLen) := Lib.hid (by rw [mkS_size]; have := right_text_len HRt.out; simp only [maxLen]; omega)
  have hx4 := bel_refl w4
  have n4 : ∀ ob : Obj, (w4.alloc ob).cell? ⟨g, 0, none⟩ = some (.slice sa D.length sc) := fun ob => (HI4.out.blk.next (below_alloc w4 ob)).cell 0
  have n5 : ∀ ob : Obj, (w4.alloc ob).cell? ⟨g, 1, none⟩ = some (.map (some bm)) := fun ob => (HI4.out.blk.next (below_alloc w4 ob)).cell 1
  have Hgne : Hid ((Value.slice sa D.length sc).ownBlock ≠ some g) := Lib.hid (own_no_blk HI4.out.sets HI4.out.blk (by decide))
  have Hbne : Hid ((Value.slice sa D.length sc).ownBlock ≠ some bm) := Lib.hid (own_no_map HI4.out.sets HI4.out.by_)
  clear hlook
  go_cut [] (fun wc => ∃ (sv' : Value) (us' : List Value) (bf' : Lit → Option Value) (F' : Nat → Prop), Hid (IdxAt F' wc g sv' us' bm pm bf' Q (D ++ [d]) (entD D)) ∧ Hid (∀ x, F' x → F x ∨ w.heap.size ≤ x) ∧ Hid (Turn F w wc))
  case first =>
    rename_i J0 J1 hJ0 hJ1
    go_region_law
      (first
        | (refine step_app (by rfl) _ _ 99 (by rfl) ok99 (by rfl) (by rfl) (HI4.out.sets.below' (by repeat (first | assumption | exact bel_refl _ | apply bel_alloc | apply bel_drew))) (by exact rd_lit 1 #[_] 1 (by simp) one_le rfl) (by exact one_slice _ _ _) (by have := HL.out; simp only [maxLen]; omega) (by have := HL.out; omega) ?_; intro v7 w7 ho7 hg7 hn7; obtain ⟨_, a7, c7, rfl, _⟩ := ho7.rd; have hG7 : Blk w7 g #[.slice sa D.length sc, .map (some bm), .map (some pm)] 103 := (HI4.out.blk.next (by repeat (first | assumption | exact bel_refl _ | apply bel_alloc | apply bel_drew))).grown hg7 Hgne.out; have z0 : w7.cell? ⟨g, 0, none⟩ = some (.slice sa D.length sc) := hG7.cell 0; have z1 : w7.cell? ⟨g, 1, none⟩ = some (.map (some bm)) := hG7.cell 1; have zf : w7.frozen? ⟨g, 0, none⟩ = false := hG7.free 0; have hm7 := (HI4.out.by_.below (by repeat (first | assumption | exact bel_refl _ | apply bel_alloc | apply bel_drew))).grown hg7 (fun e => Hbne.out e.symm); have hm8 := hm7.setCell (a := ⟨g, 0, none⟩) (fun e => blk_no_map hG7 hm7 e.symm) (.slice a7 (D.length + 1) c7); obtain ⟨v0, st, wE, wF, hE, hS, hmF, hgF⟩ := entry9 hm8 Try.underlying100 (by have := HL.out; simp only [maxLen]; omega) zero3 (keyOf9 (mkS (textL d)) HKs.out) trivial (.int .i64 (D.length : Int)); have HRes := Lib.hid (idx_push (u := .slice a6 d.length c6) HI4.out (by repeat (first | assumption | exact bel_refl _ | apply bel_alloc | apply bel_drew)) (Own.below' HM6.out.1 (by repeat (first | assumption | exact bel_refl _ | apply bel_alloc | apply bel_drew))) (fun b hb => HM6.out.2.1 b hb) ho7 hg7 hn7 hG7 (by rw [kl_text] at hmF; exact hmF) (by rw [HFi.out]; rfl) hgF HRt.out HD.out HL.out); clear ho7 hg7 hn7 hG7 hm7 hm8 hmF hgF)
        | (go_simp; go_at_call 45; refine (clone_any (.slice a d.length c) d _ (HV4.out.below (by repeat (first | assumption | exact bel_refl _ | apply bel_alloc | apply bel_drew))) HDl.out).mono ?_; rintro e w6 ⟨v6, rfl, hm6⟩; obtain ⟨a6, c6, rfl, _⟩ := hm6.rd.open; have hx6 : Below w4.heap.size w4 w6 := bel_trans (by repeat (first | assumption | exact bel_refl _ | apply bel_alloc | apply bel_drew)) hm6.bel; have y0 : w6.cell? ⟨g, 0, none⟩ = some (.slice sa D.length sc) := (HI4.out.blk.next hx6).cell 0; have y1 : w6.cell? ⟨g, 1, none⟩ = some (.map (some bm)) := (HI4.out.blk.next hx6).cell 1; have y0a : ∀ ob : Obj, (w6.alloc ob).cell? ⟨g, 0, none⟩ = some (.slice sa D.length sc) := fun ob => (HI4.out.blk.next (bel_alloc hx6)).cell 0; have y1a : ∀ ob : Obj, (w6.alloc ob).cell? ⟨g, 1, none⟩ = some (.map (some bm)) := fun ob => (HI4.out.blk.next (bel_alloc hx6)).cell 1; have HM6 := Lib.hid hm6; clear hm6))
    all_goals (obtain ⟨F1, hI1, hF1, hT1⟩ := HRes.out)
    all_goals (refine hJ1 _ _ (Met.intro (hJ0 _ _ ?_)))
    all_goals (repeat apply Exists.intro)
    all_goals (exact ⟨⟨_, _, _, F1, Lib.hid hI1, Lib.hid (fun x hx => (hF1 x hx).imp_right (fun h => Nat.le_trans HB4.out.size h)), Lib.hid ((Turn.of HB4.out).trans hT1 (fun x hx => .inl hx))⟩, rfl⟩)
  case rest =>
    obtain ⟨sv', us', bf', F', HI', HF', HT'⟩ := hcut
    clear HI4 HV4 HDl hx4 n4 n5 Hgne Hbne HKs k0 k1
    obtain ⟨wa, rfl⟩ : ∃ x, x = wc := ⟨_, rfl⟩
    go_wp2_with fail
    go_loopw [11, 64] (fun _ i wr => ∃ (j : Nat) (F1 : Nat → Prop) (Q1 : Post), j ≤ d.length ∧ i = .int .i64 j ∧ Hid (Q1.n ≤ (entD D ++ entP (d.take j) D.length).length) ∧ Hid (IdxAt F1 wr g sv' us' bm pm bf' Q1 (D ++ [d]) (entD D ++ entP (d.take j) D.length)) ∧ Hid (∀ x, F1 x → F x ∨ w.heap.size ≤ x) ∧ Hid (Turn F w wr)) (fun _ i _ => d.length - (intOf i).toNat)
    case atStart => exact ⟨0, F', Q, by omega, rfl, Lib.hid (by have := HQn.out; rw [List.length_append]; omega), Lib.hid (by rw [List.take_zero, show entP [] D.length = [] from rfl, List.append_nil]; exact HI'.out), HF', HT'⟩
    case round =>
      clear HI' HF' HT'
      obtain ⟨j, F1, Q1, hj, rfl, HQ1, HI1, HF1, HT1⟩ := hrel
      have hVr := rdP_turn HV.out HT1.out HVF.out
      have hcell := rdP_cells hVr
      by_cases hlt : j < d.length
      · obtain ⟨p, hp⟩ : ∃ x, d[j]? = some x := ⟨d[j], List.getElem?_eq_getElem hlt⟩
        obtain ⟨b, o, rfl, c1, c2⟩ := hcell j p hp
        have HP := Lib.hid hp
        clear hcell hVr hp
        go_upto_region 16 with fail
        have HX := Lib.hid (Blk.new wr #[.string p.n, .string p.v] 75)
        have Hb5 := Lib.hid (below_alloc wr (.cells #[.string p.n, .string p.v] 75))
        generalize wr.alloc (.cells #[.string p.n, .string p.v] 75) = w5 at HX Hb5 ⊢
        have HI5 := Lib.hid (HI1.out.next Hb5.out)
        have HT5 := Lib.hid (HT1.out.next Hb5.out)
        have hfp := right_fit HRt.out p (List.mem_of_getElem? HP.out)
        have Hkn := Lib.hid (keyOf9 p.n hfp.1)
        have Hkv := Lib.hid (keyOf9 p.v hfp.2)
        have HXb := Lib.hid (show wr.heap.size < w5.heap.size ∧ ¬ F1 wr.heap.size from ⟨HX.out.lt, fun h => by have := HI1.out.lt _ h; omega⟩)
        clear hfp
        have k2 : w5.cell? ⟨g, 2, none⟩ = some (.map (some pm)) := HI5.out.blk.cell 2
        have x0 : w5.cell? ⟨wr.heap.size, 0, none⟩ = some (.string p.n) := HX.out.cell 0
        have hlook := fun n => (HI5.out.posts.outer.drewN n).look1 key9 Try.underlying101 (zero111 (w5.drewN n)) Hkn.out
        obtain ⟨mo, hU⟩ : ∃ mo : Option Nat, (Q1.f (kl p.n)).getD (.map none) = .map mo ∧ (∀ b, mo = some b → Q1.f (kl p.n) = some (.map (some b)) ∧ b = Q1.b (kl p.n)) ∧ (mo = none → Q1.f (kl p.n) = none) := by
          cases hq : Q1.f (kl p.n) with
          | none => exact ⟨none, rfl, (fun b hb => by cases hb), fun _ => rfl⟩
          | some u =>
            obtain ⟨rfl, _⟩ := HI5.out.posts.ptr _ _ hq
            exact ⟨some (Q1.b (kl p.n)), rfl, (fun b hb => by injection hb with hb; exact ⟨by rw [hb], hb.symm⟩), fun h => by cases h⟩
        have heq : ∀ n, (binOp .eql 111 (.map mo) (.map none)).run Try.prog (w5.drewN n) = .ok (.bool mo.isNone) (w5.drewN n) := fun n => by
          cases mo with
          | none => exact eqlNil _
          | some u => exact eqlSome _ _
        simp only [hU.1] at hlook
        have HU := Lib.hid hU.2
        clear hU
        go_quiet (fail)
        have HX6 := Lib.hid (HX.out.next (bel_drewN (bel_refl _) nq))
        have HI6 := Lib.hid (HI5.out.next (bel_drewN (bel_refl _) nq))
        have HT6 := Lib.hid (HT5.out.next (bel_drewN (bel_refl _) nq))
        have hz6 : w5.heap.size = (w5.drewN nq).heap.size := rfl
        rw [hz6] at HXb
        clear hlook heq k2 x0 hz6 HI5 HT5 Hb5 HX
        generalize w5.drewN nq = w6 at HX6 HI6 HT6 HXb ⊢
        go_upto_if 75 with fail
        go_cut [] (fun wc => ∃ (F2 : Nat → Prop) (Q2 : Post), Hid (Q2.n ≤ (entD D ++ entP (d.take j) D.length).length + 1) ∧ Hid (Q2.f (kl p.n) = some (.map (some (Q2.b (kl p.n))))) ∧ Hid (IdxAt F2 wc g sv' us' bm pm bf' Q2 (D ++ [d]) (entD D ++ entP (d.take j) D.length)) ∧ Hid (∀ x, F2 x → F x ∨ w.heap.size ≤ x) ∧ Hid (Turn F w wc) ∧ Hid (Blk wc wr.heap.size #[.string p.n, .string p.v] 75 ∧ ¬ F2 wr.heap.size))
        case first =>
          cases mo with
          | none =>
            have Hq := Lib.hid (HU.out.2 rfl)
            clear HU
            have k2 : w6.cell? ⟨g, 2, none⟩ = some (.map (some pm)) := HI6.out.blk.cell 2
            have x0 : w6.cell? ⟨wr.heap.size, 0, none⟩ = some (.string p.n) := HX6.out.cell 0
            have x0a : ∀ ob : Obj, (w6.alloc ob).cell? ⟨wr.heap.size, 0, none⟩ = some (.string p.n) := fun ob => (HX6.out.next (below_alloc w6 ob)).cell 0
            have k2a : ∀ ob : Obj, (w6.alloc ob).cell? ⟨g, 2, none⟩ = some (.map (some pm)) := fun ob => (HI6.out.blk.next (below_alloc w6 ob)).cell 2
            have hmm := @run_makeMap Try.prog
            have hnn := HI6.out.posts.nle
            have Hsm : Hid ((entD D ++ entP (d.take j) D.length).length ≤ 1024) := Lib.hid (ent_small HI6.out.ok (HI6.out.len) _)
            obtain ⟨w8, hrun, hm8, hg8⟩ := (HI6.out.posts.outer.alloc (.map #[] 0)).drew.put key9 Try.underlying101 (by have := Hsm.out; simp only [maxLen]; omega) (.map (some w6.heap.size)) Hkn.out trivial
            have HN := Lib.hid (idx_name HI6.out Hq.out HQ1.out hm8 (by rw [Hq.out]; rfl) ⟨hg8.os, hg8.tape, hg8.output, hg8.size, hg8.block⟩)
            have HTm : Hid (Turn (fun x => x = pm) (w6.alloc (.map #[] 0)).drew w8) := Lib.hid (Turn.grown hg8 (fun b hb => by injection hb with hb; exact hb.symm))
            have HTg : Hid (∀ x, x = pm → F x ∨ w.heap.size ≤ x) := Lib.hid (fun x hx => HF1.out x (hx ▸ HI6.out.posts.Fpm))
            have HXn : Hid (Blk w8 wr.heap.size #[.string p.n, .string p.v] 75) := Lib.hid (blk_keep HTm.out (HX6.out.next (bel_drew (bel_alloc (bel_refl w6)))) (fun e => blk_no_map HX6.out HI6.out.posts.outer e))
            clear hm8 hg8 hnn
            go_wp2_with fail
            go_region_law (fail)
            all_goals (go_wp2_with fail)
            all_goals go_meet
            all_goals (exact ⟨_, _, Lib.hid (Nat.succ_le_succ HQ1.out), Lib.hid (name_same _ _ _), HN, Lib.hid (fun x hx => by
              rcases hx with hx | hx
              · exact HF1.out x hx
              · right; have := HT6.out.size; omega), Lib.hid (((HT6.out.alloc _).next (bel_drew (bel_refl _))).trans HTm.out (fun x hx => HTg.out x hx)), Lib.hid ⟨HXn.out, fun h => h.elim HXb.out.2 (fun e => by have := HXb.out.1; omega)⟩⟩)
          | some bq =>
            have Hq := Lib.hid (HU.out.1 bq rfl)
            clear HU
            go_wp2_with fail
            go_meet
            case rel => exact ⟨F1, Q1, Lib.hid (Nat.le_succ_of_le HQ1.out), Lib.hid (by rw [Hq.out.1, Hq.out.2]), HI6, HF1, HT6, Lib.hid ⟨HX6.out, HXb.out.2⟩⟩
        case rest =>
          obtain ⟨F2, Q2, HQ2, Hf2, HI2, HF2, HT2, HX2⟩ := hcut
          clear HX6 HI6 HT6 HXb HU HI1 HF1 HT1 HQ1 Hkn
          obtain ⟨w2, rfl⟩ : ∃ x, x = wc := ⟨_, rfl⟩
          have hfp := right_fit HRt.out p (List.mem_of_getElem? HP.out)
          have Hkn := Lib.hid (keyOf9 p.n hfp.1)
          have k2 : w2.cell? ⟨g, 2, none⟩ = some (.map (some pm)) := HI2.out.blk.cell 2
          have x0 : w2.cell? ⟨wr.heap.size, 0, none⟩ = some (.string p.n) := HX2.out.1.cell 0
          have x1 : w2.cell? ⟨wr.heap.size, 1, none⟩ = some (.string p.v) := HX2.out.1.cell 1
          obtain ⟨_, hp2, hp3, hp4, hp5⟩ := HI2.out.posts.ptr _ _ Hf2.out
          have hl1 := HI2.out.posts.outer.look1 key9 Try.underlying101 (zero111 w2) Hkn.out
          rw [Hf2.out] at hl1
          simp only [Option.getD] at hl1
          have hl2 := hp4.look1 key9 Try.underlying111 (zero52 w2) Hkv.out
          clear hfp
          obtain ⟨hrow, hrowF⟩ := HI2.out.posts.look (kl p.n) (kl p.v)
          have Hrow := Lib.hid hrow
          have HrowF := Lib.hid hrowF
          have Hyl := Lib.hid (yOf_len (entD D ++ entP (d.take j) D.length) (kl p.n) (kl p.v))
          have Hsm : Hid ((entD D ++ entP (d.take j) D.length).length ≤ 1024) := Lib.hid (ent_small HI2.out.ok (HI2.out.len) _)
          have Hp4 := Lib.hid hp4
          have Hp5 := Lib.hid hp5
          clear hrow hrowF hp2 hp3 hp4 hp5
          generalize hv0 : (Q2.g (kl p.n) (kl p.v)).getD (.slice none 0 0) = v0 at *
          have Hv0 := Lib.hid hv0
          clear hv0
          have hx2 := bel_refl w2
          have HL2 : Hid (∀ W, Below w2.heap.size w2 W → (Instr.lookup 111 (.map (some (Q2.b (kl p.n)))) (.string p.v) false).run Try.prog W = .ok v0 W) := Lib.hid (fun W hW => by
            rw [← Hv0.out]
            exact (Hp4.out.below hW).look1 key9 Try.underlying111 (zero52 W) Hkv.out)
          have HSS : Hid (∀ w', Turn (fun x => v0.ownBlock = some x ∨ x = Q2.b (kl p.n)) w2 w' → w'.cell? ⟨g, 2, none⟩ = some (.map (some pm)) ∧ w'.cell? ⟨wr.heap.size, 0, none⟩ = some (.string p.n) ∧ w'.cell? ⟨wr.heap.size, 1, none⟩ = some (.string p.v) ∧ (Instr.lookup 101 (.map (some pm)) (.string p.n) false).run Try.prog w' = .ok (.map (some (Q2.b (kl p.n)))) w') := Lib.hid (fun w' ht => by
            have hG := blk_keep ht HI2.out.blk (by
              rintro (e | e)
              · exact own_no_blk Hrow.out HI2.out.blk (by decide) e
              · exact blk_no_map HI2.out.blk Hp4.out e)
            have hX := blk_keep ht HX2.out.1 (by
              rintro (e | e)
              · exact own_no_blk Hrow.out HX2.out.1 (by decide) e
              · exact blk_no_map HX2.out.1 Hp4.out e)
            have hO := map_keep ht HI2.out.posts.outer (by
              rintro (e | e)
              · exact own_no_map Hrow.out HI2.out.posts.outer e
              · exact (HI2.out.posts.ptr _ _ Hf2.out).2.2.1 e.symm)
            have hl := hO.look1 key9 Try.underlying101 (zero111 w') Hkn.out
            rw [Hf2.out] at hl
            exact ⟨hG.cell 2, hX.cell 0, hX.cell 1, hl⟩)
          clear hl1 hl2 k2 x0 x1
          go_upto_region 18 with fail
          refine wp_region_noPanic ?_
          refine wp_region_held_drew (S := (fun w' => w'.cell? ⟨g, 2, none⟩ = some (.map (some pm)) ∧ w'.cell? ⟨wr.heap.size, 0, none⟩ = some (.string p.n) ∧ w'.cell? ⟨wr.heap.size, 1, none⟩ = some (.string p.v) ∧ (Instr.lookup 101 (.map (some pm)) (.string p.n) false).run Try.prog w' = .ok (.map (some (Q2.b (kl p.n)))) w')) (by kernel_rfl) ?hS0 (fun hHeld => ?_)
          case hS0 => (try dsimp only); (first | (with_reducible exact HSS.out _ HT8.out) | (with_reducible exact HSS.out _ HT7.out) | (with_reducible exact HSS.out _ (Turn.of (by repeat (first | assumption | exact bel_refl _ | apply bel_alloc | apply bel_drew)))))
          refine wpAnyH_take (i := 0) (oi := ?o0) (v := ?v0) ?hi0 (by kernel_rfl) (by kernel_rfl) (by kernel_rfl) (fun _ _ _ h => h) (Or.inl ⟨?hw0, ?hy0⟩) (by assumption) ?rest0
          case hi0 => (simp only [List.getElem?_toArray, List.getElem?_cons_succ, List.getElem?_cons_zero]; rfl)
          case hw0 => rfl
          case hy0 => (intro w hSw; (try dsimp only at hSw); go_simp; try (with_reducible rfl))
          try simp only [Act.put, List.setIfInBounds_toArray, List.set_cons_zero, List.set_cons_succ]
          refine wpAnyH_take (i := 1) (oi := ?o1) (v := ?v1) ?hi1 (by kernel_rfl) (by kernel_rfl) (by kernel_rfl) (fun _ _ _ h => h) (Or.inl ⟨?hw1, ?hy1⟩) (by assumption) ?rest1
          case hi1 => (simp only [List.getElem?_toArray, List.getElem?_cons_succ, List.getElem?_cons_zero]; rfl)
          case hw1 => rfl
          case hy1 => (intro w hSw; (try dsimp only at hSw); go_simp; try (with_reducible rfl))
          try simp only [Act.put, List.setIfInBounds_toArray, List.set_cons_zero, List.set_cons_succ]
          refine wpAnyH_take (i := 2) (oi := ?o2) (v := ?v2) ?hi2 (by kernel_rfl) (by kernel_rfl) (by kernel_rfl) (fun _ _ _ h => h) (Or.inl ⟨?hw2, ?hy2⟩) (by assumption) ?rest2
          case hi2 => (simp only [List.getElem?_toArray, List.getElem?_cons_succ, List.getElem?_cons_zero]; rfl)
          case hw2 => rfl
          case hy2 => (intro w hSw; (try dsimp only at hSw); go_simp; try (with_reducible rfl))
          try simp only [Act.put, List.setIfInBounds_toArray, List.set_cons_zero, List.set_cons_succ]
          refine wpAnyH_take (i := 3) (oi := ?o3) (v := ?v3) ?hi3 (by kernel_rfl) (by kernel_rfl) (by kernel_rfl) (fun _ _ _ h => h) (Or.inl ⟨?hw3, ?hy3⟩) (by assumption) ?rest3
          case hi3 => (simp only [List.getElem?_toArray, List.getElem?_cons_succ, List.getElem?_cons_zero]; rfl)
          case hw3 => rfl
          case hy3 => (intro w hSw; (try dsimp only at hSw); go_simp; try (with_reducible rfl))
          try simp only [Act.put, List.setIfInBounds_toArray, List.set_cons_zero, List.set_cons_succ]
          refine wpAnyH_take (i := 4) (oi := ?o4) (v := ?v4) ?hi4 (by kernel_rfl) (by kernel_rfl) (by kernel_rfl) (fun _ _ _ h => h) (Or.inl ⟨?hw4, ?hy4⟩) (by assumption) ?rest4
          case hi4 => (simp only [List.getElem?_toArray, List.getElem?_cons_succ, List.getElem?_cons_zero]; rfl)
          case hw4 => rfl
          case hy4 => (intro w hSw; (try dsimp only at hSw); go_simp; try (with_reducible rfl))
          try simp only [Act.put, List.setIfInBounds_toArray, List.set_cons_zero, List.set_cons_succ]
          refine wpAnyH_take (i := 5) (oi := ?o5) (v := ?v5) ?hi5 (by kernel_rfl) (by kernel_rfl) (by kernel_rfl) (fun _ _ _ h => h) (Or.inl ⟨?hw5, ?hy5⟩) (by assumption) ?rest5
          case hi5 => (simp only [List.getElem?_toArray, List.getElem?_cons_succ, List.getElem?_cons_zero]; rfl)
          case hw5 => rfl
          case hy5 => (intro w hSw; (try dsimp only at hSw); go_simp; try (with_reducible rfl))
          try simp only [Act.put, List.setIfInBounds_toArray, List.set_cons_zero, List.set_cons_succ]
          refine wpAnyH_take (i := 6) (oi := ?o6) (v := ?v6) ?hi6 (by kernel_rfl) (by kernel_rfl) (by kernel_rfl) (fun _ _ _ h => h) (Or.inl ⟨?hw6, ?hy6⟩) (by assumption) ?rest6
          case hi6 => (simp only [List.getElem?_toArray, List.getElem?_cons_succ, List.getElem?_cons_zero]; rfl)
          case hw6 => rfl
          case hy6 => (intro w hSw; (try dsimp only at hSw); go_simp; try (with_reducible rfl))
          try simp only [Act.put, List.setIfInBounds_toArray, List.set_cons_zero, List.set_cons_succ]
          refine wpAnyH_take (i := 7) (oi := ?o7) (v := ?v7) ?hi7 (by kernel_rfl) (by kernel_rfl) (by kernel_rfl) (fun _ _ _ h => h) (Or.inl ⟨?hw7, ?hy7⟩) (by assumption) ?rest7
          case hi7 => (simp only [List.getElem?_toArray, List.getElem?_cons_succ, List.getElem?_cons_zero]; rfl)
          case hw7 => rfl
          case hy7 => (intro w hSw; (try dsimp only at hSw); go_simp; try (with_reducible rfl))
          try simp only [Act.put, List.setIfInBounds_toArray, List.set_cons_zero, List.set_cons_succ]
          refine wpAnyH_take (i := 8) (oi := ?o8) (v := ?v8) ?hi8 (by kernel_rfl) (by kernel_rfl) (by kernel_rfl) (fun _ _ _ h => h) (Or.inl ⟨?hw8, ?hy8⟩) (by assumption) ?rest8
          case hi8 => (simp only [List.getElem?_toArray, List.getElem?_cons_succ, List.getElem?_cons_zero]; rfl)
          case hw8 => rfl
          case hy8 => (intro w hSw; (try dsimp only at hSw); go_simp; try (with_reducible rfl))
          try simp only [Act.put, List.setIfInBounds_toArray, List.set_cons_zero, List.set_cons_succ]
          refine wpAnyH_take (i := 9) (oi := ?o9) (v := ?v9) ?hi9 (by kernel_rfl) (by kernel_rfl) (by kernel_rfl) (fun _ _ _ h => h) (Or.inl ⟨?hw9, ?hy9⟩) (by assumption) ?rest9
          case hi9 => (simp only [List.getElem?_toArray, List.getElem?_cons_succ, List.getElem?_cons_zero]; rfl)
          case hw9 => rfl
          case hy9 => (intro w hSw; (try dsimp only at hSw); go_simp; try (with_reducible rfl))
          try simp only [Act.put, List.setIfInBounds_toArray, List.set_cons_zero, List.set_cons_succ]
          refine wpAnyH_take (i := 10) (oi := ?o10) (v := ?v10) ?hi10 (by kernel_rfl) (by kernel_rfl) (by kernel_rfl) (fun _ _ _ h => h) (Or.inl ⟨?hw10, ?hy10⟩) (by assumption) ?rest10
          case hi10 => (simp only [List.getElem?_toArray, List.getElem?_cons_succ, List.getElem?_cons_zero]; rfl)
          case hw10 => rfl
          case hy10 => (intro w hSw; (try dsimp only at hSw); go_simp; try (with_reducible rfl))
          try simp only [Act.put, List.setIfInBounds_toArray, List.set_cons_zero, List.set_cons_succ]
          refine wpAnyH_take (i := 11) (oi := ?o11) (v := ?v11) ?hi11 (by kernel_rfl) (by kernel_rfl) (by kernel_rfl) (fun _ _ _ h => h) (Or.inl ⟨?hw11, ?hy11⟩) (by assumption) ?rest11
          case hi11 => (simp only [List.getElem?_toArray, List.getElem?_cons_succ, List.getElem?_cons_zero]; rfl)
          case hw11 => rfl
          case hy11 => (intro w hSw; (try dsimp only at hSw); go_simp; try (with_reducible rfl))
          try simp only [Act.put, List.setIfInBounds_toArray, List.set_cons_zero, List.set_cons_succ]
          refine wpAnyH_take (i := 12) (oi := ?o12) (v := ?v12) ?hi12 (by kernel_rfl) (by kernel_rfl) (by kernel_rfl) (fun _ _ _ h => h) (Or.inl ⟨?hw12, ?hy12⟩) (by assumption) ?rest12
          case hi12 => (simp only [List.getElem?_toArray, List.getElem?_cons_succ, List.getElem?_cons_zero]; rfl)
          case hw12 => rfl
          case hy12 => (intro w hSw; (try dsimp only at hSw); go_simp; try (with_reducible rfl))
          try simp only [Act.put, List.setIfInBounds_toArray, List.set_cons_zero, List.set_cons_succ]
          refine wpAnyH_take (i := 13) (oi := ?o13) (v := ?v13) ?hi13 (by kernel_rfl) (by kernel_rfl) (by kernel_rfl) (fun _ _ _ h => h) (Or.inl ⟨?hw13, ?hy13⟩) (by assumption) ?rest13
          case hi13 => (simp only [List.getElem?_toArray, List.getElem?_cons_succ, List.getElem?_cons_zero]; rfl)
          case hw13 => rfl
          case hy13 => (intro w hSw; (try dsimp only at hSw); go_simp; try (with_reducible rfl))
          try simp only [Act.put, List.setIfInBounds_toArray, List.set_cons_zero, List.set_cons_succ]
          refine wpAnyH_take (i := 14) (oi := ?o14) (v := ?v14) ?hi14 (by kernel_rfl) (by kernel_rfl) (by kernel_rfl) (fun _ _ _ h => h) (Or.inl ⟨?hw14, ?hy14⟩) (by assumption) ?rest14
          case hi14 => (simp only [List.getElem?_toArray, List.getElem?_cons_succ, List.getElem?_cons_zero]; rfl)
          case hw14 => rfl
          case hy14 => (intro w hSw; (try dsimp only at hSw); go_simp; try (with_reducible rfl))
          try simp only [Act.put, List.setIfInBounds_toArray, List.set_cons_zero, List.set_cons_succ]
          refine wpAnyH_take (i := 15) (oi := ?o15) (v := ?v15) ?hi15 (by kernel_rfl) (by kernel_rfl) (by kernel_rfl) (fun _ _ _ h => h) (Or.inl ⟨?hw15, ?hy15⟩) (by assumption) ?rest15
          case hi15 => (simp only [List.getElem?_toArray, List.getElem?_cons_succ, List.getElem?_cons_zero]; rfl)
          case hw15 => rfl
          case hy15 => (intro w hSw; (try dsimp only at hSw); go_simp; try (with_reducible rfl))
          try simp only [Act.put, List.setIfInBounds_toArray, List.set_cons_zero, List.set_cons_succ]
          refine wpAnyH_take (i := 16) (oi := ?o16) (v := ?v16) ?hi16 (by kernel_rfl) (by kernel_rfl) (by kernel_rfl) (fun _ _ _ h => h) (Or.inl ⟨?hw16, ?hy16⟩) (by assumption) ?rest16
          case hi16 => (simp only [List.getElem?_toArray, List.getElem?_cons_succ, List.getElem?_cons_zero]; rfl)
          case hw16 => rfl
          case hy16 => (intro w hSw; (try dsimp only at hSw); go_simp; try (with_reducible rfl))
          try simp only [Act.put, List.setIfInBounds_toArray, List.set_cons_zero, List.set_cons_succ]
          refine wpAnyH_take (i := 17) (oi := ?o17) (v := ?v17) ?hi17 (by kernel_rfl) (by kernel_rfl) (by kernel_rfl) (fun _ _ _ h => h) (Or.inl ⟨?hw17, ?hy17⟩) (by assumption) ?rest17
          case hi17 => (simp only [List.getElem?_toArray, List.getElem?_cons_succ, List.getElem?_cons_zero]; rfl)
          case hw17 => rfl
          case hy17 => (intro w hSw; (try dsimp only at hSw); go_simp; try (with_reducible rfl))
          try simp only [Act.put, List.setIfInBounds_toArray, List.set_cons_zero, List.set_cons_succ]
          refine wpAnyH_take (i := 19) (oi := ?o19) (v := ?v19) ?hi19 (by kernel_rfl) (by kernel_rfl) (by kernel_rfl) (fun _ _ _ h => h) (Or.inl ⟨?hw19, ?hy19⟩) (by assumption) ?rest19
          case hi19 => (simp only [List.getElem?_toArray, List.getElem?_cons_succ, List.getElem?_cons_zero]; rfl)
          case hw19 => rfl
          case hy19 => (intro w hSw; (try dsimp only at hSw); go_simp; try (with_reducible rfl))
          try simp only [Act.put, List.setIfInBounds_toArray, List.set_cons_zero, List.set_cons_succ]
          refine wpAnyH_ready (rs := [18, 20]) (by kernel_rfl) (by simp) ?_
          refine AllReadyH.cons rfl (fun K hK => ?_) (AllReadyH.cons rfl (fun K hK => ?_) AllReadyH.nil)
          have hl2 := HL2.out w2.drew (bel_drew (bel_refl w2))
          go_simp
          refine hK.out _ _ ?hS18 (fun hHeld2 => ?_)
          case hS18 => (try dsimp only); (first | (with_reducible exact HSS.out _ HT8.out) | (with_reducible exact HSS.out _ HT7.out) | (with_reducible exact HSS.out _ (Turn.of (by repeat (first | assumption | exact bel_refl _ | apply bel_alloc | apply bel_drew)))))
          clear hK K hHeld; have hHeld := hHeld2; clear hHeld2
          try simp only [Act.put, List.setIfInBounds_toArray, List.set_cons_zero, List.set_cons_succ]
          refine wpAnyH_ready (rs := [20]) (by kernel_rfl) (by simp) ?_
          refine AllReadyH.cons rfl (fun K hK => ?_) AllReadyH.nil
          clear hl2
          go_simp
          refine hK.out _ _ ?hS20 (fun hHeld2 => ?_)
          case hS20 => (try dsimp only); (first | (with_reducible exact HSS.out _ HT8.out) | (with_reducible exact HSS.out _ HT7.out) | (with_reducible exact HSS.out _ (Turn.of (by repeat (first | assumption | exact bel_refl _ | apply bel_alloc | apply bel_drew)))))
          clear hK K hHeld; have hHeld := hHeld2; clear hHeld2
          try simp only [Act.put, List.setIfInBounds_toArray, List.set_cons_zero, List.set_cons_succ]
          rotate_left 1
          go_simp
          refine hK.out _ _ ?hS20 (fun hHeld2 => ?_)
          case hS20 => (try dsimp only); (first | (with_reducible exact HSS.out _ HT8.out) | (with_reducible exact HSS.out _ HT7.out) | (with_reducible exact HSS.out _ (Turn.of (by repeat (first | assumption | exact bel_refl _ | apply bel_alloc | apply bel_drew)))))
          clear hK K hHeld; have hHeld := hHeld2; clear hHeld2
          try simp only [Act.put, List.setIfInBounds_toArray, List.set_cons_zero, List.set_cons_succ]
          refine wpAnyH_ready (rs := [18]) (by kernel_rfl) (by simp) ?_
          refine AllReadyH.cons rfl (fun K hK => ?_) AllReadyH.nil
          have hl2 := HL2.out (w2.alloc (.cells #[.int .i64 (D.length : Int)] 3)).drew (bel_drew (bel_alloc (bel_refl w2)))
          go_simp
          clear hl2
          refine hK.out _ _ ?hS18 (fun hHeld2 => ?_)
          case hS18 => (try dsimp only); (first | (with_reducible exact HSS.out _ HT8.out) | (with_reducible exact HSS.out _ HT7.out) | (with_reducible exact HSS.out _ (Turn.of (by repeat (first | assumption | exact bel_refl _ | apply bel_alloc | apply bel_drew)))))
          clear hK K hHeld; have hHeld := hHeld2; clear hHeld2
          try simp only [Act.put, List.setIfInBounds_toArray, List.set_cons_zero, List.set_cons_succ]
          all_goals (
            have hAB : Below w2.heap.size w2 (w2.alloc (.cells #[.int .i64 (D.length : Int)] 3)).drew := bel_drew (bel_alloc (bel_refl w2))
            refine wpAnyH_ready (rs := [21]) (by kernel_rfl) (by simp) ?_
            refine AllReadyH.cons rfl (fun K hK => ?_) AllReadyH.nil
            refine step_app (by rfl) _ _ 52 (by rfl) ok52 (by rfl) (by rfl) (Hrow.out.below' hAB) (by exact rd_lit 1 #[_] 1 (by simp) one_le rfl) (by exact one_int _) (by have := Hyl.out; have := Hsm.out; simp only [maxLen]; omega) (by have := Hyl.out; have := Hsm.out; omega) ?_
            intro v7 w7 ho7 hg7 hn7
            obtain ⟨_, a7, c7, rfl, _⟩ := ho7.rd
            have HT7 : Hid (Turn (fun x => v0.ownBlock = some x ∨ x = Q2.b (kl p.n)) w2 w7) := Lib.hid ((Turn.of hAB).trans (Turn.grown (F := fun x => v0.ownBlock = some x ∨ x = Q2.b (kl p.n)) hg7 (fun b hb => .inl hb)) (fun x hx => .inl hx))
            have hm7 := map_keep (Turn.grown (F := fun x => v0.ownBlock = some x) hg7 (fun b hb => hb)) (Hp4.out.below hAB) (fun e => own_no_map Hrow.out Hp4.out e)
            obtain ⟨w8, hrun, hm8, hg8⟩ := hm7.put key9 Try.underlying111 (by have := Hp5.out; have := Hsm.out; simp only [maxLen]; omega) (.slice a7 ((yOf (entD D ++ entP (d.take j) D.length) (kl p.n) (kl p.v)).length + 1) c7) Hkv.out trivial
            have HT8 : Hid (Turn (fun x => v0.ownBlock = some x ∨ x = Q2.b (kl p.n)) w2 w8) := Lib.hid (HT7.out.trans (Turn.grown (F := fun x => v0.ownBlock = some x ∨ x = Q2.b (kl p.n)) hg8 (fun b hb => .inr (by injection hb with hb; exact hb.symm))) (fun x hx => .inl hx))
            have HRes := Lib.hid (idx_app HI2.out Hf2.out hAB (by rw [Hv0.out]; exact hg7) (by rw [Hv0.out]; exact hn7) ho7 hm8 hg8)
            clear ho7 hg7 hn7 hm7 hm8 hg8
            refine hK.out _ _ ?hS21 (fun hHeld2 => ?_)
            case hS21 => (try dsimp only); (first | (with_reducible exact HSS.out _ HT8.out) | (with_reducible exact HSS.out _ HT7.out) | (with_reducible exact HSS.out _ (Turn.of (by repeat (first | assumption | exact bel_refl _ | apply bel_alloc | apply bel_drew)))))
            clear hK K hHeld; have hHeld := hHeld2; clear hHeld2
            try simp only [Act.put, List.setIfInBounds_toArray, List.set_cons_zero, List.set_cons_succ]
            refine wpAnyH_ready (rs := [22]) (by kernel_rfl) (by simp) ?_
            refine AllReadyH.cons rfl (fun K hK => ?_) AllReadyH.nil
            go_simp
            refine hK.out _ _ ?hS22 (fun hHeld2 => ?_)
            case hS22 => (try dsimp only); (first | (with_reducible exact HSS.out _ HT8.out) | (with_reducible exact HSS.out _ HT7.out) | (with_reducible exact HSS.out _ (Turn.of (by repeat (first | assumption | exact bel_refl _ | apply bel_alloc | apply bel_drew)))))
            clear hK K hHeld; have hHeld := hHeld2; clear hHeld2
            try simp only [Act.put, List.setIfInBounds_toArray, List.set_cons_zero, List.set_cons_succ]
            refine wpAnyH_done (by kernel_rfl) ?_ _
            refine NoPanic.normal ?_
            go_wp2_with fail
            obtain ⟨hI9, hF9, hT9⟩ := HRes.out
            have HE : Hid (entD D ++ entP (d.take (j + 1)) D.length = entD D ++ entP (d.take j) D.length ++ [(kl p.n, kl p.v, D.length)]) := Lib.hid (by rw [entP_take HP.out, List.append_assoc])
            go_roundw
            case rel => exact ⟨j + 1, _, (Q2.push (kl p.n) (kl p.v) (.slice a7 ((yOf (entD D ++ entP (d.take j) D.length) (kl p.n) (kl p.v)).length + 1) c7)), by omega, by go_num, Lib.hid (by rw [HE.out, List.length_append]; exact HQ2.out), Lib.hid (by rw [HE.out]; exact hI9), Lib.hid (fun x hx => by
              rcases hx with hx | hx
              · exact HF2.out x hx
              · rcases hF9 x hx with h | h
                · exact HF2.out x h
                · right; have := HT2.out.size; omega), Lib.hid (HT2.out.trans hT9 (fun x hx => HF2.out x hx))⟩
            case measure => simp [intOf]; omega)
      · obtain rfl : j = d.length := by omega
        rw [List.take_length] at HI1
        go_wp2_with fail
        refine bodyPost_ret (v := .tuple #[.int .i64 (D.length : Int), .int .i64 0]) (by simp [results, Try.results25, go_sem, *]) rfl ?_
        rw [List.take_length] at HQ1
        exact ⟨F1, rfl, ⟨_, _, _, _, _, _, by rw [entD_snoc]; exact HI1.out, by rw [entD_snoc]; exact HQ1.out⟩, HF1.out, HT1.out⟩
end Go.Proofs.Ytmmilgcbjpbelaa
