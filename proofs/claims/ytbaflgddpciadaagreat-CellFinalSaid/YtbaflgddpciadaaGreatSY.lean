/- Plain facts of trim: what is left of each chain; how many versions; what a map's data say as a function. A store of which some series have been trimmed. The steps of trim, on what stands in memory. Both ranges of trim: what each step leaves; where it begins, where it ends. trim (44). Cut (20), Retain (23). -/
import Derived.Test.YtbaflgddpciadaaGreatSQ
import Derived.Test.YtbaflgddpciadaaGreatKtU
set_option linter.unusedVariables false
set_option linter.unusedSimpArgs false
namespace Go.Proofs.YtbaflgddpciadaaGreat
open Go.RowKit Go.Kt Go.Ix Go.Sx
set_option maxRecDepth 100000

/-! ### plain -/
def trimL (φ : Int → List Ver → List Ver) (L : List It) : List It := (L.map fun x => { x with l := φ x.time x.l }).filter fun x => decide (x.l ≠ [])
variable {φ : Int → List Ver → List Ver}
theorem trimL_mem {L : List It} {y : It} : y ∈ trimL φ L ↔ ∃ x ∈ L, y = { x with l := φ x.time x.l } ∧ φ x.time x.l ≠ [] := by
  unfold trimL
  rw [List.mem_filter, List.mem_map]
  constructor
  · rintro ⟨⟨x, hx, rfl⟩, h⟩
    exact ⟨x, hx, rfl, by simpa using h⟩
  · rintro ⟨x, hx, rfl, h⟩
    exact ⟨⟨x, hx, rfl⟩, by simpa using h⟩
theorem trimL_rise {L : List It} (h : Rise ltS L) : Rise ltS (trimL φ L) := by
  unfold trimL
  refine List.Pairwise.sublist List.filter_sublist ?_
  rw [List.pairwise_map]
  exact h
theorem trimL_ret {L : List It} (hf : ∀ x ∈ L, x.l ≠ []) (t : Int) : trimL (fun z l => if z < t then [] else l) L = retL L t := by
  induction L with
  | nil => rfl
  | cons x L ih =>
    have ih' := ih (fun y hy => hf y (by simp [hy]))
    unfold trimL retL at ih' ⊢
    rw [List.map_cons, List.filter_cons, List.filter_cons, ih']
    have hx := hf x (by simp)
    by_cases h : x.time < t
    · have h2 : ¬ t ≤ x.time := by omega
      simp [h, h2]
    · have h2 : t ≤ x.time := by omega
      simp [h, h2, hx]
theorem lenL_trim (hφ : ∀ z l, (φ z l).length ≤ l.length) (L : List It) : lenL (trimL φ L) ≤ lenL L := by
  induction L with
  | nil => exact Nat.le_refl _
  | cons x L ih =>
    have h := hφ x.time x.l
    unfold trimL at ih ⊢
    rw [List.map_cons, List.filter_cons]
    split
    · rw [lenL_cons, lenL_cons]; simp only; omega
    · rw [lenL_cons]; omega
theorem trimL_ok (hφ : ∀ z l, Chain l → Chain (φ z l)) {L : List It} (h : StoreOk ltS L) : StoreOk ltS (trimL φ L) := by
  refine ⟨trimL_rise h.rise, fun y hy => ?_, fun y hy => ?_⟩
  · obtain ⟨x, hx, rfl, _⟩ := trimL_mem.1 hy
    exact hφ _ _ (h.chain x hx)
  · obtain ⟨x, hx, rfl, hn⟩ := trimL_mem.1 hy
    exact hn
theorem lenL_filter_le (L : List It) (p : It → Bool) : lenL (L.filter p) ≤ lenL L := lenL_sub List.filter_sublist
theorem len_split (L : List It) (p q : It → Bool) (h : ∀ x ∈ L, q x = true → p x = false) : lenL (L.filter fun x => p x || q x) = lenL (L.filter p) + lenL (L.filter q) := by
  induction L with
  | nil => rfl
  | cons x L ih =>
    have ih' := ih (fun y hy => h y (by simp [hy]))
    have hx := h x (by simp)
    rw [List.filter_cons, List.filter_cons, List.filter_cons]
    cases hq : q x with
    | true =>
      rw [hx hq]
      simp only [Bool.or_true, if_true, Bool.false_eq_true, if_false]
      rw [lenL_cons, lenL_cons, ih']
      omega
    | false =>
      cases hp : p x with
      | true =>
        simp only [Bool.or_false, if_true, Bool.false_eq_true, if_false]
        rw [lenL_cons, lenL_cons, ih']
        omega
      | false =>
        simp only [Bool.or_false, Bool.false_eq_true, if_false]
        exact ih'
theorem len_congr (L : List It) (p q : It → Bool) (h : ∀ x ∈ L, p x = q x) : lenL (L.filter p) = lenL (L.filter q) := by rw [List.filter_congr h]
/-- of one set and one time there is one chain -/
theorem len_one {L : List It} (hL : Rise ltS L) (d : List Pr) (z : Int) {x : It} (hx : x ∈ L) (h1 : x.set = d) (h2 : x.time = z) : lenL (L.filter fun y => decide (y.set = d ∧ y.time = z)) = x.l.length := by
  have hm : x ∈ L.filter fun y => decide (y.set = d ∧ y.time = z) := List.mem_filter.2 ⟨hx, by simp [h1, h2]⟩
  have hr : Rise ltS (L.filter fun y => decide (y.set = d ∧ y.time = z)) := List.Pairwise.sublist List.filter_sublist hL
  have hall : ∀ y ∈ L.filter (fun y => decide (y.set = d ∧ y.time = z)), y = x := fun y hy => by
    obtain ⟨hy1, hy2⟩ := List.mem_filter.1 hy
    simp only [decide_eq_true_eq] at hy2
    exact rise_one line_sets hL hy1 hx (hy2.1.trans h1.symm) (hy2.2.trans h2.symm)
  match hc : L.filter (fun y => decide (y.set = d ∧ y.time = z)) with
  | [] => rw [hc] at hm; cases hm
  | [a] =>
    rw [hc] at hall
    rw [hc, hall a (by simp), lenL_cons, lenL_nil, Nat.add_zero]
  | a :: b :: r =>
    exfalso
    rw [hc] at hall hr
    have ha := hall a (by simp)
    have hb := hall b (by simp)
    have := (List.pairwise_cons.1 hr).1 b (by simp)
    rw [ha, hb] at this
    exact ahead_irr line_sets x this
theorem len_none {L : List It} {p : It → Bool} (h : ∀ x ∈ L, p x = false) : lenL (L.filter p) = 0 := by
  rw [List.filter_eq_nil_iff.2 (fun x hx => by rw [h x hx]; simp)]
  rfl
/-- a time's key, and back -/
def zT : Lit → Int
  | .int _ n => n
  | _ => 0
/-- a set's key -/
def kD (d : List Pr) : Lit := .string (textL d)
/-- how many versions stand in what is done -/
def cntD (T : List It) (left : Lit → Bool) : Nat := lenL (T.filter fun it => !left (kD it.set))
def cntK (T : List It) (left : Lit → Bool) (k : Lit) (lf : Lit → Bool) : Nat := cntD T left + lenL (T.filter fun it => (kD it.set).sameKey k && !lf (litT it.time))

/-! ### what a map's data say -/
def SayD (D : DataW Value) (f : Lit → Option Value) : Prop := ∀ kl, (f kl = none → Maps.has D kl = false) ∧ ∀ v, f kl = some v → Maps.has D kl = true ∧ ∀ z, D.atKey kl z = .held v
open Classical in
/-- the function with one key taken out -/
noncomputable def cutF (f : Lit → Option Value) (k : Lit) : Lit → Option Value := fun x => if x = k then none else f x
theorem cutF_same (f : Lit → Option Value) (k : Lit) : cutF f k k = none := by unfold cutF; rw [if_pos rfl]
theorem cutF_other (f : Lit → Option Value) {k x : Lit} (h : x ≠ k) : cutF f k x = f x := by unfold cutF; rw [if_neg h]
theorem SayD.has {D : DataW Value} {f : Lit → Option Value} (h : SayD D f) (kl : Lit) : Maps.has D kl = (f kl).isSome := by
  cases hf : f kl with
  | none => rw [(h kl).1 hf]; rfl
  | some v => rw [((h kl).2 v hf).1]; rfl
theorem SayD.put {D : DataW Value} {f : Lit → Option Value} (h : SayD D f) (hD : Maps.IsMap D) {kl : Lit} (hk : WideAt.IsKeyLit kl) (v : Value) : SayD (D.put kl (.held v)) (upd f kl v) := by
  intro x
  unfold upd
  by_cases hx : x = kl
  · subst hx
    rw [if_pos rfl]
    refine ⟨fun h => (by cases h), fun v' hv => ?_⟩
    cases hv
    exact ⟨Maps.has_put_same hD hk _, fun z => Maps.atKey_put_same hD hk _ z⟩
  · rw [if_neg hx]
    refine ⟨fun h' => by rw [Maps.has_put_other hx]; exact (h x).1 h', fun v' hv => ?_⟩
    obtain ⟨g1, g2⟩ := (h x).2 v' hv
    exact ⟨by rw [Maps.has_put_other hx]; exact g1, fun z => by rw [Maps.atKey_put_other hx]; exact g2 z⟩
theorem SayD.del {D : DataW Value} {f : Lit → Option Value} (h : SayD D f) (kl : Lit) : SayD (D.del kl) (cutF f kl) := by
  intro x
  by_cases hx : x = kl
  · subst hx
    rw [cutF_same]
    exact ⟨fun _ => Maps.has_del_same, fun v hv => by cases hv⟩
  · rw [cutF_other f hx]
    refine ⟨fun h' => by rw [Maps.has_del_other hx]; exact (h x).1 h', fun v' hv => ?_⟩
    obtain ⟨g1, g2⟩ := (h x).2 v' hv
    exact ⟨by rw [Maps.has_del_other hx]; exact g1, fun z => by rw [Maps.atKey_del_other hx]; exact g2 z⟩
theorem SayD.map {P : Program} {k : TypeId} {w : World} {b n : Nat} {D : DataW Value} {f : Lit → Option Value} (h : SayD D f) (ho : w.ownsMap P k anyElem b n D) : MapIs P k w b f (Maps.size D) := ⟨D, ownsMap_tight ho, rfl, h⟩
/-- a map of some size has a key -/
theorem has_some {P : Program} {k : TypeId} {w : World} {b n : Nat} {D : DataW Value} (ho : w.ownsMap P k anyElem b n D) (K : Maps.Keyed P k) (h : Maps.size D ≠ 0) : ∃ kl, Maps.has D kl = true := by
  obtain ⟨es, rfl, _, hk⟩ := ho.entries K
  match es, h with
  | [], h => exact absurd rfl h
  | p :: es, _ => exact ⟨p.1, by rw [Maps.has, List.any_eq_true]; exact ⟨p, by simp, WideAt.sameKey_self (hk p (by simp))⟩⟩
theorem has_none {P : Program} {k : TypeId} {w : World} {b n : Nat} {D : DataW Value} (ho : w.ownsMap P k anyElem b n D) (K : Maps.Keyed P k) (h : Maps.size D = 0) (kl : Lit) : Maps.has D kl = false := by
  obtain ⟨es, rfl, _, hk⟩ := ho.entries K
  match es, h with
  | [], _ => rfl
end Go.Proofs.YtbaflgddpciadaaGreat
namespace Go.Proofs.YtbaflgddpciadaaGreat
open Go.RowKit Go.Kt Go.Ix Go.Sx
set_option maxRecDepth 100000
variable {φ : Int → List Ver → List Ver} {F G : Nat → Prop} {w W W' : World} {s om N : Nat} {S : Sp} {L : List It}

/-- nothing that G names is a block of cells but a store's -/
def NC (W : World) (G : Nat → Prop) : Prop := ∀ x, G x → ∀ cs t fr, W.heap[x]? = some (.cells cs t fr) → t = 233
theorem nc_blk {g : Nat} {cs : Array Value} {t : TypeId} (h : NC W G) (hb : Blk W g cs t) (hne : t ≠ 233) : ¬ G g := fun hg => hne (h g hg _ _ _ hb)
theorem nc_own {e : TypeId} {size n : Nat} {v : Value} {xs : List Value} (h : NC W G) (ho : Kt.Own e size W v n xs) (hne : e ≠ 233) : ∀ b, v.ownBlock = some b → ¬ G b := by
  intro b hb hg
  rcases ho.2 with ⟨rfl, _⟩ | ⟨g', cap, cur, rfl, _, hg', _⟩
  · cases hb
  · have : g' = b := by simpa [Value.ownBlock] using hb
    subst this
    exact hne (h g' hg _ _ _ hg')
theorem SerAt.nc {k : Lit} {u : Value} (h : SerAt F W om k u S) (ht : Turn G W W') (hs : NC W G) (hb : ¬ G (S.b k)) : SerAt F W' om k u S :=
  ⟨h.ptr, h.Fx, blk_keep ht h.blk (nc_blk hs h.blk (by decide)), own_keep ht h.set (nc_own hs h.set (by decide)), h.Fs, h.Fb, h.ne, map_keep ht h.map hb, h.key, h.right,
    fun t v hv => ⟨own_keep ht (h.rows t v hv).1 (nc_own hs (h.rows t v hv).1 (by decide)), (h.rows t v hv).2⟩⟩
/-- what lay in a store, or was made since -/
def Fd (F : Nat → Prop) (w W : World) (x : Nat) : Prop := F x ∨ (w.heap.size ≤ x ∧ x < W.heap.size)
theorem Fd.more {x : Nat} (hs : W.heap.size ≤ W'.heap.size) (h : Fd F w W x) : Fd F w W' x := h.elim .inl fun h => .inr ⟨h.1, Nat.lt_of_lt_of_le h.2 hs⟩
/-- the chains: of what is to come as they were, of what is done trimmed -/
def lx (φ : Int → List Ver → List Ver) (S : Sp) (left : Lit → Bool) : Lit → Lit → List Ver := fun k t => if left k = true then S.l k t else φ (zT t) (S.l k t)
def spX (S : Sp) (f : Lit → Option Value) (g : Lit → Lit → Option Value) (c : Lit → Nat) (l : Lit → Lit → List Ver) : Sp := { S with f := f, g := g, c := c, l := l }
theorem SerAt.relabel {f f' : Lit → Option Value} {g g' : Lit → Lit → Option Value} {c c' : Lit → Nat} {l l' : Lit → Lit → List Ver} {k : Lit} {u : Value} (h : SerAt F W om k u (spX S f g c l)) (hg : g' k = g k) (hc : c' k = c k) (hl : ∀ t, l' k t = l k t) : SerAt F W om k u (spX S f' g' c' l') := by
  refine ⟨h.ptr, h.Fx, h.blk, h.set, h.Fs, h.Fb, h.ne, ?_, h.key, h.right, fun t v hv => ?_⟩
  · show MapIs Tryz.prog 2 W (S.b k) (g' k) (c' k)
    rw [hg, hc]
    exact h.map
  · have hv' : g' k t = some v := hv
    rw [hg] at hv'
    obtain ⟨h1, h2, h3⟩ := h.rows t v hv'
    refine ⟨?_, h2, h3⟩
    show OwnV 270 W v (l' k t)
    rw [hl]
    exact h1
/-- all series but one -/
structure Outr (φ : Int → List Ver → List Ver) (F : Nat → Prop) (w W : World) (om N : Nat) (S : Sp) (left : Lit → Bool) (k0 : Option Lit) (f : Lit → Option Value) (g : Lit → Lit → Option Value) (c : Lit → Nat) : Prop where
  fsub : ∀ k u, f k = some u → S.f k = some u
  fdom : ∀ k, some k ≠ k0 → ((f k).isSome = true ↔ (S.f k).isSome = true ∧ (left k = true ∨ ∃ z v, S.g k (litT z) = some v ∧ φ z (S.l k (litT z)) ≠ []))
  gdom : ∀ k t, some k ≠ k0 → (S.f k).isSome = true → ((g k t).isSome = true ↔ (S.g k t).isSome = true ∧ (left k = true ∨ φ (zT t) (S.l k t) ≠ []))
  ser : ∀ k u, some k ≠ k0 → f k = some u → SerAt (Fd F w W) W om k u (spX S f g c (lx φ S left))
  turn : Turn F w W
  nb : ∀ k u, f k = some u → c k ≤ N
variable {left : Lit → Bool} {k0 : Option Lit} {f : Lit → Option Value} {g : Lit → Lit → Option Value} {c : Lit → Nat}
theorem SerAt.wide {F' : Nat → Prop} {k : Lit} {u : Value} (h : SerAt F W om k u S) (hF : ∀ x, F x → F' x) : SerAt F' W om k u S := h.more hF
theorem Outr.keep (h : Outr φ F w W om N S left k0 f g c) (ht : Turn G W W') (hnc : NC W G) (hG1 : ∀ k u, some k ≠ k0 → f k = some u → ¬ G (S.b k)) (hG2 : ∀ x, G x → F x ∨ w.heap.size ≤ x) : Outr φ F w W' om N S left k0 f g c :=
  ⟨h.fsub, h.fdom, h.gdom, fun k u hk hu => ((h.ser k u hk hu).nc ht hnc (hG1 k u hk hu)).wide (fun _ hx => hx.more ht.size), h.turn.trans ht (fun x hx => hG2 x hx), h.nb⟩
theorem Outr.next (h : Outr φ F w W om N S left k0 f g c) (hb : Below W.heap.size W W') : Outr φ F w W' om N S left k0 f g c :=
  h.keep (G := fun _ => False) (Turn.of hb) (fun _ hx => hx.elim) (fun _ _ _ _ hx => hx) (fun _ hx => hx.elim)
/-- a key is taken in hand -/
theorem Outr.pick (h : Outr φ F w W om N S left none f g c) (k : Lit) : Outr φ F w W om N S (fun x => left x && !x.sameKey k) (some k) f g c := by
  have hl : ∀ x, some x ≠ some k → (left x && !x.sameKey k) = left x := fun x hx => by
    have : x.sameKey k = false := Maps.sameKey_ne (fun e => hx (by rw [e]))
    rw [this]; simp
  refine ⟨h.fsub, fun x hx => ?_, fun x t hx hs => ?_, fun x u hx hu => ?_, h.turn, h.nb⟩
  · rw [hl x hx]; exact h.fdom x (by simp)
  · rw [hl x hx]; exact h.gdom x t (by simp) hs
  · refine (h.ser x u (by simp) hu).relabel rfl rfl (fun t => ?_)
    unfold lx
    simp only [hl x hx]
/-- the series in hand: some times done -/
structure Innr (φ : Int → List Ver → List Ver) (F : Nat → Prop) (w W : World) (N : Nat) (S : Sp) (k : Lit) (it : Nat) (t0 : Option Lit) (D : DataW Value) (lf : Lit → Bool) (cnt : Nat) (g2 : Lit → Option Value) : Prop where
  say : SayD D g2
  rng : W.ranges Tryz.prog 2 anyElem (S.b k) it N D lf cnt
  dom : ∀ t, some t ≠ t0 → ((g2 t).isSome = true ↔ (S.g k t).isSome = true ∧ (lf t = true ∨ φ (zT t) (S.l k t) ≠ []))
  rows : ∀ t v, some t ≠ t0 → g2 t = some v → OwnV 270 W v (if lf t = true then S.l k t else φ (zT t) (S.l k t)) ∧ (∀ b, v.ownBlock = some b → Fd F w W b) ∧ ∃ z : Int, t = litT z ∧ 0 ≤ z ∧ z ≤ 4611686018427387904
  blk : Blk W (S.x k) #[S.sv k, .map (some (S.b k))] 263
  set : OwnP 104 W (S.sv k) (S.d k)
  new : w.heap.size ≤ it
variable {k : Lit} {it cnt : Nat} {t0 : Option Lit} {D : DataW Value} {lf : Lit → Bool} {g2 : Lit → Option Value}
theorem ranges_keep {P : Program} {kt : TypeId} {R : Value → Option (DataW Value × List MemPlace)} {b r n : Nat} (h : W.ranges P kt R b r n D lf cnt) (ht : Turn G W W') (hb : ¬ G b) (hr : ¬ G r) : W'.ranges P kt R b r n D lf cnt := by
  have h1 := h.owns.lt
  have h2 := h.lt
  obtain ⟨es, clock, since, seen, c0, hbk, Ft, hs, hD, hrk, rest⟩ := h
  exact ⟨es, clock, since, seen, c0, (ht.block b h1 hb).trans hbk, Ft, hs, hD, (ht.block r h2 hr).trans hrk, rest⟩
theorem Innr.keep (h : Innr φ F w W N S k it t0 D lf cnt g2) (ht : Turn G W W') (hnc : NC W G) (hb : ¬ G (S.b k)) (hr : ¬ G it) : Innr φ F w W' N S k it t0 D lf cnt g2 :=
  ⟨h.say, ranges_keep h.rng ht hb hr, h.dom, fun t v h0 hv => ⟨own_keep ht (h.rows t v h0 hv).1 (nc_own hnc (h.rows t v h0 hv).1 (by decide)), fun b hb' => ((h.rows t v h0 hv).2.1 b hb').more ht.size, (h.rows t v h0 hv).2.2⟩,
    blk_keep ht h.blk (nc_blk hnc h.blk (by decide)), own_keep ht h.set (nc_own hnc h.set (by decide)), h.new⟩
theorem Innr.next (h : Innr φ F w W N S k it t0 D lf cnt g2) (hb : Below W.heap.size W W') : Innr φ F w W' N S k it t0 D lf cnt g2 :=
  h.keep (G := fun _ => False) (Turn.of hb) (fun _ hx => hx.elim) (fun hx => hx) (fun hx => hx)
/-- where it begins -/
theorem Innr.start {u : Value} {W0 : World} (h : Outr φ F w W0 om N S left none f g c) (hu : f k = some u) (hl : left k = true) (hb : Below W0.heap.size W0 W) (hW : w.heap.size ≤ it) {D : DataW Value} (hD : SayD D (g k)) (hr : W.ranges Tryz.prog 2 anyElem (S.b k) it N D (Maps.has D) (Maps.size D)) :
    Innr φ F w W N S k it none D (Maps.has D) (Maps.size D) (g k) := by
  have hs := h.ser k u (by simp) hu
  have hsu := h.fsub k u hu
  refine ⟨hD, hr, fun t _ => ?_, fun t v _ hv => ?_, hs.blk.next hb, OwnP.below hs.set hb, hW⟩
  · have := h.gdom k t (by simp) (by rw [hsu]; rfl)
    rw [this, hD.has]
    constructor
    · rintro ⟨h1, h2⟩
      exact ⟨h1, .inl (by rw [this]; exact ⟨h1, .inl hl⟩)⟩
    · rintro ⟨h1, _⟩
      exact ⟨h1, .inl hl⟩
  · obtain ⟨h1, h2, h3⟩ := hs.rows t v hv
    have hlf : Maps.has D t = true := by rw [hD.has, hv]; rfl
    rw [if_pos hlf]
    refine ⟨?_, fun b hb' => (h2 b hb').more hb.size, h3⟩
    have h1' : OwnV 270 W0 v (lx φ S left k t) := h1
    unfold lx at h1'
    rw [if_pos hl] at h1'
    exact OwnV.below h1' hb
end Go.Proofs.YtbaflgddpciadaaGreat
namespace Go.Proofs.YtbaflgddpciadaaGreat
open Go.RowKit Go.Kt Go.Ix Go.Sx
set_option maxRecDepth 100000
variable {φ : Int → List Ver → List Ver} {F G : Nat → Prop} {w W W' : World} {s om N : Nat} {S : Sp} {L : List It}
variable {left : Lit → Bool} {k0 : Option Lit} {f : Lit → Option Value} {g : Lit → Lit → Option Value} {c : Lit → Nat}
variable {k : Lit} {it cnt : Nat} {t0 : Option Lit} {D : DataW Value} {lf : Lit → Bool} {g2 : Lit → Option Value}

theorem strike (lf : Lit → Bool) {t x : Lit} (h : x ≠ t) : (lf x && !x.sameKey t) = lf x := by rw [Maps.sameKey_ne h]; simp
theorem strike_same (lf : Lit → Bool) (z : Int) : (lf (litT z) && !(litT z).sameKey (litT z)) = false := by
  rw [WideAt.sameKey_self (show WideAt.IsKeyLit (litT z) from trivial)]; simp
/-- a time is taken in hand -/
theorem Innr.take {W2 : World} {cnt2 : Nat} {z : Int} (h : Innr φ F w W N S k it none D lf cnt g2) (hg : W.grownBy W2 (some it)) (hr : W2.ranges Tryz.prog 2 anyElem (S.b k) it N D (fun x => lf x && !x.sameKey (litT z)) cnt2) :
    Innr φ F w W2 N S k it (some (litT z)) D (fun x => lf x && !x.sameKey (litT z)) cnt2 g2 := by
  have hit : NC W (fun x => x = it) := by
    rintro x rfl cs t fr hx
    obtain ⟨o, ho, hw⟩ := h.rng.iter_walk
    rw [hx] at ho
    injection ho with ho
    subst ho
    cases hw
  have ht : Turn (fun x => x = it) W W2 := Turn.grown hg (fun b hb => by injection hb with hb; exact hb.symm)
  refine ⟨h.say, hr, fun t h0 => ?_, fun t v h0 hv => ?_, blk_keep ht h.blk (nc_blk (G := fun x => x = it) hit h.blk (by decide)), own_keep ht h.set (nc_own (G := fun x => x = it) hit h.set (by decide)), h.new⟩
  · have hne : t ≠ litT z := fun e => h0 (by rw [e])
    simp only [strike lf hne]
    exact h.dom t (by simp)
  · have hne : t ≠ litT z := fun e => h0 (by rw [e])
    simp only [strike lf hne]
    obtain ⟨h1, h2, h3⟩ := h.rows t v (by simp) hv
    exact ⟨own_keep ht h1 (nc_own (G := fun x => x = it) hit h1 (by decide)), fun b hb => (h2 b hb).more hg.size, h3⟩
/-- what is left of the chain is laid -/
theorem Innr.put {z : Int} {v' : Value} (h : Innr φ F w W N S k it (some (litT z)) D lf cnt g2) (hlf : lf (litT z) = false) (hz : 0 ≤ z ∧ z ≤ 4611686018427387904) (hS : (S.g k (litT z)).isSome = true) (hφ : φ z (S.l k (litT z)) ≠ [])
    (hv : OwnV 270 W v' (φ z (S.l k (litT z)))) (hv2 : ∀ b, v'.ownBlock = some b → Fd F w W b) (hg : W.grownBy W' (some (S.b k))) (hr : W'.ranges Tryz.prog 2 anyElem (S.b k) it N (D.put (litT z) (.held v')) lf cnt) :
    Innr φ F w W' N S k it none (D.put (litT z) (.held v')) lf cnt (upd g2 (litT z) v') := by
  obtain ⟨es, ck, hbk⟩ := map_is (h.say.map h.rng.owns)
  have hnc : NC W (fun x => x = S.b k) := by
    rintro x rfl cs t fr hx
    rw [hbk] at hx
    cases hx
  have ht : Turn (fun x => x = S.b k) W W' := Turn.grown hg (fun b hb => by injection hb with hb; exact hb.symm)
  refine ⟨h.say.put h.rng.owns.isMap (show WideAt.IsKeyLit (litT z) from trivial) v', hr, fun t _ => ?_, fun t v _ hv0 => ?_, blk_keep ht h.blk (nc_blk (G := fun x => x = S.b k) hnc h.blk (by decide)), own_keep ht h.set (nc_own (G := fun x => x = S.b k) hnc h.set (by decide)), h.new⟩
  · by_cases e : t = litT z
    · subst e
      rw [upd_same]
      exact ⟨fun _ => ⟨hS, .inr hφ⟩, fun _ => rfl⟩
    · rw [upd_other _ _ e]
      exact h.dom t (fun e' => e (by injection e'))
  · by_cases e : t = litT z
    · subst e
      rw [upd_same] at hv0
      cases hv0
      rw [if_neg (by rw [hlf]; simp)]
      exact ⟨own_keep ht hv (nc_own (G := fun x => x = S.b k) hnc hv (by decide)), fun b hb => (hv2 b hb).more hg.size, z, rfl, hz⟩
    · rw [upd_other _ _ e] at hv0
      obtain ⟨h1, h2, h3⟩ := h.rows t v (fun e' => e (by injection e')) hv0
      exact ⟨own_keep ht h1 (nc_own (G := fun x => x = S.b k) hnc h1 (by decide)), fun b hb => (h2 b hb).more hg.size, h3⟩
/-- nothing is left of the chain -/
theorem Innr.drop {z : Int} {cnt2 : Nat} (h : Innr φ F w W N S k it (some (litT z)) D (fun x => lf x && !x.sameKey (litT z)) cnt g2) (hφ : φ z (S.l k (litT z)) = []) (hg : W.grownBy W' (some (S.b k)))
    (hr : W'.ranges Tryz.prog 2 anyElem (S.b k) it N (D.del (litT z)) (fun x => (lf x && !x.sameKey (litT z)) && !x.sameKey (litT z)) cnt2) :
    Innr φ F w W' N S k it none (D.del (litT z)) (fun x => lf x && !x.sameKey (litT z)) cnt2 (cutF g2 (litT z)) := by
  obtain ⟨es, ck, hbk⟩ := map_is (h.say.map h.rng.owns)
  have hnc : NC W (fun x => x = S.b k) := by
    rintro x rfl cs t fr hx
    rw [hbk] at hx
    cases hx
  have ht : Turn (fun x => x = S.b k) W W' := Turn.grown hg (fun b hb => by injection hb with hb; exact hb.symm)
  rw [Maps.strike_twice] at hr
  refine ⟨h.say.del _, hr, fun t _ => ?_, fun t v _ hv0 => ?_, blk_keep ht h.blk (nc_blk (G := fun x => x = S.b k) hnc h.blk (by decide)), own_keep ht h.set (nc_own (G := fun x => x = S.b k) hnc h.set (by decide)), h.new⟩
  · by_cases e : t = litT z
    · subst e
      rw [cutF_same]
      simp only [strike_same]
      refine ⟨fun h => (by cases h), ?_⟩
      rintro ⟨_, h1 | h1⟩
      · cases h1
      · exact absurd hφ h1
    · rw [cutF_other _ e]
      exact h.dom t (fun e' => e (by injection e'))
  · by_cases e : t = litT z
    · subst e
      rw [cutF_same] at hv0
      cases hv0
    · rw [cutF_other _ e] at hv0
      obtain ⟨h1, h2, h3⟩ := h.rows t v (fun e' => e (by injection e')) hv0
      exact ⟨own_keep ht h1 (nc_own (G := fun x => x = S.b k) hnc h1 (by decide)), fun b hb => (h2 b hb).more hg.size, h3⟩
/-- the series in hand stands, trimmed -/
theorem Innr.ser {u : Value} (h : Innr φ F w W N S k it none D lf cnt g2) (hl0 : ∀ t, lf t = false) (hk : left k = false) (h0 : SerAt F w om k u S) :
    SerAt (Fd F w W) W om k u (spX S f (setX g k g2) (setX c k (Maps.size D)) (lx φ S left)) := by
  refine ⟨h0.ptr, .inl h0.Fx, h.blk, h.set, fun b hb => .inl (h0.Fs b hb), .inl h0.Fb, h0.ne, ?_, h0.key, h0.right, fun t v hv => ?_⟩
  · show MapIs Tryz.prog 2 W (S.b k) (setX g k g2 k) (setX c k (Maps.size D) k)
    rw [setX_same, setX_same]
    exact h.say.map h.rng.owns
  · have hv' : setX g k g2 k t = some v := hv
    rw [setX_same] at hv'
    obtain ⟨h1, h2, h3⟩ := h.rows t v (by simp) hv'
    rw [if_neg (by rw [hl0 t]; simp)] at h1
    refine ⟨?_, h2, h3⟩
    show OwnV 270 W v (lx φ S left k t)
    unfold lx
    rw [if_neg (by rw [hk]; simp)]
    exact h1
/-- a series is done, and stays -/
theorem Outr.close {u : Value} (h : Outr φ F w W om N S left (some k) f g c) (hi : Innr φ F w W N S k it none D lf cnt g2) (hl0 : ∀ t, lf t = false) (hk : left k = false) (h0 : SerAt F w om k u S) (hu : f k = some u) (hsz : Maps.size D ≠ 0) (hN : Maps.size D ≤ N) :
    Outr φ F w W om N S left none f (setX g k g2) (setX c k (Maps.size D)) := by
  refine ⟨h.fsub, fun x _ => ?_, fun x t _ hs => ?_, fun x u' _ hu' => ?_, h.turn, fun x u' hu' => ?_⟩
  · by_cases e : x = k
    · subst e
      obtain ⟨kl, hkl⟩ := has_some hi.rng.owns key2 hsz
      rw [hi.say.has] at hkl
      obtain ⟨v, hv⟩ := Option.isSome_iff_exists.1 hkl
      obtain ⟨_, _, z, rfl, _⟩ := hi.rows kl v (by simp) hv
      obtain ⟨h1, h2⟩ := (hi.dom _ (by simp)).1 hkl
      obtain ⟨v0, hv0⟩ := Option.isSome_iff_exists.1 h1
      refine ⟨fun _ => ⟨by rw [h.fsub x u hu]; rfl, .inr ⟨z, v0, hv0, ?_⟩⟩, fun _ => by rw [hu]; rfl⟩
      rcases h2 with h2 | h2
      · rw [hl0] at h2; cases h2
      · exact h2
    · exact h.fdom x (fun e' => e (by injection e'))
  · by_cases e : x = k
    · subst e
      rw [setX_same, hk]
      have := hi.dom t (by simp)
      rw [hl0 t] at this
      exact this
    · rw [setX_other _ _ e]
      exact h.gdom x t (fun e' => e (by injection e')) hs
  · by_cases e : x = k
    · subst e
      obtain rfl : u = u' := by rw [hu] at hu'; injection hu'
      exact hi.ser hl0 hk h0
    · exact (h.ser x u' (fun e' => e (by injection e')) hu').relabel (setX_other _ _ e) (setX_other _ _ e) (fun _ => rfl)
  · by_cases e : x = k
    · rw [e, setX_same]; exact hN
    · rw [setX_other _ _ e]; exact h.nb x u' hu'
/-- a series is done, and nothing of it is left -/
theorem Outr.drop {u : Value} (h : Outr φ F w W om N S left (some k) f g c) (hi : Innr φ F w W N S k it none D lf cnt g2) (hl0 : ∀ t, lf t = false) (hk : left k = false) (hsz : Maps.size D = 0) :
    Outr φ F w W om N S left none (cutF f k) (setX g k g2) (setX c k (Maps.size D)) := by
  have hno : ∀ t, g2 t = none := fun t => by
    have := has_none hi.rng.owns key2 hsz t
    rw [hi.say.has] at this
    cases hg : g2 t with
    | none => rfl
    | some v => rw [hg] at this; cases this
  refine ⟨fun x u hx => ?_, fun x _ => ?_, fun x t _ hs => ?_, fun x u' _ hu' => ?_, h.turn, fun x u' hu' => ?_⟩
  · by_cases e : x = k
    · subst e; rw [cutF_same] at hx; cases hx
    · rw [cutF_other _ e] at hx; exact h.fsub x u hx
  · by_cases e : x = k
    · subst e
      rw [cutF_same, hk]
      refine ⟨fun h => (by cases h), ?_⟩
      rintro ⟨_, h1 | ⟨z, v, hv, hn⟩⟩
      · cases h1
      · have := (hi.dom (litT z) (by simp)).2 ⟨by rw [hv]; rfl, .inr hn⟩
        rw [hno] at this
        cases this
    · rw [cutF_other _ e]
      exact h.fdom x (fun e' => e (by injection e'))
  · by_cases e : x = k
    · subst e
      rw [setX_same, hk]
      have := hi.dom t (by simp)
      rw [hl0 t] at this
      exact this
    · rw [setX_other _ _ e]
      exact h.gdom x t (fun e' => e (by injection e')) hs
  · by_cases e : x = k
    · subst e; rw [cutF_same] at hu'; cases hu'
    · rw [cutF_other _ e] at hu'
      exact (h.ser x u' (fun e' => e (by injection e')) hu').relabel (setX_other _ _ e) (setX_other _ _ e) (fun _ => rfl)
  · by_cases e : x = k
    · subst e; rw [cutF_same] at hu'; cases hu'
    · rw [cutF_other _ e] at hu'
      rw [setX_other _ _ e]; exact h.nb x u' hu'
/-! ### the counts -/
theorem right_sets (h : StAt F w s om S L N) : ∀ x ∈ L, RightP x.set := fun x hx => by
  obtain ⟨k, u, z, v, hu, _, rfl⟩ := (h.told x).1 hx
  exact (h.ser k u hu).right
theorem kD_inj {a b : List Pr} (ha : RightP a) (hb : RightP b) (h : kD a = kD b) : a = b := right_text ha hb (by unfold kD at h; injection h)
theorem trim_sets (hR : ∀ x ∈ L, RightP x.set) : ∀ x ∈ trimL φ L, RightP x.set := fun x hx => by
  obtain ⟨y, hy, rfl, _⟩ := trimL_mem.1 hx
  exact hR y hy
theorem cntK_le {T : List It} (hk : left k = true) (hR : WideAt.IsKeyLit k) : cntK T left k lf ≤ lenL T := by
  unfold cntK cntD
  rw [← len_split T (fun it => !left (kD it.set)) (fun it => (kD it.set).sameKey k && !lf (litT it.time)) (fun x _ hx => by
    simp only [Bool.and_eq_true] at hx
    rw [WideAt.sameKey_eq hx.1, hk]; rfl)]
  exact lenL_filter_le T _
theorem cnt_open {T : List It} (h : ∀ x ∈ T, kD x.set = k → lf (litT x.time) = true) : cntK T left k lf = cntD T left := by
  unfold cntK
  rw [len_none, Nat.add_zero]
  intro x hx
  cases hs : (kD x.set).sameKey k with
  | false => rfl
  | true => rw [h x hx (WideAt.sameKey_eq hs)]; rfl
theorem cnt_close {T : List It} (hk : left k = true) (hl : ∀ t, lf t = false) : cntK T left k lf = cntD T (fun x => left x && !x.sameKey k) := by
  unfold cntK cntD
  rw [← len_split T (fun it => !left (kD it.set)) (fun it => (kD it.set).sameKey k && !lf (litT it.time)) (fun x _ hx => by
    simp only [Bool.and_eq_true] at hx
    rw [WideAt.sameKey_eq hx.1, hk]; rfl)]
  refine len_congr T _ _ (fun x _ => ?_)
  show (!left (kD x.set) || ((kD x.set).sameKey k && !lf (litT x.time))) = !(left (kD x.set) && !(kD x.set).sameKey k)
  rw [hl]
  cases left (kD x.set) <;> cases (kD x.set).sameKey k <;> rfl
theorem lit_eq {a b : Int} : (litT a).sameKey (litT b) = decide (a = b) := by
  by_cases h : a = b
  · subst h; rw [WideAt.sameKey_self (show WideAt.IsKeyLit (litT a) from trivial)]; simp
  · rw [Maps.sameKey_ne (fun e => h (litT_inj e))]; simp [h]
theorem cnt_skip {T : List It} {z : Int} (h : ∀ x ∈ T, kD x.set = k → x.time ≠ z) : cntK T left k (fun t => lf t && !t.sameKey (litT z)) = cntK T left k lf := by
  unfold cntK
  congr 1
  refine len_congr T _ _ (fun x hx => ?_)
  cases hs : (kD x.set).sameKey k with
  | false => rfl
  | true =>
    show (true && !(lf (litT x.time) && !(litT x.time).sameKey (litT z))) = (true && !lf (litT x.time))
    rw [lit_eq]
    simp [h x hx (WideAt.sameKey_eq hs)]
theorem cnt_add {T : List It} {z : Int} {x : It} (hT : Rise ltS T) (hR : ∀ x ∈ T, RightP x.set) (hx : x ∈ T) (h1 : kD x.set = k) (h2 : x.time = z) (hlf : lf (litT z) = true) :
    cntK T left k (fun t => lf t && !t.sameKey (litT z)) = cntK T left k lf + x.l.length := by
  unfold cntK
  rw [← len_one hT x.set z hx rfl h2, Nat.add_assoc]
  congr 1
  rw [← len_split T (fun it => (kD it.set).sameKey k && !lf (litT it.time)) (fun y => decide (y.set = x.set ∧ y.time = z)) (fun y _ hy => by
    simp only [decide_eq_true_eq] at hy
    rw [hy.2, hlf]; simp)]
  refine len_congr T _ _ (fun y hy => ?_)
  cases hs : (kD y.set).sameKey k with
  | false =>
    have : ¬ (y.set = x.set ∧ y.time = z) := fun e => by
      rw [e.1, h1] at hs
      rw [← h1, WideAt.sameKey_self (show WideAt.IsKeyLit (kD x.set) from trivial)] at hs
      cases hs
    simp [this]
  | true =>
    have e := kD_inj (hR y hy) (hR x hx) ((WideAt.sameKey_eq hs).trans h1.symm)
    show (true && !(lf (litT y.time) && !(litT y.time).sameKey (litT z))) = (true && !lf (litT y.time) || decide (y.set = x.set ∧ y.time = z))
    rw [lit_eq]
    by_cases hz : y.time = z
    · simp [e, hz]
    · simp [hz]
end Go.Proofs.YtbaflgddpciadaaGreat
namespace Go.Proofs.YtbaflgddpciadaaGreat
open Go.RowKit Go.Kt Go.Ix Go.Sx
set_option maxRecDepth 100000
variable {φ : Int → List Ver → List Ver} {F G : Nat → Prop} {w W W' : World} {s om N : Nat} {S : Sp} {L : List It}
variable {left : Lit → Bool} {k0 : Option Lit} {f : Lit → Option Value} {g : Lit → Lit → Option Value} {c : Lit → Nat}
variable {k : Lit} {itO itI cnt cO : Nat} {t0 : Option Lit} {D D2 : DataW Value} {lf : Lit → Bool} {g2 : Lit → Option Value} {n : Int} {u : Value}

structure Two (φ : Int → List Ver → List Ver) (F : Nat → Prop) (w W : World) (s om N : Nat) (S : Sp) (k : Lit) (itO itI : Nat) (t0 : Option Lit) (left lf : Lit → Bool) (cO cnt : Nat) (D D2 : DataW Value) (f : Lit → Option Value) (g : Lit → Lit → Option Value) (c : Lit → Nat) (g2 : Lit → Option Value) (n : Int) : Prop where
  inn : Innr φ F w W N S k itI t0 D2 lf cnt g2
  out : Outr φ F w W om N S left (some k) f g c
  rng : W.ranges Tryz.prog 9 anyElem om itO N D left cO
  blk : Blk W s #[.map (some om), .int .i64 n] 233
theorem iter_ne_map {P : Program} {kt kt' : TypeId} {b r m nn nm : Nat} {fm : Lit → Option Value} (h : W.ranges P kt anyElem b r nn D left cnt) (hm : MapIs Tryz.prog kt' W m fm nm) : m ≠ r := by
  rintro rfl
  obtain ⟨_, _, _, _, _, _, _, _, _, hr, _⟩ := h
  obtain ⟨es, ck, hb⟩ := map_is hm
  rw [hb] at hr
  cases hr
theorem iter_ne_blk {P : Program} {kt t : TypeId} {b r x nn : Nat} {cs : Array Value} (h : W.ranges P kt anyElem b r nn D left cnt) (hb : Blk W x cs t) : x ≠ r := by
  rintro rfl
  obtain ⟨o, ho, hw⟩ := h.iter_walk
  unfold Blk at hb
  rw [hb] at ho
  injection ho with ho
  subst ho
  cases hw
theorem nc_iter {P : Program} {kt : TypeId} {b r nn : Nat} (h : W.ranges P kt anyElem b r nn D left cnt) : NC W (fun x => x = r) := by
  rintro x rfl cs t fr hx
  obtain ⟨o, ho, hw⟩ := h.iter_walk
  rw [hx] at ho
  injection ho with ho
  subst ho
  cases hw
theorem nc_map {kt : TypeId} {m nm : Nat} {fm : Lit → Option Value} (hm : MapIs Tryz.prog kt W m fm nm) : NC W (fun x => x = m) := by
  rintro x rfl cs t fr hx
  obtain ⟨es, ck, hb⟩ := map_is hm
  rw [hx] at hb
  cases hb
theorem nc_store {x : Nat} {cs : Array Value} (h : Blk W x cs 233) : NC W (fun y => y = x) := by
  rintro y rfl cs' t fr hx
  unfold Blk at h
  rw [h] at hx
  injection hx with hx
  injection hx with _ hx
  exact hx.symm
theorem Outr.map_of {x : Lit} {u : Value} (h : Outr φ F w W om N S left k0 f g c) (hx : some x ≠ k0) (hu : f x = some u) : ∃ fm nm, MapIs Tryz.prog 2 W (S.b x) fm nm := ⟨_, _, (h.ser x u hx hu).map⟩
theorem grown_turn {r : Nat} (hg : W.grownBy W' (some r)) : Turn (fun x => x = r) W W' := Turn.grown hg (fun b hb => by injection hb with hb; exact hb.symm)
/-- the iterator of the times steps on -/
theorem Two.take {W2 : World} {cnt2 : Nat} {z : Int} (h : Two φ F w W s om N S k itO itI none left lf cO cnt D D2 f g c g2 n) (hst : StAt F w s om S L N) (hg : W.grownBy W2 (some itI)) (hr : W2.ranges Tryz.prog 2 anyElem (S.b k) itI N D2 (fun x => lf x && !x.sameKey (litT z)) cnt2) (hne : itO ≠ itI) :
    Two φ F w W2 s om N S k itO itI (some (litT z)) left (fun x => lf x && !x.sameKey (litT z)) cO cnt2 D D2 f g c g2 n := by
  have ht := grown_turn hg
  have hnc := nc_iter h.inn.rng
  refine ⟨h.inn.take hg hr, h.out.keep ht hnc (fun x u hx hu e => ?_) (fun x hx => .inr (hx ▸ h.inn.new)), ranges_keep h.rng ht (fun e => ?_) (fun e => hne e), blk_keep ht h.blk (fun e => iter_ne_blk h.inn.rng h.blk e)⟩
  · obtain ⟨fm, nm, hm⟩ := h.out.map_of hx hu
    exact iter_ne_map h.inn.rng hm e
  · obtain ⟨_, _, _, _, _, _, _, _, _, hri, _⟩ := h.inn.rng
    obtain ⟨es, ck, hb, _⟩ := h.rng.owns
    rw [← e, hb] at hri
    cases hri
theorem Two.next (h : Two φ F w W s om N S k itO itI t0 left lf cO cnt D D2 f g c g2 n) (hb : Below W.heap.size W W') : Two φ F w W' s om N S k itO itI t0 left lf cO cnt D D2 f g c g2 n :=
  ⟨h.inn.next hb, h.out.next hb, ranges_keep (G := fun _ => False) h.rng (Turn.of hb) (fun e => e) (fun e => e), h.blk.next hb⟩
/-- what the map of the times turns, turns nothing else -/
theorem Two.turn_map (h : Two φ F w W s om N S k itO itI t0 left lf cO cnt D D2 f g c g2 n) (hst : StAt F w s om S L N) (hu : f k = some u) (hg : W.grownBy W' (some (S.b k))) :
    Outr φ F w W' om N S left (some k) f g c ∧ W'.ranges Tryz.prog 9 anyElem om itO N D left cO ∧ Blk W' s #[.map (some om), .int .i64 n] 233 := by
  have ht := grown_turn hg
  have hm := h.inn.say.map h.inn.rng.owns
  have hnc := nc_map hm
  have hsk := hst.ser k u (h.out.fsub k u hu)
  refine ⟨h.out.keep ht hnc (fun x u' hx hu' e => ?_) (fun x hx => .inl (hx ▸ hsk.Fb)), ranges_keep h.rng ht (fun e => hsk.ne e.symm) (fun e => iter_ne_map h.rng hm e.symm), blk_keep ht h.blk (fun e => blk_no_map h.blk hm e)⟩
  exact hst.apart x u' k u (h.out.fsub x u' hu') (h.out.fsub k u hu) (fun e' => hx (by rw [e'])) e
theorem Two.put {z : Int} {v' : Value} (h : Two φ F w W s om N S k itO itI (some (litT z)) left lf cO cnt D D2 f g c g2 n) (hst : StAt F w s om S L N) (hu : f k = some u) (hlf : lf (litT z) = false) (hz : 0 ≤ z ∧ z ≤ 4611686018427387904) (hS : (S.g k (litT z)).isSome = true)
    (hφ : φ z (S.l k (litT z)) ≠ []) (hv : OwnV 270 W v' (φ z (S.l k (litT z)))) (hv2 : ∀ b, v'.ownBlock = some b → Fd F w W b) (hg : W.grownBy W' (some (S.b k))) (hr : W'.ranges Tryz.prog 2 anyElem (S.b k) itI N (D2.put (litT z) (.held v')) lf cnt) :
    Two φ F w W' s om N S k itO itI none left lf cO cnt D (D2.put (litT z) (.held v')) f g c (upd g2 (litT z) v') n := by
  obtain ⟨a, b, e⟩ := h.turn_map hst hu hg
  exact ⟨h.inn.put hlf hz hS hφ hv hv2 hg hr, a, b, e⟩
theorem Two.drop {z : Int} {cnt2 : Nat} (h : Two φ F w W s om N S k itO itI (some (litT z)) left (fun x => lf x && !x.sameKey (litT z)) cO cnt D D2 f g c g2 n) (hst : StAt F w s om S L N) (hu : f k = some u) (hφ : φ z (S.l k (litT z)) = []) (hg : W.grownBy W' (some (S.b k)))
    (hr : W'.ranges Tryz.prog 2 anyElem (S.b k) itI N (D2.del (litT z)) (fun x => (lf x && !x.sameKey (litT z)) && !x.sameKey (litT z)) cnt2) :
    Two φ F w W' s om N S k itO itI none left (fun x => lf x && !x.sameKey (litT z)) cO cnt2 D (D2.del (litT z)) f g c (cutF g2 (litT z)) n := by
  obtain ⟨a, b, e⟩ := h.turn_map hst hu hg
  exact ⟨h.inn.drop hφ hg hr, a, b, e⟩
/-- the count is written -/
theorem Two.count (h : Two φ F w W s om N S k itO itI t0 left lf cO cnt D D2 f g c g2 n) (hst : StAt F w s om S L N) (m : Int) : Two φ F w (W.setCell ⟨s, 1, none⟩ (.int .i64 m)) s om N S k itO itI t0 left lf cO cnt D D2 f g c g2 m := by
  have ht : Turn (fun x => x = s) W (W.setCell ⟨s, 1, none⟩ (.int .i64 m)) := Turn.set (F := fun x => x = s) (Turn.refl _ W) (a := ⟨s, 1, none⟩) rfl _
  have hnc := nc_store h.blk
  refine ⟨h.inn.keep ht hnc (fun e => blk_no_map h.blk (h.inn.say.map h.inn.rng.owns) e.symm) (fun e => iter_ne_blk h.inn.rng h.blk e.symm), h.out.keep ht hnc (fun x u hx hu e => ?_) (fun x hx => .inl (hx ▸ hst.Fs)), ranges_keep h.rng ht (fun e => ?_) (fun e => iter_ne_blk h.rng h.blk e.symm), h.blk.set 1 _⟩
  · obtain ⟨fm, nm, hm⟩ := h.out.map_of hx hu
    exact blk_no_map h.blk hm e.symm
  · obtain ⟨es, ck, hb, _⟩ := h.rng.owns
    have hb' := h.blk
    unfold Blk at hb'
    rw [← e, hb] at hb'
    cases hb'
/-- where it begins -/
theorem Outr.start (h : StAt F w s om S L N) : Outr φ F w w om N S (fun k => (S.f k).isSome) none S.f S.g S.c := by
  refine ⟨fun k u hu => hu, fun k _ => ⟨fun hk => ⟨hk, .inl hk⟩, fun hk => hk.1⟩, fun k t _ hk => ⟨fun ht => ⟨ht, .inl hk⟩, fun ht => ht.1⟩, fun k u _ hu => ?_, Turn.refl F w, fun k u hu => h.nb.2 k u hu⟩
  have hs := (h.ser k u hu).wide (F' := Fd F w w) (fun x hx => .inl hx)
  exact SerAt.relabel (f := S.f) (g := S.g) (c := S.c) (l := S.l) hs rfl rfl (fun t => by unfold lx; simp only [hu]; rfl)
theorem SerAt.renum {S : Sp} {x : Lit} {u : Value} (h : SerAt F W om x u S) (m : Nat) : SerAt F W om x u { S with n := m } := ⟨h.ptr, h.Fx, h.blk, h.set, h.Fs, h.Fb, h.ne, h.map, h.key, h.right, h.rows⟩
/-- where it ends -/
theorem Outr.done (h : Outr φ F w W om N S left none f g c) (hst : StAt F w s om S L N) (hl : ∀ k, left k = false) (hD : SayD D f) (ho : W.ownsMap Tryz.prog 9 anyElem om N D) (hsz : Maps.size D ≤ N) (hb : Blk W s #[.map (some om), .int .i64 (cntD (trimL φ L) left : Int)] 233)
    (hφ : ∀ z l, Chain l → Chain (φ z l)) (hφ2 : ∀ z l, ∀ x ∈ φ z l, x ∈ l) (hφ3 : ∀ z l, (φ z l).length ≤ l.length) : St (Fd F w W) W s (trimL φ L) N := by
  refine ⟨om, { spX S f g c (lx φ S left) with n := Maps.size D }, ⟨?_, .inl hst.Fs, .inl hst.Fo, hD.map ho, fun k u hu => (h.ser k u (by simp) hu).renum _, fun k u k' u' hu hu' hne => hst.apart k u k' u' (h.fsub k u hu) (h.fsub k' u' hu') hne, fun it => ?_, trimL_ok hφ hst.ok, fun it hit v hv => ?_, Nat.le_trans (lenL_trim hφ3 L) hst.len, ⟨hsz, fun k u hu => h.nb k u hu⟩, fun x hx => ?_⟩⟩
  · have e : cntD (trimL φ L) left = lenL (trimL φ L) := by
      unfold cntD
      rw [List.filter_eq_self.2 (fun x _ => by rw [hl]; rfl)]
    rw [← e]
    exact hb
  · rw [trimL_mem]
    constructor
    · rintro ⟨x, hx, rfl, hn⟩
      obtain ⟨k, u, z, v, hu, hv, rfl⟩ := (hst.told x).1 hx
      simp only at hn
      have h1 : (g k (litT z)).isSome = true := (h.gdom k (litT z) (by simp) (by rw [hu]; rfl)).2 ⟨by rw [hv]; rfl, .inr hn⟩
      have h2 : (f k).isSome = true := (h.fdom k (by simp)).2 ⟨by rw [hu]; rfl, .inr ⟨z, v, hv, hn⟩⟩
      obtain ⟨u', hu'⟩ := Option.isSome_iff_exists.1 h2
      obtain ⟨v', hv'⟩ := Option.isSome_iff_exists.1 h1
      refine ⟨k, u', z, v', hu', hv', ?_⟩
      show _ = (⟨S.d k, z, lx φ S left k (litT z)⟩ : It)
      unfold lx
      rw [if_neg (by rw [hl]; simp)]
      rfl
    · rintro ⟨k, u, z, v, hu, hv, rfl⟩
      have hu1 : f k = some u := hu
      have hv1 : g k (litT z) = some v := hv
      have hSu := h.fsub k u hu1
      obtain ⟨h1, h2⟩ := (h.gdom k (litT z) (by simp) (by rw [hSu]; rfl)).1 (by rw [hv1]; rfl)
      obtain ⟨v0, hv0⟩ := Option.isSome_iff_exists.1 h1
      refine ⟨⟨S.d k, z, S.l k (litT z)⟩, (hst.told _).2 ⟨k, u, z, v0, hSu, hv0, rfl⟩, ?_, ?_⟩
      · show (⟨S.d k, z, lx φ S left k (litT z)⟩ : It) = _
        unfold lx
        rw [if_neg (by rw [hl]; simp)]
        rfl
      · rcases h2 with h2 | h2
        · rw [hl] at h2; cases h2
        · exact h2
  · obtain ⟨x, hx, rfl, _⟩ := trimL_mem.1 hit
    exact hst.ver x hx v (hφ2 _ _ v hv)
  · rcases hx with hx | hx
    · exact Nat.lt_of_lt_of_le (hst.lt x hx) h.turn.size
    · exact hx.2
end Go.Proofs.YtbaflgddpciadaaGreat
namespace Go.Proofs.YtbaflgddpciadaaGreat
open Go.RowKit Go.Kt Go.Ix Go.Sx
set_option maxRecDepth 100000
variable {φ : Int → List Ver → List Ver} {F : Nat → Prop} {s om N : Nat} {S : Sp} {L : List It}
theorem ownsMap_size {P : Program} {k : TypeId} {w : World} {b n : Nat} {D : DataW Value} (h : w.ownsMap P k anyElem b n D) : Maps.size D ≤ n := by
  obtain ⟨es, ck, hb, Ft, hs, rfl⟩ := h
  have : Maps.size (DataW.map ((es.toList.map (WideElems.rg P k anyElem)).foldr DataW.insert [])) = es.size := by simp [Maps.size, length_sorted]
  omega
set_option maxHeartbeats 8000000 in
theorem trim_any (w : World) (h : StAt F w s om S L N) (hN : N ≤ 1000000) (fn bx : Nat) (eg : ∀ args w, (callFunc fn args).run Tryz.prog w = .ok (.enter fn args) w)
    (hφ : ∀ z l, Chain l → Chain (φ z l)) (hφ2 : ∀ z l, ∀ x ∈ φ z l, x ∈ l) (hφ3 : ∀ z l, (φ z l).length ≤ l.length)
    (hf : ∀ W z v l, Turn F w W → OwnV 270 W v l → Chain l → l.length ≤ 65536 → Calls Tryz.prog fn #[.int .i64 z, v, .pointer (some ⟨bx, 0, none⟩)] W fun e w' => ∃ v', e = .returned v' ∧ OwnV 270 w' v' (φ z l) ∧ (∀ b, v'.ownBlock = some b → v.ownBlock = some b ∨ W.heap.size ≤ b) ∧ Below W.heap.size W w') :
    Calls Tryz.prog 134 #[.pointer (some ⟨s, 0, none⟩), .func (.func fn) #[] #[.pointer (some ⟨bx, 0, none⟩)]] w fun e w' => e = .returned (.tuple #[]) ∧ St (Fd F w w') w' s (trimL φ L) N ∧ Turn F w w' := by
  have H := Lib.hid h
  have HF := Lib.hid hf
  have HN := Lib.hid hN
  have HT : Hid ((∀ x ∈ trimL φ L, RightP x.set) ∧ Rise ltS (trimL φ L) ∧ lenL (trimL φ L) ≤ 65536) := Lib.hid ⟨trim_sets (right_sets h), trimL_rise h.ok.rise, Nat.le_trans (lenL_trim hφ3 L) h.len⟩
  have Hφ := Lib.hid (And.intro hφ (And.intro hφ2 hφ3))
  have c0 : w.cell? ⟨s, 0, none⟩ = some (.map (some om)) := h.blk.cell 0
  have c1 : w.cell? ⟨s, 1, none⟩ = some (.int .i64 (lenL L : Int)) := h.blk.cell 1
  have f1 : w.frozen? ⟨s, 1, none⟩ = false := h.blk.free 1
  have hne : om ≠ s := fun e => blk_no_map h.blk h.outer e.symm
  have hb1 := h.blk.set 1 (.int .i64 0)
  have hm1 := h.outer.setCell (a := ⟨s, 1, none⟩) hne (.int .i64 0)
  have ht1 : Turn (fun x => x = s) w (w.setCell ⟨s, 1, none⟩ (.int .i64 0)) := Turn.set (F := fun x => x = s) (Turn.refl _ w) (a := ⟨s, 1, none⟩) rfl _
  have hO0 : Outr φ F w (w.setCell ⟨s, 1, none⟩ (.int .i64 0)) om N S (fun k => (S.f k).isSome) none S.f S.g S.c := (Outr.start h).keep ht1 (nc_store h.blk) (fun k u _ hu e => blk_no_map h.blk (h.ser k u hu).map e.symm) (fun x hx => .inl (hx ▸ h.Fs))
  have hsz1 : (w.setCell ⟨s, 1, none⟩ (.int .i64 0)).heap.size = w.heap.size := by simp
  have d0 : (w.setCell ⟨s, 1, none⟩ (.int .i64 0)).cell? ⟨s, 0, none⟩ = some (.map (some om)) := hb1.cell 0
  have HO0 := Lib.hid hO0
  have Hb1 : Hid (Blk (w.setCell ⟨s, 1, none⟩ (.int .i64 0)) s #[.map (some om), .int .i64 0] 233) := Lib.hid hb1
  obtain ⟨D, hD, hsz, hcf⟩ := hm1
  have hown := hD.mono h.nb.1
  have HcD : Hid (SayD D S.f) := Lib.hid hcf
  clear h hf hφ hφ2 hφ3 hN ht1 hO0 hb1 hcf hD hsz
  go_enter Tryz.func134, Tryz.ntmps134
  go_upto_region 2 with fail
  generalize w.setCell ⟨s, 1, none⟩ (.int .i64 0) = w1 at *
  go_wp2_with (first
    | (at_range; refine wpList_range_own _ rfl _ 231 rfl 9 259 key9 Tryz.underlying231 _ om N D rfl hown ?_; intro w0 hrg0 hg0 hs0)
    | fail)
  have hbel0 : Below w1.heap.size w1 w0 := (Below.refl _ w1).grown hg0 (Nat.le_refl _) (fun b e => by cases e)
  have hleft : Maps.has D = fun k => (S.f k).isSome := funext fun k => HcD.out.has k
  rw [hleft] at hrg0
  rw [hsz1] at hrg0 ⊢
  have hT0 : cntD (trimL φ L) (fun k => (S.f k).isSome) = 0 := by
    unfold cntD
    refine len_none (fun x hx => ?_)
    obtain ⟨y, hy, rfl, _⟩ := trimL_mem.1 hx
    obtain ⟨k, u, z, v, hu, _, rfl⟩ := (H.out.told y).1 hy
    have hk := (H.out.ser k u hu).key
    simp only
    rw [show kD (S.d k) = k from hk.symm, hu]
    rfl
  have HO := Lib.hid (HO0.out.next hbel0)
  have Hbs : Hid (Blk w0 s #[.map (some om), .int .i64 (cntD (trimL φ L) (fun k => (S.f k).isSome) : Int)] 233) := Lib.hid (by rw [hT0]; exact Hb1.out.next hbel0)
  have hszN : Maps.size D ≤ N := by
    have := ownsMap_size hown
    exact this
  have HszN := Lib.hid hszN
  clear hbel0 hleft hT0 HO0 Hb1 hown hg0 hs0 c0 c1 f1 d0 hszN
  go_frame
  go_loopw [4] (fun _ wr => ∃ (D : DataW Value) (left : Lit → Bool) (cnt : Nat) (f : Lit → Option Value) (g : Lit → Lit → Option Value) (c : Lit → Nat), wr.ranges Tryz.prog 9 anyElem om w.heap.size N D left cnt ∧ Hid (SayD D f ∧ Maps.size D ≤ N) ∧ Hid (Outr φ F w wr om N S left none f g c) ∧ Hid (Blk wr s #[.map (some om), .int .i64 (cntD (trimL φ L) left : Int)] 233) ∧ Hid (∀ k, left k = true → (f k).isSome = true))
    (fun _ wr => wr.rangeLeft om w.heap.size)
  case atStart => exact ⟨D, _, _, S.f, S.g, S.c, hrg0, Lib.hid ⟨HcD.out, HszN.out⟩, HO, Hbs, Lib.hid (fun _ h => h)⟩
  case round =>
    clear hrg0 HO Hbs HcD HszN
    obtain ⟨D, left, cnt, f, g, c, hrg, HcD, HO, Hbs, Hl⟩ := hrel
    obtain ⟨wo, rfl⟩ : ∃ wo, wo = wr := ⟨_, rfl⟩
    go_wp2_with (first
      | (at_next; refine wpList_next_ranges _ rfl _ rfl 9 key9 anyElem Value.string (fun v : Value => v) (fun key kl h => by obtain ⟨x, e, _⟩ := key_str h; exact ⟨x, e⟩) (fun v y h => ⟨v, rfl⟩) om w.heap.size N D left cnt rfl hrg ?_ ?_)
      | fail)
    · intro hc0 hl0
      go_wp2_with fail
      go_end0
      exact ⟨rfl, HO.out.done H.out hl0 HcD.out.1 hrg.owns HcD.out.2 Hbs.out Hφ.out.1 Hφ.out.2.1 Hφ.out.2.2, HO.out.turn⟩
    · intro x cv kk yd yp w2 cnt2 hkey hlk hv hat hrg2 hlt hg2 hs2 hen
      obtain ⟨x', ex, rfl⟩ := key_str hkey
      cases ex
      have hd : Maps.has D (kl x) = true := by rw [HcD.out.1.has]; exact Hl.out _ hlk
      have hfk : f (kl x) = some cv := entry_any HcD.out.1 hd hv hat
      have HKey := Lib.hid hkey
      obtain ⟨k, hk⟩ : ∃ k, kl x = k := ⟨_, rfl⟩
      have hkk : WideAt.IsKeyLit k := by rw [← hk]; trivial
      rw [hk] at hlk hfk hrg2 HKey
      clear hkey hv hat hd
      have ht2 := grown_turn hg2
      have hO2 := HO.out.keep ht2 (nc_iter hrg) (fun x u _ hu e => iter_ne_map hrg (HO.out.ser x u (by simp) hu).map e) (fun x hx => .inr (Nat.le_of_eq hx.symm))
      have hb2 := blk_keep ht2 Hbs.out (fun e => iter_ne_blk hrg Hbs.out e)
      have hsr := hO2.ser k cv (by simp) hfk
      obtain rfl : cv = .pointer (some ⟨S.x k, 0, none⟩) := hsr.ptr
      have k1 : w2.cell? ⟨S.x k, 1, none⟩ = some (.map (some (S.b k))) := hsr.blk.cell 1
      obtain ⟨D2, ho2, hsz2, hc2⟩ := (hsr.map : MapIs Tryz.prog 2 w2 (S.b k) (g k) (c k))
      have hown2 := ho2.mono (hO2.nb k _ hfk)
      have hmeas : w2.rangeLeft om w.heap.size < wo.rangeLeft om w.heap.size := by rw [hrg2.left_eq, hrg.left_eq]; exact hlt
      have HMeas : Hid (cnt2 < wo.rangeLeft om w.heap.size) := Lib.hid (by rw [← hrg2.left_eq]; exact hmeas)
      have HSr := Lib.hid (H.out.ser k _ (HO.out.fsub k _ hfk))
      have HO2 := Lib.hid hO2
      have Hb2 := Lib.hid hb2
      have HR2 := Lib.hid hrg2
      have HLk := Lib.hid hlk
      have HFk := Lib.hid hfk
      have Hc2 : Hid (SayD D2 (g k)) := Lib.hid hc2
      have Hs2 := Lib.hid (Nat.le_of_eq (hs2.symm))
      have HW2 : Hid (w.heap.size < w2.heap.size) := Lib.hid hrg2.lt
      clear ht2 hO2 hb2 hsr hrg2 hlt hg2 hs2 hlk hfk hmeas hrg HO Hbs hsz2 hc2 ho2 hk
      go_wp2_with (first
        | (at_range; refine wpList_range_own _ rfl _ 261 rfl 2 241 key2 Tryz.underlying261 _ (S.b k) N D2 rfl hown2 ?_; intro w3 hrg3 hg3 hs3)
        | fail)
      have hbel3 : Below w2.heap.size w2 w3 := (Below.refl _ w2).grown hg3 (Nat.le_refl _) (fun b e => by cases e)
      have hit3 : w.heap.size ≤ w2.heap.size := Nat.le_of_lt HW2.out
      have hTwo : Two φ F w w3 s om N S k w.heap.size w2.heap.size none (fun z => left z && !z.sameKey k) (Maps.has D2) cnt2 (Maps.size D2) D D2 f g c (g k) (cntK (trimL φ L) left k (Maps.has D2) : Int) := by
        refine ⟨Innr.start HO2.out HFk.out HLk.out hbel3 hit3 Hc2.out hrg3, (HO2.out.pick k).next hbel3, ranges_keep (G := fun _ => False) HR2.out (Turn.of hbel3) (fun e => e) (fun e => e), ?_⟩
        rw [cnt_open (fun x hx hkx => ?_)]
        · exact Hb2.out.next hbel3
        · obtain ⟨y, hy, rfl, _⟩ := trimL_mem.1 hx
          obtain ⟨k', u, z, v, hu, hv, rfl⟩ := (H.out.told y).1 hy
          have hk' := (H.out.ser k' u hu).key
          simp only at hkx ⊢
          have e : k' = k := by rw [← hkx]; exact hk'
          subst e
          rw [Hc2.out.has]
          exact (HO2.out.gdom k' (litT z) (by simp) (by rw [hu]; rfl)).2 ⟨by rw [hv]; rfl, .inl HLk.out⟩
      have HTwo := Lib.hid hTwo
      have hne2 : w.heap.size ≠ w2.heap.size := Nat.ne_of_lt HW2.out
      have HNe := Lib.hid hne2
      have HSz2 := Lib.hid (ownsMap_size hown2)
      clear hbel3 hTwo hrg3 hg3 hs3 hown2 k1 HR2 Hb2 hne2 Hc2
      generalize w2.heap.size = i2 at *
      go_frame
      go_loopw [6] (fun _ wq => ∃ (lf : Lit → Bool) (ci : Nat) (D2 : DataW Value) (g2 : Lit → Option Value), Hid (Two φ F w wq s om N S k w.heap.size i2 none (fun z => left z && !z.sameKey k) lf cnt2 ci D D2 f g c g2 (cntK (trimL φ L) left k lf : Int)) ∧ Hid ((∀ t, lf t = true → (g2 t).isSome = true) ∧ Maps.size D2 ≤ N)) (fun _ wq => wq.rangeLeft (S.b k) i2)
      case atStart => exact ⟨_, _, D2, _, HTwo, Lib.hid ⟨fun t ht => by rw [← HTwo.out.inn.say.has]; exact ht, HSz2.out⟩⟩
      case round =>
        clear HTwo HSz2
        obtain ⟨lf, ci, D2, g2, HTw, Hlf⟩ := hrel
        obtain ⟨wp, rfl⟩ : ∃ wp, wp = wr := ⟨_, rfl⟩
        have hrgi := HTw.out.inn.rng
        go_wp2_with (first
          | (at_next; refine wpList_next_ranges _ rfl _ rfl 2 key2 anyElem (Value.int .i64) (fun v : Value => v) (fun key kl h => by obtain ⟨x, e, _⟩ := Maps.keyOf_int_inv Tryz.underlying2 h; exact ⟨x, e⟩) (fun v y h => ⟨v, rfl⟩) (S.b k) i2 N D2 lf ci rfl hrgi ?_ ?_)
          | fail)
        · intro hc0 hl0
          have ho := HTw.out.inn.rng.owns
          have hlen := (HTw.out.inn.say.map ho).len Tryz.underlying261 3
          have k1 : wp.cell? ⟨S.x k, 1, none⟩ = some (.map (some (S.b k))) := HTw.out.inn.blk.cell 1
          have s0 : wp.cell? ⟨s, 0, none⟩ = some (.map (some om)) := HTw.out.blk.cell 0
          have hle : (left k && !k.sameKey k) = false := by rw [WideAt.sameKey_self hkk]; simp
          have Hcl : Hid (cntK (trimL φ L) left k lf = cntD (trimL φ L) (fun z => left z && !z.sameKey k)) := Lib.hid (cnt_close HLk.out hl0)
          have Hl2 : Hid (∀ z, (left z && !z.sameKey k) = true → z ≠ k ∧ (f z).isSome = true) := Lib.hid (fun z hz => by
            simp only [Bool.and_eq_true, Bool.not_eq_true'] at hz
            exact ⟨fun e => (by rw [e, WideAt.sameKey_self hkk] at hz; cases hz.2), Hl.out z hz.1⟩)
          by_cases hsz : Maps.size D2 = 0
          · have hOd := HTw.out.out.drop (u := .pointer (some ⟨S.x k, 0, none⟩)) HTw.out.inn hl0 hle hsz
            obtain ⟨w5, cnt5, hr5, hrg5, hle5, hmt5⟩ := HTw.out.rng.drop key9 Tryz.underlying231 HKey.out 0
            have ht5 := grown_turn hmt5.grown
            have hmo := HcD.out.1.map HTw.out.rng.owns
            have HO5 := Lib.hid (hOd.keep ht5 (nc_map hmo) (fun y u' _ hu' e => (hOd.ser y u' (by simp) hu').ne e) (fun y hy => .inl (hy ▸ H.out.Fo)))
            have Hb5 : Hid (Blk w5 s #[.map (some om), .int .i64 (cntD (trimL φ L) (fun z => left z && !z.sameKey k) : Int)] 233) := Lib.hid (by rw [← Hcl.out]; exact blk_keep ht5 HTw.out.blk (fun e => blk_no_map HTw.out.blk hmo e))
            have hm5 : cnt5 < wo.rangeLeft om w.heap.size := Nat.lt_of_le_of_lt hle5 HMeas.out
            rw [Maps.strike_twice] at hrg5
            have HR5 := Lib.hid hrg5
            have Hm5 := Lib.hid hm5
            have HcD5 : Hid (SayD (D.del k) (cutF f k) ∧ Maps.size (D.del k) ≤ N) := Lib.hid ⟨HcD.out.1.del k, ownsMap_size hrg5.owns⟩
            rw [hsz] at hlen
            clear hOd hrg5 hle5 hmt5 ht5 hmo hm5 hrgi hl0 hc0
            go_wp2_with fail
            go_roundw
            case rel => exact ⟨_, _, cnt5, _, _, _, HR5.out, HcD5, HO5, Hb5, Lib.hid (fun z hz => by rw [cutF_other _ (Hl2.out z hz).1]; exact (Hl2.out z hz).2)⟩
            case measure => rw [HR5.out.left_eq]; exact Hm5.out
          · have HO5 := Lib.hid (HTw.out.out.close HTw.out.inn hl0 hle HSr.out HFk.out hsz Hlf.out.2)
            have Hb5 : Hid (Blk wp s #[.map (some om), .int .i64 (cntD (trimL φ L) (fun z => left z && !z.sameKey k) : Int)] 233) := Lib.hid (by rw [← Hcl.out]; exact HTw.out.blk)
            have HR5 := Lib.hid HTw.out.rng
            have hz0 : ((Maps.size D2 : Int) == 0) = false := by rw [beq_eq_false_iff_ne]; omega
            have hz1 : ¬ (Maps.size D2 : Int) = 0 := by omega
            clear hrgi hl0 hc0 hsz
            go_wp2_with fail
            go_roundw
            case rel => exact ⟨D, _, cnt2, f, _, _, HR5.out, HcD, HO5, Hb5, Lib.hid (fun z hz => (Hl2.out z hz).2)⟩
            case measure => rw [HR5.out.left_eq]; exact HMeas.out
        · intro z v kz yd yp w4 ci4 hkey hlk hv hat hrg4 hlt hg4 hs4 hen
          have hkz : kz = litT z := by
            obtain ⟨x', e1, e2, -⟩ := Maps.keyOf_int_inv Tryz.underlying2 hkey
            rw [e2]
            injection e1 with _ e1
            rw [e1]; rfl
          subst hkz
          have hd : Maps.has D2 (litT z) = true := by rw [HTw.out.inn.say.has]; exact Hlf.out.1 _ hlk
          have hgv : g2 (litT z) = some v := entry_any HTw.out.inn.say hd hv hat
          obtain ⟨hrow, hrF, z', hz', hzr⟩ := HTw.out.inn.rows _ v (by simp) hgv
          obtain rfl := litT_inj hz'
          rw [if_pos hlk] at hrow
          have hSg := ((HTw.out.inn.dom (litT z) (by simp)).1 (by rw [hgv]; rfl)).1
          obtain ⟨v0, hv0⟩ := Option.isSome_iff_exists.1 hSg
          obtain ⟨hmem, hch, hcl, -⟩ := H.out.chain (HO2.out.fsub k _ HFk.out) hv0
          have HTk := Lib.hid (HTw.out.take H.out hg4 hrg4 HNe.out)
          have HRw : Hid (OwnV 270 w4 v (S.l k (litT z))) := Lib.hid (own_keep (grown_turn hg4) hrow (nc_own (nc_iter hrgi) hrow (by decide)))
          have HC := Lib.hid (HF.out w4 z v (S.l k (litT z)) HTk.out.out.turn HRw.out hch hcl)
          have hlt' : ci4 < wp.rangeLeft (S.b k) i2 := by rw [hrgi.left_eq]; exact hlt
          have Hlt := Lib.hid hlt'
          have HKz := Lib.hid hkey
          have HHas := Lib.hid hd
          have Hzr := Lib.hid hzr
          have HrF : Hid (∀ b, v.ownBlock = some b → Fd F w w4 b) := Lib.hid (fun b hb => (hrF b hb).more hg4.size)
          have HSg := Lib.hid hSg
          have HLf : Hid ((lf (litT z) && !(litT z).sameKey (litT z)) = false) := Lib.hid (strike_same lf z)
          have HLz := Lib.hid hlk
          have Hφl := Lib.hid (Hφ.out.2.2 z (S.l k (litT z)))
          have Hcl := Lib.hid hcl
          have Hlf2 : Hid (∀ t, (lf t && !t.sameKey (litT z)) = true → t ≠ litT z ∧ (g2 t).isSome = true) := Lib.hid (fun t ht => by
            simp only [Bool.and_eq_true, Bool.not_eq_true'] at ht
            exact ⟨fun e => (by rw [e, WideAt.sameKey_self (show WideAt.IsKeyLit (litT z) from trivial)] at ht; cases ht.2), Hlf.out.1 t ht.1⟩)
          have Hskip : Hid (φ z (S.l k (litT z)) = [] → cntK (trimL φ L) left k (fun t => lf t && !t.sameKey (litT z)) = cntK (trimL φ L) left k lf) := Lib.hid (fun h0 => cnt_skip (fun x hx hkx e => by
            obtain ⟨y, hy, rfl, hn⟩ := trimL_mem.1 hx
            obtain ⟨k', u, z', v', hu, hv', rfl⟩ := (H.out.told y).1 hy
            have hk' := (H.out.ser k' u hu).key
            simp only at hkx e hn
            have ek : k' = k := by rw [← hkx]; exact hk'
            subst ek e
            exact hn h0))
          have Hadd : Hid (φ z (S.l k (litT z)) ≠ [] → cntK (trimL φ L) left k (fun t => lf t && !t.sameKey (litT z)) = cntK (trimL φ L) left k lf + (φ z (S.l k (litT z))).length ∧ cntK (trimL φ L) left k (fun t => lf t && !t.sameKey (litT z)) ≤ 65536) := Lib.hid (fun h0 => by
            refine ⟨cnt_add (x := ⟨S.d k, z, φ z (S.l k (litT z))⟩) HT.out.2.1 HT.out.1 (trimL_mem.2 ⟨_, hmem, rfl, h0⟩) HSr.out.key.symm rfl hlk, Nat.le_trans (cntK_le HLk.out hkk) HT.out.2.2⟩)
          clear hkey hlk hv hat hrg4 hlt hg4 hs4 hd hgv hrow hrF hz' hzr hSg hv0 hmem hch hcl hlt' hrgi HTw
          obtain ⟨T, hT⟩ : ∃ T, φ z (S.l k (litT z)) = T := ⟨_, rfl⟩
          obtain ⟨q, hq⟩ : ∃ q, cntK (trimL φ L) left k lf = q := ⟨_, rfl⟩
          rw [hT] at HC Hskip Hadd Hφl
          rw [hq] at HTk Hskip Hadd
          go_upto_region 9 with (first
            | (go_at_fn fn; refine HC.out.mono ?_; rintro e w5 ⟨v5, rfl, ho5, hb5', hb5⟩; obtain ⟨a5, c5, rfl, -⟩ := (OwnV.rd ho5).open; have HO5 := Lib.hid ho5; have HB5' := Lib.hid hb5'; have HB5 := Lib.hid hb5; clear ho5 hb5' hb5)
            | fail)
          have HT5 := Lib.hid (HTk.out.next HB5.out)
          have hF5 : ∀ b, (Value.slice a5 T.length c5).ownBlock = some b → Fd F w w5 b := fun b hb => by
            rcases HB5'.out b hb with h1 | h1
            · exact (HrF.out b h1).more HB5.out.size
            · exact .inr ⟨Nat.le_trans HTk.out.out.turn.size h1, HO5.out.lt b hb⟩
          have HF5 := Lib.hid hF5
          have k1 : w5.cell? ⟨S.x k, 1, none⟩ = some (.map (some (S.b k))) := HT5.out.inn.blk.cell 1
          have HT0 := Lib.hid hT
          clear hF5 hen hT
          by_cases hT0 : T = []
          · have hq0 := Hskip.out hT0
            subst hT0
            obtain ⟨w6, cnt6, hr6, hrg6, hle6, hmt6⟩ := HT5.out.inn.rng.drop key2 Tryz.underlying261 HKz.out 0
            have HT6 := Lib.hid (HT5.out.drop H.out HFk.out HT0.out hmt6.grown hrg6)
            have hm6 : cnt6 < wp.rangeLeft (S.b k) i2 := Nat.lt_of_le_of_lt hle6 Hlt.out
            have Hm6 := Lib.hid hm6
            have Hq0 := Lib.hid hq0
            have Hsz6 := Lib.hid (ownsMap_size hrg6.owns)
            simp only [List.length_nil]
            clear hrg6 hle6 hmt6 hm6 hq0 HT5 HTk HO5 HB5' HF5 Hskip Hadd hq
            go_wp2_with fail
            go_roundw
            case rel => exact ⟨_, cnt6, _, _, Lib.hid (by rw [Hq0.out]; exact HT6.out), Lib.hid ⟨fun t ht => by rw [cutF_other _ (Hlf2.out t ht).1]; exact (Hlf2.out t ht).2, Hsz6.out⟩⟩
            case measure => rw [HT6.out.inn.rng.left_eq]; exact Hm6.out
          · obtain ⟨hq1, hq2⟩ := Hadd.out hT0
            obtain ⟨m, hm⟩ : ∃ m, T.length = m + 1 := ⟨T.length - 1, by have := List.length_pos_iff.2 hT0; omega⟩
            obtain ⟨w6, hr6, hrg6, hg6⟩ := ranges_store HT5.out.inn.rng key2 Tryz.underlying261 (by have := HN.out; simp only [maxLen]; omega) (val := .slice a5 T.length c5) (d := .held (.slice a5 T.length c5)) (ps := []) HKz.out rfl HHas.out
            have HT6 := Lib.hid (HT5.out.put H.out HFk.out HLf.out Hzr.out HSg.out (by rw [HT0.out]; exact hT0) (by rw [HT0.out]; exact HO5.out) HF5.out hg6 hrg6)
            have s1 : w6.cell? ⟨s, 1, none⟩ = some (.int .i64 (q : Int)) := HT6.out.blk.cell 1
            have f1 : w6.frozen? ⟨s, 1, none⟩ = false := HT6.out.blk.free 1
            have HT7 := Lib.hid (HT6.out.count H.out ((q : Int) + ((m : Int) + 1)))
            have Hq1 : Hid (((cntK (trimL φ L) left k fun t => lf t && !t.sameKey (litT z)) : Int) = (q : Int) + ((m : Int) + 1)) := Lib.hid (by rw [hq1, hm]; push_cast; rfl)
            have Hsz6 := Lib.hid (ownsMap_size hrg6.owns)
            have hqb : q + (m + 1) ≤ 65536 := by omega
            rw [hm] at hr6 ⊢
            have hz0 : (((m + 1 : Nat) : Int) == 0) = false := by rw [beq_eq_false_iff_ne]; omega
            have hz1 : ¬ ((m + 1 : Nat) : Int) = 0 := by omega
            clear hrg6 hg6 hq1 hq2 HT5 HT6 HTk HO5 HB5' HF5 Hskip Hadd hq hm
            go_wp2_with fail
            go_roundw
            case rel => exact ⟨_, ci4, _, _, Lib.hid (by rw [Hq1.out]; exact HT7.out), Lib.hid ⟨fun t ht => by rw [upd_other _ _ (Hlf2.out t ht).1]; exact (Hlf2.out t ht).2, Hsz6.out⟩⟩
            case measure => rw [HT7.out.inn.rng.left_eq]; exact Hlt.out
end Go.Proofs.YtbaflgddpciadaaGreat
namespace Go.Proofs.YtbaflgddpciadaaGreat
open Go.RowKit Go.Kt Go.Ix Go.Sx
set_option maxRecDepth 100000
variable {F : Nat → Prop} {s om N : Nat} {S : Sp} {L : List It}
theorem cutf_any (W : World) (t : Tm) (bx : Nat) (z : Int) (v : Value) (l : List Ver) (hb : Blk W bx #[.int .i64 t.wall, .int .u32 t.tick, .int .u32 t.mark] 44) (hv : OwnV 270 W v l) (hl : Chain l) (hn : l.length ≤ 65536) :
    Calls Tryz.prog 186 #[.int .i64 z, v, .pointer (some ⟨bx, 0, none⟩)] W fun e w' => ∃ v', e = .returned v' ∧ OwnV 270 w' v' (cutC l t) ∧ (∀ b, v'.ownBlock = some b → v.ownBlock = some b ∨ W.heap.size ≤ b) ∧ Below W.heap.size W w' := by
  have HC := Lib.hid (cutc_any v l t W hv.rd hl (by omega))
  obtain ⟨tw, tt, tm⟩ := t
  have c0 : W.cell? ⟨bx, 0, none⟩ = some (.int .i64 tw) := hb.cell 0
  have c1 : W.cell? ⟨bx, 1, none⟩ = some (.int .u32 tt) := hb.cell 1
  have c2 : W.cell? ⟨bx, 2, none⟩ = some (.int .u32 tm) := hb.cell 2
  unfold Tm.val at HC
  simp only at HC
  clear hv hl hn hb
  go_enter Tryz.func186, Tryz.ntmps186
  go_wp2_with (first | (go_at_call 187; refine HC.out.mono ?_; rintro e w2 ⟨v2, rfl, hm⟩) | fail)
  go_ret
  exact ⟨_, rfl, hm.1, fun b hb => .inr (hm.2.1 b hb), hm.2.2⟩
theorem retf_any (W : World) (t : Int) (bx : Nat) (z : Int) (v : Value) (l : List Ver) (hb : Blk W bx #[.int .i64 t] 2) (hv : OwnV 270 W v l) :
    Calls Tryz.prog 135 #[.int .i64 z, v, .pointer (some ⟨bx, 0, none⟩)] W fun e w' => ∃ v', e = .returned v' ∧ OwnV 270 w' v' (if z < t then [] else l) ∧ (∀ b, v'.ownBlock = some b → v.ownBlock = some b ∨ W.heap.size ≤ b) ∧ Below W.heap.size W w' := by
  have c0 : W.cell? ⟨bx, 0, none⟩ = some (.int .i64 t) := hb.cell 0
  have HV := Lib.hid hv
  clear hv hb
  by_cases h : z < t
  · have h1 : decide (z < t) = true := by simp [h]
    rw [if_pos h]
    go_enter Tryz.func135, Tryz.ntmps135
    go_wp2_with fail
    go_ret
    exact ⟨_, rfl, own_nil _ 270 6, (fun b hb => by cases hb), bel_refl W⟩
  · have h1 : decide (z < t) = false := by simp; omega
    rw [if_neg h]
    go_enter Tryz.func135, Tryz.ntmps135
    go_wp2_with fail
    go_ret
    exact ⟨_, rfl, HV.out, fun b hb => .inl hb, bel_refl W⟩
theorem cutC_sub (l : List Ver) (t : Tm) : ∀ x ∈ cutC l t, x ∈ l := fun x hx => List.mem_of_mem_drop hx
theorem cutC_chain {l : List Ver} (t : Tm) (h : Chain l) : Chain (cutC l t) := List.Pairwise.sublist (List.drop_sublist _ _) h
theorem trim_end {φ : Int → List Ver → List Ver} {w w1 w' : World} (hb : Below w.heap.size w w1) (h : St (Fd F w1 w') w' s (trimL φ L) N) (ht : Turn F w1 w') : ∃ F', St F' w' s (trimL φ L) N ∧ (∀ x, F' x → F x ∨ w.heap.size ≤ x) ∧ Turn F w w' :=
  ⟨_, h, fun x hx => hx.elim .inl (fun h => .inr (Nat.le_trans hb.size h.1)), (Turn.of (F := F) hb).trans ht (fun x hx => .inl hx)⟩
set_option maxHeartbeats 1000000 in
theorem cut_any (t : Tm) (w : World) (h : St F w s L N) (hN : N ≤ 1000000) :
    Calls Tryz.prog 133 #[.pointer (some ⟨s, 0, none⟩), t.val] w fun e w' => e = .returned (.tuple #[]) ∧ ∃ F', St F' w' s (cutL L t) N ∧ (∀ x, F' x → F x ∨ w.heap.size ≤ x) ∧ Turn F w w' := by
  obtain ⟨om, S, h⟩ := h
  have hb0 := below_alloc w (.cells #[.int .i64 t.wall, .int .u32 t.tick, .int .u32 t.mark] 44)
  have hbx := Blk.new w #[.int .i64 t.wall, .int .u32 t.tick, .int .u32 t.mark] 44
  have hc := trim_any (φ := fun _ l => cutC l t) _ (h.next hb0) hN 186 w.heap.size (enters_of Tryz.func186 (by kernel_rfl) rfl) (fun _ l hl => cutC_chain t hl) (fun _ l => cutC_sub l t) (fun _ l => by simp [cutC])
    (fun W z v l hT hv hl hn => cutf_any W t w.heap.size z v l (blk_keep hT hbx (fun hF => Nat.lt_irrefl _ (h.lt _ hF))) hv hl hn)
  have HC := Lib.hid hc
  have HB := Lib.hid hb0
  clear h hb0 hbx hc
  obtain ⟨tw, tt, tm⟩ := t
  unfold Tm.val
  simp only at HC HB ⊢
  go_enter Tryz.func133, Tryz.ntmps133
  go_wp2_with (first | (go_at_call 134; refine HC.out.mono ?_; rintro e w2 ⟨rfl, h2, ht2⟩; have H2 := Lib.hid h2; have HT2 := Lib.hid ht2; clear h2 ht2) | fail)
  go_end0
  exact ⟨rfl, trim_end HB.out H2.out HT2.out⟩
set_option maxHeartbeats 1000000 in
theorem ret_any (t : Int) (w : World) (h : St F w s L N) (hN : N ≤ 1000000) :
    Calls Tryz.prog 57 #[.pointer (some ⟨s, 0, none⟩), .int .i64 t] w fun e w' => e = .returned (.tuple #[]) ∧ ∃ F', St F' w' s (retL L t) N ∧ (∀ x, F' x → F x ∨ w.heap.size ≤ x) ∧ Turn F w w' := by
  obtain ⟨om, S, h⟩ := h
  rw [← trimL_ret h.ok.full t]
  have hb0 := below_alloc w (.cells #[.int .i64 t] 2)
  have hbx := Blk.new w #[.int .i64 t] 2
  have hc := trim_any (φ := fun z l => if z < t then [] else l) _ (h.next hb0) hN 135 w.heap.size (enters_of Tryz.func135 (by kernel_rfl) rfl) (fun z l hl => by split; exact List.Pairwise.nil; exact hl) (fun z l x hx => by split at hx; cases hx; exact hx) (fun z l => by split <;> simp)
    (fun W z v l hT hv hl hn => retf_any W t w.heap.size z v l (blk_keep hT hbx (fun hF => Nat.lt_irrefl _ (h.lt _ hF))) hv)
  have HC := Lib.hid hc
  have HB := Lib.hid hb0
  clear h hb0 hbx hc
  go_enter Tryz.func57, Tryz.ntmps57
  go_wp2_with (first | (go_at_call 134; refine HC.out.mono ?_; rintro e w2 ⟨rfl, h2, ht2⟩; have H2 := Lib.hid h2; have HT2 := Lib.hid ht2; clear h2 ht2) | fail)
  go_end0
  exact ⟨rfl, trim_end HB.out H2.out HT2.out⟩
end Go.Proofs.YtbaflgddpciadaaGreat
