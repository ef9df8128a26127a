/- A store in memory: its parts; what a step leaves; New (14), Len (19). -/
import Derived.Test.YtplieoalfbpniaaGreatSB
import Derived.Test.YtplieoalfbpniaaGreatKtD
namespace Go.Proofs.YtplieoalfbpniaaGreat
open Go.RowKit Go.Kt Go.Ix Go.Sx
set_option maxRecDepth 100000

theorem upd_same (f : Lit → Option Value) (k : Lit) (v : Value) : upd f k v k = some v := by unfold upd; rw [if_pos rfl]
theorem upd_other (f : Lit → Option Value) {k x : Lit} (v : Value) (h : x ≠ k) : upd f k v x = f x := by unfold upd; rw [if_neg h]
theorem upd_id {f : Lit → Option Value} {k : Lit} {v : Value} (h : f k = some v) : upd f k v = f := by
  funext x
  by_cases e : x = k
  · rw [e, upd_same, h]
  · rw [upd_other f v e]
theorem blk_no_map {w : World} {g m c : Nat} {cs : Array Value} {t k : TypeId} {f : Lit → Option Value} (h : Blk w g cs t) (hm : MapIs Tryz.prog k w m f c) : g ≠ m := by
  rintro rfl
  obtain ⟨D, ⟨es, clock, hb, _⟩, _⟩ := hm
  unfold Blk at h
  rw [h] at hb
  cases hb
def litT (z : Int) : Lit := .int .i64 z
theorem litT_inj {a b : Int} (h : litT a = litT b) : a = b := by unfold litT at h; injection h
theorem key2 : Maps.Keyed Tryz.prog 2 := Maps.int_keyed Tryz.underlying2
theorem wf64 {n : Int} (h : -9223372036854775808 ≤ n ∧ n ≤ 9223372036854775807) : (Lit.int .i64 n).wf = true := by
  simp only [Lit.wf, IntKind.min, IntKind.max, IntKind.signed, IntKind.bits]
  simp
  omega
theorem keyOf2 {n : Int} (h : -9223372036854775808 ≤ n ∧ n ≤ 9223372036854775807) : keyOf Tryz.prog 2 (.int .i64 n) = some (litT n) := Maps.keyOf_int_mk Tryz.underlying2 (wf64 h)
theorem zero96 (w : World) : (zeroValue 96).run Tryz.prog w = .ok (.slice none 0 0) w := by kernel_rfl
theorem zero86 (w : World) : (zeroValue 86).run Tryz.prog w = .ok (.pointer none) w := by kernel_rfl

/-- the parts of a store in memory: at each text a series' block, its row of labels and these, its map's block, what stands there at each time -/
structure Sp where
  f : Lit → Option Value
  n : Nat
  x : Lit → Nat
  sv : Lit → Value
  d : Lit → List Pr
  b : Lit → Nat
  g : Lit → Lit → Option Value
  c : Lit → Nat
  l : Lit → Lit → List Ver
structure SerAt (F : Nat → Prop) (w : World) (om : Nat) (k : Lit) (u : Value) (S : Sp) : Prop where
  ptr : u = .pointer (some ⟨S.x k, 0, none⟩)
  Fx : F (S.x k)
  blk : Blk w (S.x k) #[S.sv k, .map (some (S.b k))] 90
  set : OwnP 69 w (S.sv k) (S.d k)
  Fs : ∀ b, (S.sv k).ownBlock = some b → F b
  Fb : F (S.b k)
  ne : S.b k ≠ om
  map : MapIs Tryz.prog 2 w (S.b k) (S.g k) (S.c k)
  key : k = .string (textL (S.d k))
  right : RightP (S.d k)
  rows : ∀ t v, S.g k t = some v → OwnV 98 w v (S.l k t) ∧ (∀ b, v.ownBlock = some b → F b) ∧ ∃ z : Int, t = litT z ∧ 0 ≤ z ∧ z ≤ 4611686018427387904
instance : DecidableRel ltS := fun a b => by unfold ltS; infer_instance
instance : DecidableEq Pr := fun a b => by
  by_cases h1 : a.n = b.n
  · by_cases h2 : a.v = b.v
    · exact .isTrue (Pr.ext' h1 h2)
    · exact .isFalse (fun e => h2 (by rw [e]))
  · exact .isFalse (fun e => h1 (by rw [e]))
abbrev It := Go.Sx.Item (List Pr)
structure StAt (F : Nat → Prop) (w : World) (s om : Nat) (S : Sp) (L : List It) (N : Nat) : Prop where
  blk : Blk w s #[.map (some om), .int .i64 (lenL L : Int)] 104
  Fs : F s
  Fo : F om
  outer : MapIs Tryz.prog 9 w om S.f S.n
  ser : ∀ k u, S.f k = some u → SerAt F w om k u S
  apart : ∀ k u k' u', S.f k = some u → S.f k' = some u' → k ≠ k' → S.b k ≠ S.b k'
  told : ∀ it : It, it ∈ L ↔ ∃ k u z v, S.f k = some u ∧ S.g k (litT z) = some v ∧ it = ⟨S.d k, z, S.l k (litT z)⟩
  ok : StoreOk ltS L
  ver : ∀ it ∈ L, ∀ v ∈ it.l, verR v
  len : lenL L ≤ 65536
  nb : S.n ≤ N ∧ ∀ k u, S.f k = some u → S.c k ≤ N
  lt : ∀ x, F x → x < w.heap.size

/-- all that G names are maps, or stores -/
def Soft (w : World) (G : Nat → Prop) : Prop := ∀ x, G x → (∃ es ck, w.heap[x]? = some (.map es ck)) ∨ ∃ cs fr, w.heap[x]? = some (.cells cs 104 fr)
theorem soft_blk {w : World} {G : Nat → Prop} {g : Nat} {cs : Array Value} {t : TypeId} (h : Soft w G) (hb : Blk w g cs t) (hne : t ≠ 104) : ¬ G g := by
  intro hg
  unfold Blk at hb
  rcases h g hg with ⟨es, ck, e⟩ | ⟨cs', fr, e⟩
  · rw [hb] at e; cases e
  · rw [hb] at e; injection e with e; injection e with _ e _; exact hne e
theorem soft_own {w : World} {G : Nat → Prop} {e : TypeId} {size n : Nat} {v : Value} {xs : List Value} (h : Soft w G) (ho : Own e size w v n xs) (hne : e ≠ 104) : ∀ b, v.ownBlock = some b → ¬ G b := by
  intro b hb hg
  rcases ho.2 with ⟨rfl, _⟩ | ⟨g', cap, cur, rfl, _, hg', _⟩
  · cases hb
  · have : g' = b := by simpa [Value.ownBlock] using hb
    subst this
    rcases h g' hg with ⟨es, ck, e'⟩ | ⟨cs', fr, e'⟩
    · rw [hg'] at e'; cases e'
    · rw [hg'] at e'; injection e' with e'; injection e' with _ e' _; exact hne e'
theorem map_is {w : World} {k : TypeId} {m n : Nat} {f : Lit → Option Value} (h : MapIs Tryz.prog k w m f n) : ∃ es ck, w.heap[m]? = some (.map es ck) := by
  obtain ⟨D, ⟨es, ck, hb, _⟩, _⟩ := h
  exact ⟨es, ck, hb⟩
variable {F F' : Nat → Prop} {w w' : World} {s om : Nat} {S : Sp} {L : List It} {N : Nat}
theorem SerAt.more {k : Lit} {u : Value} (h : SerAt F w om k u S) (hF : ∀ x, F x → F' x) : SerAt F' w om k u S :=
  ⟨h.ptr, hF _ h.Fx, h.blk, h.set, fun b hb => hF _ (h.Fs b hb), hF _ h.Fb, h.ne, h.map, h.key, h.right, fun t v hv => ⟨(h.rows t v hv).1, fun b hb => hF _ ((h.rows t v hv).2.1 b hb), (h.rows t v hv).2.2⟩⟩
theorem SerAt.soft {k : Lit} {u : Value} {G : Nat → Prop} (h : SerAt F w om k u S) (ht : Turn G w w') (hs : Soft w G) (hb : ¬ G (S.b k)) : SerAt F w' om k u S :=
  ⟨h.ptr, h.Fx, blk_keep ht h.blk (soft_blk hs h.blk (by decide)), own_keep ht h.set (soft_own hs h.set (by decide)), h.Fs, h.Fb, h.ne, map_keep ht h.map hb, h.key, h.right,
    fun t v hv => ⟨own_keep ht (h.rows t v hv).1 (soft_own hs (h.rows t v hv).1 (by decide)), (h.rows t v hv).2⟩⟩
theorem SerAt.keep {k : Lit} {u : Value} {G : Nat → Prop} (h : SerAt F w om k u S) (ht : Turn G w w') (hG : ∀ x, F x → ¬ G x) : SerAt F w' om k u S :=
  ⟨h.ptr, h.Fx, blk_keep ht h.blk (hG _ h.Fx), own_keep ht h.set (fun b hb => hG _ (h.Fs b hb)), h.Fs, h.Fb, h.ne, map_keep ht h.map (hG _ h.Fb), h.key, h.right,
    fun t v hv => ⟨own_keep ht (h.rows t v hv).1 (fun b hb => hG _ ((h.rows t v hv).2.1 b hb)), (h.rows t v hv).2⟩⟩
theorem StAt.keep {G : Nat → Prop} (h : StAt F w s om S L N) (ht : Turn G w w') (hG : ∀ x, F x → ¬ G x) : StAt F w' s om S L N :=
  ⟨blk_keep ht h.blk (hG _ h.Fs), h.Fs, h.Fo, map_keep ht h.outer (hG _ h.Fo), fun k u hu => (h.ser k u hu).keep ht hG, h.apart, h.told, h.ok, h.ver, h.len, h.nb, fun x hx => Nat.lt_of_lt_of_le (h.lt x hx) ht.size⟩
theorem StAt.next (h : StAt F w s om S L N) (hb : Below w.heap.size w w') : StAt F w' s om S L N := h.keep (Turn.of (F := fun _ => False) hb) (fun _ _ h => h)
theorem StAt.more {M : Nat} (h : StAt F w s om S L N) (hm : N ≤ M) : StAt F w s om S L M :=
  ⟨h.blk, h.Fs, h.Fo, h.outer, h.ser, h.apart, h.told, h.ok, h.ver, h.len, ⟨Nat.le_trans h.nb.1 hm, fun k u hu => Nat.le_trans (h.nb.2 k u hu) hm⟩, h.lt⟩
/-- a store -/
def St (F : Nat → Prop) (w : World) (s : Nat) (L : List It) (N : Nat) : Prop := ∃ om S, StAt F w s om S L N
theorem St.keep {G : Nat → Prop} (h : St F w s L N) (ht : Turn G w w') (hG : ∀ x, F x → ¬ G x) : St F w' s L N := by
  obtain ⟨om, S, h⟩ := h
  exact ⟨om, S, h.keep ht hG⟩
theorem St.next (h : St F w s L N) (hb : Below w.heap.size w w') : St F w' s L N := by
  obtain ⟨om, S, h⟩ := h
  exact ⟨om, S, h.next hb⟩
theorem St.lt (h : St F w s L N) : ∀ x, F x → x < w.heap.size := by obtain ⟨om, S, h⟩ := h; exact h.lt
theorem lenL_mem {L : List It} {it : It} (h : it ∈ L) : it.l.length ≤ lenL L := by
  induction L with
  | nil => cases h
  | cons x L ih =>
    rw [lenL_cons]
    rcases List.mem_cons.1 h with rfl | h
    · omega
    · have := ih h; omega
/-- the chain at a place of a store -/
theorem StAt.chain (h : StAt F w s om S L N) {k : Lit} {u : Value} (hu : S.f k = some u) {z : Int} {v : Value} (hv : S.g k (litT z) = some v) :
    (⟨S.d k, z, S.l k (litT z)⟩ : It) ∈ L ∧ Chain (S.l k (litT z)) ∧ (S.l k (litT z)).length ≤ 65536 ∧ atL L (S.d k) z = S.l k (litT z) := by
  have hm : (⟨S.d k, z, S.l k (litT z)⟩ : It) ∈ L := (h.told _).2 ⟨k, u, z, v, hu, hv, rfl⟩
  exact ⟨hm, h.ok.chain _ hm, Nat.le_trans (lenL_mem hm) h.len, atL_of line_sets h.ok.rise hm⟩
theorem StAt.none (h : StAt F w s om S L N) {d : List Pr} {z : Int} (hd : RightP d) (hn : ∀ u v, S.f (.string (textL d)) = some u → S.g (.string (textL d)) (litT z) = some v → False) : atL L d z = [] := by
  rcases atL_mem (L := L) (s := d) (t := z) with e | ⟨it, hit, e1, e2, e3⟩
  · exact e
  · obtain ⟨k, u, z', v, hu, hv, rfl⟩ := (h.told it).1 hit
    simp only at e1 e2
    subst e1 e2
    have := (h.ser k u hu).key
    rw [← this] at hn
    exact (hn u v hu hv).elim

theorem lenL_nil : lenL ([] : List It) = 0 := rfl
theorem new_any (w : World) : Calls Tryz.prog 14 #[] w fun e w' => ∃ s, e = .returned (.pointer (some ⟨s, 0, none⟩)) ∧ St (fun x => w.heap.size ≤ x ∧ x < w'.heap.size) w' s [] 0 ∧ Below w.heap.size w w' := by
  have hmm := @run_makeMap Tryz.prog
  go_enter Tryz.func14, Tryz.ntmps14
  go_wp2_with fail
  go_ret
  refine ⟨_, rfl, ⟨w.heap.size, ⟨fun _ => none, 0, fun _ => 0, fun _ => .nilIface, fun _ => [], fun _ => 0, fun _ _ => none, fun _ => 0, fun _ _ => []⟩, ?_⟩, bel_alloc (below_alloc _ _)⟩
  have h3 := Blk.new (w.alloc (.map #[] 0)) #[.map (some w.heap.size), .int .i64 0] 104
  rw [World.size_alloc] at h3
  refine ⟨h3, ⟨by omega, by simp only [World.size_alloc]; omega⟩, ⟨Nat.le_refl _, by simp only [World.size_alloc]; omega⟩, (MapIs.made w Tryz.prog 9).alloc _, (fun k u h => by cases h), (fun k u k' u' h => by cases h), fun it => ?_, empty_ok, (fun it h => by cases h), (by rw [lenL_nil]; omega), ⟨Nat.le_refl _, (fun k u h => by cases h)⟩, fun x hx => hx.2⟩
  constructor
  · intro h; cases h
  · rintro ⟨k, u, z, v, h, _⟩; cases h
theorem len_any (w : World) (h : St F w s L N) : Calls Tryz.prog 19 #[.pointer (some ⟨s, 0, none⟩)] w fun e w' => e = .returned (.int .i64 (lenL L : Int)) ∧ w = w' := by
  obtain ⟨om, S, h⟩ := h
  have c1 : w.cell? ⟨s, 1, none⟩ = some (.int .i64 (lenL L : Int)) := h.blk.cell 1
  clear h
  go_enter Tryz.func19, Tryz.ntmps19
  go_wp2_with fail
  go_ret
  exact ⟨rfl, rfl⟩
theorem len_nil (w : World) : Calls Tryz.prog 19 #[.pointer none] w fun e w' => e = .returned (.int .i64 0) ∧ w = w' := by
  go_enter Tryz.func19, Tryz.ntmps19
  go_wp2_with fail
  go_ret
  exact ⟨rfl, rfl⟩
end Go.Proofs.YtplieoalfbpniaaGreat
