/- Writes and slices of them: law11.To (34), law14.Back (14), SameWrite (35), SameWrites (13). What a step turns; keys; Clone of labels (38); labels by name. Rules: law06.To (21), the document (100, 101, 78, 56). -/
import Derived.Test.YtbaflgddpciadaaGreatI6
import Derived.Test.YtbaflgddpciadaaGreatS2
import Derived.WideKeyEntry
import Derived.Maps.RangeWalk
import Derived.Sort.MapsRangeIn
import Derived.Laws.IdiomRangeMap
import Derived.StillTailTactics
import Derived.Lib.SmallJoins
import Derived.WalkSpells
import Derived.Laws.OwnMore
set_option linter.unusedVariables false
set_option linter.unusedSimpArgs false
namespace Go.Proofs.YtbaflgddpciadaaGreat
open Go.RowKit Go.Kt Go.Ix
set_option maxRecDepth 100000

theorem bel_set {x y : World} {p : Addr} {u : Value} (h : Below x.heap.size x y) (hg : x.heap.size ≤ p.block) : Below x.heap.size x (y.setCell p u) := h.setCell hg u
/-- a write: its labels, time, kind, number, text; sv: the slice that holds its labels -/
structure Wr where
  st : List Pr
  t : Int
  k : Int
  n : Int
  x : ByteArray
  sv : Value
/-- what a write says -/
def Wr.bare (m : Wr) : Wr := { m with sv := .nilIface }
def Wr.with (m : Wr) (v : Value) : Wr := { m with sv := v }
def wcells (m : Wr) : List Value := [m.sv, .int .i64 m.t, .int .i64 m.k, .int .i64 m.n, .string m.x]
def wagg (m : Wr) : Value := .agg #[m.sv, .int .i64 m.t, .int .i64 m.k, .int .i64 m.n, .string m.x]
def flatW : List Wr → List Value
  | [] => []
  | m :: t => m.sv :: .int .i64 m.t :: .int .i64 m.k :: .int .i64 m.n :: .string m.x :: flatW t
theorem flatW_append (T S : List Wr) : flatW (T ++ S) = flatW T ++ flatW S := by
  induction T with
  | nil => rfl
  | cons x t ih => simp only [List.cons_append, flatW, ih]
theorem flatW_get (T : List Wr) : ∀ (i : Nat) (x : Wr), T[i]? = some x → (flatW T)[i * 5]? = some x.sv ∧ (flatW T)[i * 5 + 1]? = some (.int .i64 x.t) ∧ (flatW T)[i * 5 + 2]? = some (.int .i64 x.k) ∧ (flatW T)[i * 5 + 3]? = some (.int .i64 x.n) ∧ (flatW T)[i * 5 + 4]? = some (.string x.x) := by
  induction T with
  | nil => intro i x h; simp at h
  | cons y t ih =>
    intro i x h
    match i with
    | 0 => simp at h; subst h; exact ⟨rfl, rfl, rfl, rfl, rfl⟩
    | i + 1 =>
      simp only [List.getElem?_cons_succ] at h
      have := ih i x h
      rw [show (i + 1) * 5 = i * 5 + 1 + 1 + 1 + 1 + 1 by omega]
      exact this
theorem wcells_one (x : Wr) (h : x.sv.oneCell' = true) : ∀ u ∈ wcells x, u.oneCell' = true := by
  intro u hu
  simp only [wcells, List.mem_cons, List.not_mem_nil, or_false] at hu
  rcases hu with rfl | rfl | rfl | rfl | rfl
  · exact h
  all_goals rfl
theorem RdP.one {w : World} {v : Value} {l : List Pr} (h : RdP w v l) : v.oneCell' = true := by
  obtain ⟨a, cap, rfl, _⟩ := h.open; rfl

def RdW (w : World) (v : Value) (L : List Wr) : Prop := RdRow 5 w v L.length (flatW L) ∧ ∀ m ∈ L, RdP w m.sv m.st
theorem RdW.below {w w' : World} {v : Value} {L : List Wr} (h : RdW w v L) (hb : Below w.heap.size w w') : RdW w' v L := ⟨h.1.below hb, fun m hm => (h.2 m hm).below hb⟩
theorem RdW.open {w : World} {v : Value} {L : List Wr} (h : RdW w v L) : ∃ a cap, v = .slice a L.length cap ∧ L.length ≤ cap ∧ cap ≤ 9223372036854775807 ∧
    ∀ (i : Nat) (x : Wr), L[i]? = some x → ∃ b o, a = some ⟨b, o, none⟩ ∧ b < w.heap.size ∧ w.cell? ⟨b, o + i * 5, none⟩ = some x.sv ∧ w.cell? ⟨b, o + i * 5 + 1, none⟩ = some (.int .i64 x.t) ∧
      w.cell? ⟨b, o + i * 5 + 2, none⟩ = some (.int .i64 x.k) ∧ w.cell? ⟨b, o + i * 5 + 3, none⟩ = some (.int .i64 x.n) ∧ w.cell? ⟨b, o + i * 5 + 4, none⟩ = some (.string x.x) := by
  obtain ⟨⟨_, a, cap, rfl, h1, h2, _, h5⟩, _⟩ := h
  refine ⟨a, cap, rfl, h1, h2, fun i x hi => ?_⟩
  obtain ⟨c0, c1, c2, c3, c4⟩ := flatW_get L i x hi
  obtain ⟨b, o, rfl, hc⟩ := h5 _ _ c0
  have key : ∀ j u, (flatW L)[i * 5 + j]? = some u → w.cell? ⟨b, o + i * 5 + j, none⟩ = some u := by
    intro j u hj
    obtain ⟨b', o', e, hc'⟩ := h5 _ _ hj
    cases e
    rw [Nat.add_assoc]; exact hc'
  exact ⟨b, o, rfl, World.block_lt_of_cell? w _ hc, hc, key 1 _ c1, key 2 _ c2, key 3 _ c3, key 4 _ c4⟩

set_option maxHeartbeats 1000000 in
/-- law11.To -/
theorem wto_any (m : Wr) (w : World) (hv : RdP w m.sv m.st) (hlen : m.st.length ≤ 4398046511104) :
    Calls Tryz.prog 61 #[wagg m] w fun e w' => ∃ v', e = .returned (wagg (m.with v')) ∧ OwnP 104 w' v' m.st ∧ Below w.heap.size w w' := by
  obtain ⟨st, t, k, n, x, sv⟩ := m
  simp only at hv hlen
  obtain ⟨a, cap, rfl, _⟩ := hv.open
  have HV := Lib.hid hv
  clear hv
  unfold wagg Wr.with
  go_enter Tryz.func61, Tryz.ntmps61
  go_wp2_with fail
  have HX := Lib.hid ((Blk.new w #[.slice a st.length cap, .int .i64 t, .int .i64 k, .int .i64 n, .string x] 145).next (below_alloc _ (.cells #[.slice none 0 0, .int .i64 0, .int .i64 0, .int .i64 0, .string ⟨#[]⟩] 87)))
  have HR := Lib.hid (Blk.new (w.alloc (.cells #[.slice a st.length cap, .int .i64 t, .int .i64 k, .int .i64 n, .string x] 145)) #[.slice none 0 0, .int .i64 0, .int .i64 0, .int .i64 0, .string ⟨#[]⟩] 87)
  have Hb := Lib.hid (bel_alloc (o := .cells #[.slice none 0 0, .int .i64 0, .int .i64 0, .int .i64 0, .string ⟨#[]⟩] 87) (bel_alloc (o := .cells #[.slice a st.length cap, .int .i64 t, .int .i64 k, .int .i64 n, .string x] 145) (bel_refl w)))
  have Hs5 : Hid (((w.alloc (.cells #[.slice a st.length cap, .int .i64 t, .int .i64 k, .int .i64 n, .string x] 145)).alloc (.cells #[.slice none 0 0, .int .i64 0, .int .i64 0, .int .i64 0, .string ⟨#[]⟩] 87)).heap.size = w.heap.size + 2) := Lib.hid (by simp only [World.size_alloc])
  simp only [World.size_alloc] at HX HR
  generalize (w.alloc (.cells #[.slice a st.length cap, .int .i64 t, .int .i64 k, .int .i64 n, .string x] 145)).alloc (.cells #[.slice none 0 0, .int .i64 0, .int .i64 0, .int .i64 0, .string ⟨#[]⟩] 87) = w5 at HX HR Hb Hs5 ⊢
  have HK : Hid (∀ w', Below w5.heap.size w5 w' → w'.cell? ⟨w.heap.size, 0, none⟩ = some (.slice a st.length cap) ∧ w'.cell? ⟨w.heap.size, 1, none⟩ = some (.int .i64 t) ∧ w'.cell? ⟨w.heap.size, 2, none⟩ = some (.int .i64 k) ∧ w'.cell? ⟨w.heap.size, 3, none⟩ = some (.int .i64 n) ∧ w'.cell? ⟨w.heap.size, 4, none⟩ = some (.string x)) :=
    Lib.hid (fun w' h => ⟨(HX.out.next h).cell 0, (HX.out.next h).cell 1, (HX.out.next h).cell 2, (HX.out.next h).cell 3, (HX.out.next h).cell 4⟩)
  have HV5 := Lib.hid (HV.out.below Hb.out)
  have hx5 := bel_refl w5
  obtain ⟨k0, k1, k2, k3, k4⟩ := HK.out _ hx5
  go_region_held3 (fun w' => w'.cell? ⟨w.heap.size, 0, none⟩ = some (.slice a st.length cap) ∧ w'.cell? ⟨w.heap.size, 1, none⟩ = some (.int .i64 t) ∧ w'.cell? ⟨w.heap.size, 2, none⟩ = some (.int .i64 k) ∧ w'.cell? ⟨w.heap.size, 3, none⟩ = some (.int .i64 n) ∧ w'.cell? ⟨w.heap.size, 4, none⟩ = some (.string x))
    (first | (with_reducible exact ⟨k0, k1, k2, k3, k4⟩) | (with_reducible refine HK.out _ ?_; (repeat (first | assumption | apply bel_alloc | apply bel_drew)); done) | go_keep)
    (first
      | (go_simp; go_at_call 136; refine (to_any (.slice a st.length cap) st _ (HV5.out.below (by repeat (first | exact bel_refl _ | assumption | apply bel_alloc | apply bel_drew))) hlen).mono ?_; intro e w6 h6; obtain ⟨v6, rfl, hm6⟩ := h6; obtain ⟨a6, cap6, rfl, _⟩ := hm6.rd.open; have hx6 : Below w5.heap.size w5 w6 := bel_trans (by repeat (first | assumption | apply bel_alloc | apply bel_drew)) hm6.bel; have HM6 := Lib.hid hm6; obtain ⟨q0, q1, q2, q3, q4⟩ := HK.out _ hx6; have hr := HR.out.next hx6; have r0 : w6.cell? ⟨w.heap.size + 1, 0, none⟩ = some (.slice none 0 0) := hr.cell 0; have r1 : w6.cell? ⟨w.heap.size + 1, 1, none⟩ = some (.int .i64 0) := hr.cell 1; have r2 : w6.cell? ⟨w.heap.size + 1, 2, none⟩ = some (.int .i64 0) := hr.cell 2; have r3 : w6.cell? ⟨w.heap.size + 1, 3, none⟩ = some (.int .i64 0) := hr.cell 3; have r4 : w6.cell? ⟨w.heap.size + 1, 4, none⟩ = some (.string ⟨#[]⟩) := hr.cell 4; have f0 : w6.frozen? ⟨w.heap.size + 1, 0, none⟩ = false := hr.free 0; have f1 : w6.frozen? ⟨w.heap.size + 1, 1, none⟩ = false := hr.free 1; have f2 : w6.frozen? ⟨w.heap.size + 1, 2, none⟩ = false := hr.free 2; have f3 : w6.frozen? ⟨w.heap.size + 1, 3, none⟩ = false := hr.free 3; have f4 : w6.frozen? ⟨w.heap.size + 1, 4, none⟩ = false := hr.free 4; clear hm6 hr))
  go_wp2_with fail
  refine bodyPost_ret (v := .agg #[.slice a6 st.length cap6, .int .i64 t, .int .i64 k, .int .i64 n, .string x]) (by simp [results, Tryz.results61, go_sem, *]) rfl ⟨_, rfl, ?_, ?_⟩
  · have hne : ∀ c, (Value.slice a6 st.length cap6).ownBlock = some c → c ≠ w.heap.size + 1 := fun c hc e => by
      have := HM6.out.2.1 c hc
      have := Hs5.out
      simp only [World.size_drew] at *
      omega
    exact own_set (own_set (own_set (own_set (own_set HM6.out.1 hne _) hne _) hne _) hne _) hne _
  · have h6 := bel_trans Hb.out hx6
    exact bel_set (bel_set (bel_set (bel_set (bel_set h6 (Nat.le_succ _)) (Nat.le_succ _)) (Nat.le_succ _)) (Nat.le_succ _)) (Nat.le_succ _)

/-! ### rows of writes that a call makes, each with its own labels -/
theorem own_apart {w : World} {e1 e2 : TypeId} {s1 s2 n1 n2 : Nat} {v1 v2 : Value} {x1 x2 : List Value} (h1 : Own e1 s1 w v1 n1 x1) (h2 : Own e2 s2 w v2 n2 x2) (hne : e1 ≠ e2) :
    ∀ b, v1.ownBlock = some b → v2.ownBlock ≠ some b := by
  intro b hb hb2
  rcases h1.2 with ⟨rfl, _⟩ | ⟨g, cap, cur, rfl, _, hg, _⟩
  · cases hb
  · cases hb
    rcases h2.2 with ⟨rfl, _⟩ | ⟨g2, cap2, cur2, rfl, _, hg2, _⟩
    · cases hb2
    · cases hb2
      rw [hg] at hg2
      injection hg2 with hg2
      injection hg2 with _ h
      exact hne h
end Go.Proofs.YtbaflgddpciadaaGreat
namespace Go.Proofs.YtbaflgddpciadaaGreat
open Go.RowKit Go.Kt Go.Ix
set_option maxRecDepth 100000

structure Turn (F : Nat → Prop) (w w' : World) : Prop where
  os : w'.os = w.os
  tape : w'.tape = w.tape
  output : w'.output = w.output
  size : w.heap.size ≤ w'.heap.size
  block : ∀ k, k < w.heap.size → ¬ F k → w'.heap[k]? = w.heap[k]?
theorem Turn.refl (F : Nat → Prop) (w : World) : Turn F w w := ⟨rfl, rfl, rfl, Nat.le_refl _, fun _ _ _ => rfl⟩
theorem Turn.trans {F G : Nat → Prop} {a b c : World} (h : Turn F a b) (k : Turn G b c) (hG : ∀ x, G x → F x ∨ a.heap.size ≤ x) : Turn F a c :=
  ⟨k.os.trans h.os, k.tape.trans h.tape, k.output.trans h.output, Nat.le_trans h.size k.size, fun i hi hn => (k.block i (Nat.lt_of_lt_of_le hi h.size) (fun hx => by
    rcases hG i hx with h1 | h1
    · exact hn h1
    · omega)).trans (h.block i hi hn)⟩
theorem Turn.of {F : Nat → Prop} {w w' : World} (h : Below w.heap.size w w') : Turn F w w' := ⟨h.os, h.tape, h.output, h.size, fun k hk _ => h.block k hk⟩
theorem Turn.bel {F : Nat → Prop} {w w' : World} (h : Turn F w w') {B : Nat} (hB : B ≤ w.heap.size) (hF : ∀ x, F x → B ≤ x) : Below B w w' :=
  ⟨h.os, h.tape, h.output, h.size, fun k hk => h.block k (by omega) (fun hx => by have := hF k hx; omega)⟩
theorem Turn.mono {F G : Nat → Prop} {w w' : World} (h : Turn F w w') (hG : ∀ x, F x → G x) : Turn G w w' := ⟨h.os, h.tape, h.output, h.size, fun k hk hn => h.block k hk (fun hx => hn (hG k hx))⟩
theorem Turn.next {F : Nat → Prop} {w w1 w' : World} (h : Turn F w w1) (hb : Below w1.heap.size w1 w') : Turn F w w' := h.trans (Turn.of (F := fun _ => False) hb) (fun _ hx => hx.elim)
theorem Turn.set {F : Nat → Prop} {w w' : World} (h : Turn F w w') {a : Addr} (ha : F a.block) (u : Value) : Turn F w (w'.setCell a u) :=
  ⟨h.os, h.tape, h.output, by simpa using h.size, fun k hk hn => (heap_setCell_other w' a k u (fun e => hn (e ▸ ha))).trans (h.block k hk hn)⟩
theorem Turn.grown {F : Nat → Prop} {w w' : World} {r : Option Nat} (hg : w.grownBy w' r) (hF : ∀ b, r = some b → F b) : Turn F w w' :=
  ⟨hg.os, hg.tape, hg.output, hg.size, fun k hk hn => hg.block k hk (fun e => hn (hF k e.symm))⟩
theorem blk_keep {F : Nat → Prop} {w w' : World} {g : Nat} {cs : Array Value} {t : TypeId} (ht : Turn F w w') (h : Blk w g cs t) (hn : ¬ F g) : Blk w' g cs t := (ht.block _ h.lt hn).trans h
theorem own_keep {F : Nat → Prop} {w w' : World} {e : TypeId} {size n : Nat} {v : Value} {xs : List Value} (ht : Turn F w w') (h : Own e size w v n xs) (hn : ∀ b, v.ownBlock = some b → ¬ F b) : Own e size w' v n xs :=
  Own.keep h fun x hx => ht.block x (h.lt x hx) (hn x hx)
theorem map_keep {F : Nat → Prop} {w w' : World} {k : TypeId} {m n : Nat} {f : Lit → Option Value} (ht : Turn F w w') (h : MapIs Tryz.prog k w m f n) (hn : ¬ F m) : MapIs Tryz.prog k w' m f n := by
  obtain ⟨D, ⟨es, ck, hb, F1, hs, hD⟩, h2, h3⟩ := h
  exact ⟨D, ⟨es, ck, (ht.block m (Array.getElem?_eq_some_iff.1 hb).1 hn).trans hb, F1, hs, hD⟩, h2, h3⟩


def ints (l : List Nat) : List Value := l.map fun (n : Nat) => .int .i64 (n : Int)
def kl (s : ByteArray) : Lit := .string (bl s)
theorem key9 : Maps.Keyed Tryz.prog 9 := Maps.string_keyed Tryz.underlying9
theorem keyOf9 (s : ByteArray) (hs : s.size ≤ maxLen) : keyOf Tryz.prog 9 (.string s) = some (kl s) := WideMaps.keyOf_string_mk Tryz.underlying9 hs
set_option maxRecDepth 8000 in
set_option maxHeartbeats 1000000 in
theorem clone_any (v : Value) (l : List Pr) (w : World) (hv : RdP w v l) (hlen : l.length ≤ 4398046511104) :
    Calls Tryz.prog 153 #[v] w fun e w' => ∃ v', e = .returned v' ∧ MineP 104 w w' v' l := by
  have he := fun (a : Option Addr) (n c : Nat) => Lib.run_eql_slice_nil (P := Tryz.prog) w 85 104 a n c 0 0 Tryz.underlying85
  have HV := Lib.hid hv
  obtain ⟨hl, a, cap, rfl, h1, h2, h3, _⟩ := hv
  cases a with
  | none =>
    obtain rfl : cap = 0 := h3 rfl
    obtain hl0 : l = [] := List.eq_nil_of_length_eq_zero (by omega)
    subst hl0
    clear HV
    go_enter Tryz.func153, Tryz.ntmps153
    go_wp2_with fail
    go_ret
    exact ⟨_, rfl, mine_nil 104 2 w⟩
  | some ad =>
    clear hl h3
    go_enter Tryz.func153, Tryz.ntmps153
    go_wp2_with (at_builtin; apply Hold.mk)
    unfold Hold
    refine wpList_app rfl _ _ 85 rfl ok67 (by rfl) (by rfl) (n := 0) (xs := []) (own_lit w 104 2 #[] 0 (Nat.zero_le _) rfl) (HV.out.below (below_alloc w _)) (by exact flatP_one l) (by simp only [maxLen]; omega) (by omega) ?_
    intro v7 w7 ho7 hg7 hn7
    rw [Nat.zero_add, List.nil_append] at ho7
    have HM7 : Hid (MineP 104 w w7 v7 l) := Lib.hid ⟨ho7, fun b hb => by
        rcases hn7 b hb with h | h
        · have h' : w.heap.size = b := by simpa [Value.ownBlock] using h
          omega
        · simp only [World.size_alloc] at h; omega, (bel_alloc (bel_refl w)).grown hg7 (by simp only [World.size_alloc]; omega) (fun k hk => Nat.le_of_eq (by simpa [Value.ownBlock] using hk))⟩
    clear ho7 hg7 hn7
    go_wp2_with fail
    go_ret
    exact ⟨_, rfl, HM7.out⟩
theorem right_len {d : List Pr} (h : RightP d) : d.length ≤ 4398046511104 := by have := h.1; omega

theorem own_place {e : TypeId} {size : Nat} {w : World} {v : Value} {n : Nat} {xs : List Value} (h : Own e size w v n xs) {j : Nat} (hj : j < n * size) :
    ∃ b cap, v = .slice (some ⟨b, 0, none⟩) n cap ∧ w.cell? ⟨b, j, none⟩ = xs[j]? ∧ w.frozen? ⟨b, j, none⟩ = false ∧ ∀ u, Own e size (w.setCell ⟨b, j, none⟩ u) v n (xs.set j u) := by
  have h' := h
  rcases h with ⟨hl, ⟨rfl, h0⟩ | ⟨g, cap', cur, rfl, hb, hg, hn, hm, hcs, ht⟩⟩
  · subst h0
    simp at hj
  · have hown : w.ownsRow 0 e size (.slice (some ⟨g, 0, none⟩) n cap') n xs := h'
    exact ⟨g, cap', rfl, hown.cellAt j (by omega), hown.frozenAt j, fun u => (hown.stored j u).1⟩
end Go.Proofs.YtbaflgddpciadaaGreat
namespace Go.Proofs.YtbaflgddpciadaaGreat
open Go.RowKit Go.Kt Go.Ix
set_option maxRecDepth 100000

/-- a rule -/
structure Rl where
  n : ByteArray
  op : Int
  v : ByteArray
def flatR : List Rl → List Value
  | [] => []
  | r :: t => .string r.n :: .int .i64 r.op :: .string r.v :: flatR t
theorem flatR_append (T S : List Rl) : flatR (T ++ S) = flatR T ++ flatR S := by
  induction T with
  | nil => rfl
  | cons x t ih => simp only [List.cons_append, flatR, ih]
theorem flatR_get (T : List Rl) : ∀ (i : Nat) (x : Rl), T[i]? = some x → (flatR T)[i * 3]? = some (.string x.n) ∧ (flatR T)[i * 3 + 1]? = some (.int .i64 x.op) ∧ (flatR T)[i * 3 + 2]? = some (.string x.v) := by
  induction T with
  | nil => intro i x h; simp at h
  | cons y t ih =>
    intro i x h
    match i with
    | 0 => simp at h; subst h; exact ⟨rfl, rfl, rfl⟩
    | i + 1 =>
      simp only [List.getElem?_cons_succ] at h
      have := ih i x h
      rw [show (i + 1) * 3 = i * 3 + 1 + 1 + 1 by omega]
      exact this
theorem flatR_take (T : List Rl) (k : Nat) (x : Rl) (h : T[k]? = some x) : flatR (T.take (k + 1)) = flatR (T.take k) ++ [.string x.n, .int .i64 x.op, .string x.v] := by
  obtain ⟨hk, rfl⟩ := List.getElem?_eq_some_iff.1 h
  rw [List.take_succ_eq_append_getElem hk, flatR_append]; rfl
def RdR (w : World) (v : Value) (l : List Rl) : Prop := RdRow 3 w v l.length (flatR l)
theorem RdR.below {w w' : World} {v : Value} {l : List Rl} (h : RdR w v l) (hb : Below w.heap.size w w') : RdR w' v l := RdRow.below h hb
theorem RdR.open {w : World} {v : Value} {l : List Rl} (h : RdR w v l) : ∃ a cap, v = .slice a l.length cap ∧ l.length ≤ cap ∧ cap ≤ 9223372036854775807 ∧
    ∀ (i : Nat) (x : Rl), l[i]? = some x → ∃ b o, a = some ⟨b, o, none⟩ ∧ b < w.heap.size ∧ w.cell? ⟨b, o + i * 3, none⟩ = some (.string x.n) ∧ w.cell? ⟨b, o + i * 3 + 1, none⟩ = some (.int .i64 x.op) ∧ w.cell? ⟨b, o + i * 3 + 2, none⟩ = some (.string x.v) := by
  obtain ⟨_, a, cap, rfl, h1, h2, _, h5⟩ := h
  refine ⟨a, cap, rfl, h1, h2, fun i x hi => ?_⟩
  obtain ⟨c0, c1, c2⟩ := flatR_get l i x hi
  obtain ⟨b, o, rfl, hc⟩ := h5 _ _ c0
  have key : ∀ j u, (flatR l)[i * 3 + j]? = some u → w.cell? ⟨b, o + i * 3 + j, none⟩ = some u := by
    intro j u hj
    obtain ⟨b', o', e, hc'⟩ := h5 _ _ hj
    cases e
    rw [Nat.add_assoc]; exact hc'
  exact ⟨b, o, rfl, World.block_lt_of_cell? w _ hc, hc, key 1 _ c1, key 2 _ c2⟩

def FitR (l : List Rl) : Prop := ∀ r ∈ l, r.n.size ≤ maxLen ∧ r.v.size ≤ maxLen
/-- does a rule hold of a value? -/
def holdsB (r : Rl) (v : ByteArray) : Bool :=
  if r.op = 1 then (v.toList == r.v.toList) else if r.op = 2 then !(v.toList == r.v.toList) else if r.op = 3 then Lib.hasPrefix (bl v) (bl r.v) else if r.op = 4 then Lib.contains (bl v) (bl r.v) else false
def Glob (w : World) : Prop := ∃ m, w.cell? ⟨0, 0, none⟩ = some (.int .i64 m)
theorem Glob.below {w w' : World} (h : Glob w) (hb : Below w.heap.size w w') : Glob w' := by
  obtain ⟨m, hm⟩ := h
  exact ⟨m, (hb.cell (p := ⟨0, 0, none⟩) (World.block_lt_of_cell? w _ hm)).trans hm⟩
theorem Glob.turn {F : Nat → Prop} {w w' : World} (h : Glob w) (ht : Turn F w w') (h0 : ¬ F 0) : Glob w' := by
  obtain ⟨m, hm⟩ := h
  exact ⟨m, (World.cell?_of_block (ht.block 0 (World.block_lt_of_cell? w _ hm) h0)).trans hm⟩
def ragg (r : Rl) : Value := .agg #[.string r.n, .int .i64 r.op, .string r.v]

theorem size_cases (s : ByteArray) : (s.size = 0 ∧ s.toList.isEmpty = true) ∨ (0 < s.size ∧ s.toList.isEmpty = false) := by
  by_cases h : s.size = 0
  · exact .inl ⟨h, bytes_nil h⟩
  · exact .inr ⟨by omega, bytes_some (by omega)⟩



def allB (l : List Rl) (d : List Pr) : Bool := l.all fun r => holdsB r (getL d r.n)
theorem allB_next {l : List Rl} {k : Nat} {r : Rl} (h : l[k]? = some r) (d : List Pr) : allB (l.take (k + 1)) d = (allB (l.take k) d && holdsB r (getL d r.n)) := by
  obtain ⟨hk, rfl⟩ := List.getElem?_eq_some_iff.1 h
  unfold allB
  rw [List.take_succ_eq_append_getElem hk, List.all_append]
  simp

theorem ok56 : ElemOk Tryz.prog 59 164 (.agg #[.string ⟨#[]⟩, .int .i64 0, .string ⟨#[]⟩]) 3 40 := ⟨Tryz.underlying59, info_parts (by kernel_rfl), rfl, by decide⟩
theorem rule_one (r : Rl) : ∀ u ∈ (#[Value.string r.n, Value.int .i64 r.op, Value.string r.v] : Array Value).toList, u.oneCell' = true := by
  intro u hu
  simp only [List.mem_cons, List.not_mem_nil, or_false] at hu
  rcases hu with rfl | rfl | rfl <;> rfl
def MineR (e : TypeId) (w0 w : World) (v : Value) (l : List Rl) : Prop := Mine e 3 w0 w v l.length (flatR l)
theorem MineR.rd {e : TypeId} {w0 w : World} {v : Value} {l : List Rl} (h : MineR e w0 w v l) : RdR w v l := h.1.rd

/-- whether a text stands at some place from k on -/
def occFrom (s p : List UInt8) (k : Nat) : Prop := ∃ i, k ≤ i ∧ i ≤ s.length ∧ Lib.occAt s p i = true
end Go.Proofs.YtbaflgddpciadaaGreat
