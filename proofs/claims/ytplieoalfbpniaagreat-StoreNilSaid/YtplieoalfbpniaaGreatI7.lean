/- Writes and slices of them: law11.To (34), law14.Back (14), SameWrite (35), SameWrites (13). -/
import Derived.Test.YtplieoalfbpniaaGreatI6
namespace Go.Proofs.YtplieoalfbpniaaGreat
open Go.RowKit Go.Kt Go.Ix
set_option maxRecDepth 100000

theorem bel_set {x y : World} {p : Addr} {u : Value} (h : Below x.heap.size x y) (hg : x.heap.size ≤ p.block) : Below x.heap.size x (y.setCell p u) := h.setCell hg u
/-- a write: its labels, time, kind, number, text; sv: the slice that holds its labels -/
structure Wr where
  st : List Pr
  t : Int
  k : Int
  n : Int
  x : ByteArray
  sv : Value
/-- what a write says -/
def Wr.bare (m : Wr) : Wr := { m with sv := .nilIface }
def Wr.with (m : Wr) (v : Value) : Wr := { m with sv := v }
def wcells (m : Wr) : List Value := [m.sv, .int .i64 m.t, .int .i64 m.k, .int .i64 m.n, .string m.x]
def wagg (m : Wr) : Value := .agg #[m.sv, .int .i64 m.t, .int .i64 m.k, .int .i64 m.n, .string m.x]
def flatW : List Wr → List Value
  | [] => []
  | m :: t => m.sv :: .int .i64 m.t :: .int .i64 m.k :: .int .i64 m.n :: .string m.x :: flatW t
theorem flatW_len (T : List Wr) : (flatW T).length = T.length * 5 := by
  induction T with
  | nil => rfl
  | cons x t ih => simp only [flatW, List.length_cons, ih]; omega
theorem flatW_append (T S : List Wr) : flatW (T ++ S) = flatW T ++ flatW S := by
  induction T with
  | nil => rfl
  | cons x t ih => simp only [List.cons_append, flatW, ih]
theorem flatW_get (T : List Wr) : ∀ (i : Nat) (x : Wr), T[i]? = some x → (flatW T)[i * 5]? = some x.sv ∧ (flatW T)[i * 5 + 1]? = some (.int .i64 x.t) ∧ (flatW T)[i * 5 + 2]? = some (.int .i64 x.k) ∧ (flatW T)[i * 5 + 3]? = some (.int .i64 x.n) ∧ (flatW T)[i * 5 + 4]? = some (.string x.x) := by
  induction T with
  | nil => intro i x h; simp at h
  | cons y t ih =>
    intro i x h
    match i with
    | 0 => simp at h; subst h; exact ⟨rfl, rfl, rfl, rfl, rfl⟩
    | i + 1 =>
      simp only [List.getElem?_cons_succ] at h
      have := ih i x h
      rw [show (i + 1) * 5 = i * 5 + 1 + 1 + 1 + 1 + 1 by omega]
      exact this
theorem flatW_take (T : List Wr) (k : Nat) (x : Wr) (h : T[k]? = some x) : flatW (T.take (k + 1)) = flatW (T.take k) ++ wcells x := by
  obtain ⟨hk, rfl⟩ := List.getElem?_eq_some_iff.1 h
  rw [List.take_succ_eq_append_getElem hk, flatW_append]; rfl
theorem wcells_one (x : Wr) (h : x.sv.oneCell' = true) : ∀ u ∈ wcells x, u.oneCell' = true := by
  intro u hu
  simp only [wcells, List.mem_cons, List.not_mem_nil, or_false] at hu
  rcases hu with rfl | rfl | rfl | rfl | rfl
  · exact h
  all_goals rfl
theorem RdP.one {w : World} {v : Value} {l : List Pr} (h : RdP w v l) : v.oneCell' = true := by
  obtain ⟨a, cap, rfl, _⟩ := h.open; rfl

def RdW (w : World) (v : Value) (L : List Wr) : Prop := RdRow 5 w v L.length (flatW L) ∧ ∀ m ∈ L, RdP w m.sv m.st
theorem RdW.below {w w' : World} {v : Value} {L : List Wr} (h : RdW w v L) (hb : Below w.heap.size w w') : RdW w' v L := ⟨h.1.below hb, fun m hm => (h.2 m hm).below hb⟩
theorem RdW.open {w : World} {v : Value} {L : List Wr} (h : RdW w v L) : ∃ a cap, v = .slice a L.length cap ∧ L.length ≤ cap ∧ cap ≤ 9223372036854775807 ∧
    ∀ (i : Nat) (x : Wr), L[i]? = some x → ∃ b o, a = some ⟨b, o, none⟩ ∧ b < w.heap.size ∧ w.cell? ⟨b, o + i * 5, none⟩ = some x.sv ∧ w.cell? ⟨b, o + i * 5 + 1, none⟩ = some (.int .i64 x.t) ∧
      w.cell? ⟨b, o + i * 5 + 2, none⟩ = some (.int .i64 x.k) ∧ w.cell? ⟨b, o + i * 5 + 3, none⟩ = some (.int .i64 x.n) ∧ w.cell? ⟨b, o + i * 5 + 4, none⟩ = some (.string x.x) := by
  obtain ⟨⟨_, a, cap, rfl, h1, h2, _, h5⟩, _⟩ := h
  refine ⟨a, cap, rfl, h1, h2, fun i x hi => ?_⟩
  obtain ⟨c0, c1, c2, c3, c4⟩ := flatW_get L i x hi
  obtain ⟨b, o, rfl, hc⟩ := h5 _ _ c0
  have key : ∀ j u, (flatW L)[i * 5 + j]? = some u → w.cell? ⟨b, o + i * 5 + j, none⟩ = some u := by
    intro j u hj
    obtain ⟨b', o', e, hc'⟩ := h5 _ _ hj
    cases e
    rw [Nat.add_assoc]; exact hc'
  exact ⟨b, o, rfl, World.block_lt_of_cell? w _ hc, hc, key 1 _ c1, key 2 _ c2, key 3 _ c3, key 4 _ c4⟩

set_option maxHeartbeats 1000000 in
/-- law11.To -/
theorem wto_any (m : Wr) (w : World) (hv : RdP w m.sv m.st) (hlen : m.st.length ≤ 4398046511104) :
    Calls Tryz.prog 16 #[wagg m] w fun e w' => ∃ v', e = .returned (wagg (m.with v')) ∧ OwnP 69 w' v' m.st ∧ Below w.heap.size w w' := by
  obtain ⟨st, t, k, n, x, sv⟩ := m
  simp only at hv hlen
  obtain ⟨a, cap, rfl, _⟩ := hv.open
  have HV := Lib.hid hv
  clear hv
  unfold wagg Wr.with
  go_enter Tryz.func16, Tryz.ntmps16
  go_wp2_with fail
  have HX := Lib.hid ((Blk.new w #[.slice a st.length cap, .int .i64 t, .int .i64 k, .int .i64 n, .string x] 43).next (below_alloc _ (.cells #[.slice none 0 0, .int .i64 0, .int .i64 0, .int .i64 0, .string ⟨#[]⟩] 50)))
  have HR := Lib.hid (Blk.new (w.alloc (.cells #[.slice a st.length cap, .int .i64 t, .int .i64 k, .int .i64 n, .string x] 43)) #[.slice none 0 0, .int .i64 0, .int .i64 0, .int .i64 0, .string ⟨#[]⟩] 50)
  have Hb := Lib.hid (bel_alloc (o := .cells #[.slice none 0 0, .int .i64 0, .int .i64 0, .int .i64 0, .string ⟨#[]⟩] 50) (bel_alloc (o := .cells #[.slice a st.length cap, .int .i64 t, .int .i64 k, .int .i64 n, .string x] 43) (bel_refl w)))
  have Hs5 : Hid (((w.alloc (.cells #[.slice a st.length cap, .int .i64 t, .int .i64 k, .int .i64 n, .string x] 43)).alloc (.cells #[.slice none 0 0, .int .i64 0, .int .i64 0, .int .i64 0, .string ⟨#[]⟩] 50)).heap.size = w.heap.size + 2) := Lib.hid (by simp only [World.size_alloc])
  simp only [World.size_alloc] at HX HR
  generalize (w.alloc (.cells #[.slice a st.length cap, .int .i64 t, .int .i64 k, .int .i64 n, .string x] 43)).alloc (.cells #[.slice none 0 0, .int .i64 0, .int .i64 0, .int .i64 0, .string ⟨#[]⟩] 50) = w5 at HX HR Hb Hs5 ⊢
  have HK : Hid (∀ w', Below w5.heap.size w5 w' → w'.cell? ⟨w.heap.size, 0, none⟩ = some (.slice a st.length cap) ∧ w'.cell? ⟨w.heap.size, 1, none⟩ = some (.int .i64 t) ∧ w'.cell? ⟨w.heap.size, 2, none⟩ = some (.int .i64 k) ∧ w'.cell? ⟨w.heap.size, 3, none⟩ = some (.int .i64 n) ∧ w'.cell? ⟨w.heap.size, 4, none⟩ = some (.string x)) :=
    Lib.hid (fun w' h => ⟨(HX.out.next h).cell 0, (HX.out.next h).cell 1, (HX.out.next h).cell 2, (HX.out.next h).cell 3, (HX.out.next h).cell 4⟩)
  have HV5 := Lib.hid (HV.out.below Hb.out)
  have hx5 := bel_refl w5
  obtain ⟨k0, k1, k2, k3, k4⟩ := HK.out _ hx5
  go_region_held3 (fun w' => w'.cell? ⟨w.heap.size, 0, none⟩ = some (.slice a st.length cap) ∧ w'.cell? ⟨w.heap.size, 1, none⟩ = some (.int .i64 t) ∧ w'.cell? ⟨w.heap.size, 2, none⟩ = some (.int .i64 k) ∧ w'.cell? ⟨w.heap.size, 3, none⟩ = some (.int .i64 n) ∧ w'.cell? ⟨w.heap.size, 4, none⟩ = some (.string x))
    (first | (with_reducible exact ⟨k0, k1, k2, k3, k4⟩) | (with_reducible refine HK.out _ ?_; (repeat (first | assumption | apply bel_alloc | apply bel_drew)); done) | go_keep)
    (first
      | (go_simp; go_at_call 41; refine (to_any (.slice a st.length cap) st _ (HV5.out.below (by repeat (first | exact bel_refl _ | assumption | apply bel_alloc | apply bel_drew))) hlen).mono ?_; intro e w6 h6; obtain ⟨v6, rfl, hm6⟩ := h6; obtain ⟨a6, cap6, rfl, _⟩ := hm6.rd.open; have hx6 : Below w5.heap.size w5 w6 := bel_trans (by repeat (first | assumption | apply bel_alloc | apply bel_drew)) hm6.bel; have HM6 := Lib.hid hm6; obtain ⟨q0, q1, q2, q3, q4⟩ := HK.out _ hx6; have hr := HR.out.next hx6; have r0 : w6.cell? ⟨w.heap.size + 1, 0, none⟩ = some (.slice none 0 0) := hr.cell 0; have r1 : w6.cell? ⟨w.heap.size + 1, 1, none⟩ = some (.int .i64 0) := hr.cell 1; have r2 : w6.cell? ⟨w.heap.size + 1, 2, none⟩ = some (.int .i64 0) := hr.cell 2; have r3 : w6.cell? ⟨w.heap.size + 1, 3, none⟩ = some (.int .i64 0) := hr.cell 3; have r4 : w6.cell? ⟨w.heap.size + 1, 4, none⟩ = some (.string ⟨#[]⟩) := hr.cell 4; have f0 : w6.frozen? ⟨w.heap.size + 1, 0, none⟩ = false := hr.free 0; have f1 : w6.frozen? ⟨w.heap.size + 1, 1, none⟩ = false := hr.free 1; have f2 : w6.frozen? ⟨w.heap.size + 1, 2, none⟩ = false := hr.free 2; have f3 : w6.frozen? ⟨w.heap.size + 1, 3, none⟩ = false := hr.free 3; have f4 : w6.frozen? ⟨w.heap.size + 1, 4, none⟩ = false := hr.free 4; clear hm6 hr))
  go_wp2_with fail
  refine bodyPost_ret (v := .agg #[.slice a6 st.length cap6, .int .i64 t, .int .i64 k, .int .i64 n, .string x]) (by simp [results, Tryz.results16, go_sem, *]) rfl ⟨_, rfl, ?_, ?_⟩
  · have hne : ∀ c, (Value.slice a6 st.length cap6).ownBlock = some c → c ≠ w.heap.size + 1 := fun c hc e => by
      have := HM6.out.2.1 c hc
      have := Hs5.out
      simp only [World.size_drew] at *
      omega
    exact own_set (own_set (own_set (own_set (own_set HM6.out.1 hne _) hne _) hne _) hne _) hne _
  · have h6 := bel_trans Hb.out hx6
    exact bel_set (bel_set (bel_set (bel_set (bel_set h6 (Nat.le_succ _)) (Nat.le_succ _)) (Nat.le_succ _)) (Nat.le_succ _)) (Nat.le_succ _)

/-! ### rows of writes that a call makes, each with its own labels -/
theorem own_apart {w : World} {e1 e2 : TypeId} {s1 s2 n1 n2 : Nat} {v1 v2 : Value} {x1 x2 : List Value} (h1 : Own e1 s1 w v1 n1 x1) (h2 : Own e2 s2 w v2 n2 x2) (hne : e1 ≠ e2) :
    ∀ b, v1.ownBlock = some b → v2.ownBlock ≠ some b := by
  intro b hb hb2
  rcases h1.2 with ⟨rfl, _⟩ | ⟨g, cap, cur, rfl, _, hg, _⟩
  · cases hb
  · cases hb
    rcases h2.2 with ⟨rfl, _⟩ | ⟨g2, cap2, cur2, rfl, _, hg2, _⟩
    · cases hb2
    · cases hb2
      rw [hg] at hg2
      injection hg2 with hg2
      injection hg2 with _ h
      exact hne h
end Go.Proofs.YtplieoalfbpniaaGreat
