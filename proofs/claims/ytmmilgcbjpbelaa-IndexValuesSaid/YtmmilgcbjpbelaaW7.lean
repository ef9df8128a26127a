/- Writes and slices of them: law11.To (34), law14.Back (14), SameWrite (35), SameWrites (13). -/
import Derived.Test.YtmmilgcbjpbelaaW6
namespace Go.Proofs.Ytmmilgcbjpbelaa
open Go.RowKit Go.Kt Go.Ix

theorem bel_set {x y : World} {p : Addr} {u : Value} (h : Below x.heap.size x y) (hg : x.heap.size ≤ p.block) : Below x.heap.size x (y.setCell p u) := h.setCell hg u
/-- a write: its labels, time, kind, number, text; sv: the slice that holds its labels -/
structure Wr where
  st : List Pr
  t : Int
  k : Int
  n : Int
  x : ByteArray
  sv : Value
/-- what a write says -/
def Wr.bare (m : Wr) : Wr := { m with sv := .nilIface }
def Wr.with (m : Wr) (v : Value) : Wr := { m with sv := v }
def wcells (m : Wr) : List Value := [m.sv, .int .i64 m.t, .int .i64 m.k, .int .i64 m.n, .string m.x]
def wagg (m : Wr) : Value := .agg #[m.sv, .int .i64 m.t, .int .i64 m.k, .int .i64 m.n, .string m.x]
def flatW : List Wr → List Value
  | [] => []
  | m :: t => m.sv :: .int .i64 m.t :: .int .i64 m.k :: .int .i64 m.n :: .string m.x :: flatW t
theorem flatW_len (T : List Wr) : (flatW T).length = T.length * 5 := by
  induction T with
  | nil => rfl
  | cons x t ih => simp only [flatW, List.length_cons, ih]; omega
theorem flatW_append (T S : List Wr) : flatW (T ++ S) = flatW T ++ flatW S := by
  induction T with
  | nil => rfl
  | cons x t ih => simp only [List.cons_append, flatW, ih]
theorem flatW_get (T : List Wr) : ∀ (i : Nat) (x : Wr), T[i]? = some x → (flatW T)[i * 5]? = some x.sv ∧ (flatW T)[i * 5 + 1]? = some (.int .i64 x.t) ∧ (flatW T)[i * 5 + 2]? = some (.int .i64 x.k) ∧ (flatW T)[i * 5 + 3]? = some (.int .i64 x.n) ∧ (flatW T)[i * 5 + 4]? = some (.string x.x) := by
  induction T with
  | nil => intro i x h; simp at h
  | cons y t ih =>
    intro i x h
    match i with
    | 0 => simp at h; subst h; exact ⟨rfl, rfl, rfl, rfl, rfl⟩
    | i + 1 =>
      simp only [List.getElem?_cons_succ] at h
      have := ih i x h
      rw [show (i + 1) * 5 = i * 5 + 1 + 1 + 1 + 1 + 1 by omega]
      exact this
theorem flatW_take (T : List Wr) (k : Nat) (x : Wr) (h : T[k]? = some x) : flatW (T.take (k + 1)) = flatW (T.take k) ++ wcells x := by
  obtain ⟨hk, rfl⟩ := List.getElem?_eq_some_iff.1 h
  rw [List.take_succ_eq_append_getElem hk, flatW_append]; rfl
theorem wcells_one (x : Wr) (h : x.sv.oneCell' = true) : ∀ u ∈ wcells x, u.oneCell' = true := by
  intro u hu
  simp only [wcells, List.mem_cons, List.not_mem_nil, or_false] at hu
  rcases hu with rfl | rfl | rfl | rfl | rfl
  · exact h
  all_goals rfl
theorem RdP.one {w : World} {v : Value} {l : List Pr} (h : RdP w v l) : v.oneCell' = true := by
  obtain ⟨a, cap, rfl, _⟩ := h.open; rfl

def RdW (w : World) (v : Value) (L : List Wr) : Prop := RdRow 5 w v L.length (flatW L) ∧ ∀ m ∈ L, RdP w m.sv m.st
theorem RdW.below {w w' : World} {v : Value} {L : List Wr} (h : RdW w v L) (hb : Below w.heap.size w w') : RdW w' v L := ⟨h.1.below hb, fun m hm => (h.2 m hm).below hb⟩
theorem RdW.open {w : World} {v : Value} {L : List Wr} (h : RdW w v L) : ∃ a cap, v = .slice a L.length cap ∧ L.length ≤ cap ∧ cap ≤ 9223372036854775807 ∧
    ∀ (i : Nat) (x : Wr), L[i]? = some x → ∃ b o, a = some ⟨b, o, none⟩ ∧ b < w.heap.size ∧ w.cell? ⟨b, o + i * 5, none⟩ = some x.sv ∧ w.cell? ⟨b, o + i * 5 + 1, none⟩ = some (.int .i64 x.t) ∧
      w.cell? ⟨b, o + i * 5 + 2, none⟩ = some (.int .i64 x.k) ∧ w.cell? ⟨b, o + i * 5 + 3, none⟩ = some (.int .i64 x.n) ∧ w.cell? ⟨b, o + i * 5 + 4, none⟩ = some (.string x.x) := by
  obtain ⟨⟨_, a, cap, rfl, h1, h2, _, h5⟩, _⟩ := h
  refine ⟨a, cap, rfl, h1, h2, fun i x hi => ?_⟩
  obtain ⟨c0, c1, c2, c3, c4⟩ := flatW_get L i x hi
  obtain ⟨b, o, rfl, hc⟩ := h5 _ _ c0
  have key : ∀ j u, (flatW L)[i * 5 + j]? = some u → w.cell? ⟨b, o + i * 5 + j, none⟩ = some u := by
    intro j u hj
    obtain ⟨b', o', e, hc'⟩ := h5 _ _ hj
    cases e
    rw [Nat.add_assoc]; exact hc'
  exact ⟨b, o, rfl, World.block_lt_of_cell? w _ hc, hc, key 1 _ c1, key 2 _ c2, key 3 _ c3, key 4 _ c4⟩

theorem ok30 : ElemOk Try.prog 30 84 (.agg #[.slice none 0 0, .int .i64 0, .int .i64 0, .int .i64 0, .string ⟨#[]⟩]) 5 64 := ⟨Try.underlying30, info_parts (by kernel_rfl), rfl, by decide⟩
theorem ok22 : ElemOk Try.prog 22 88 (.agg #[.slice none 0 0, .int .i64 0, .int .i64 0, .int .i64 0, .string ⟨#[]⟩]) 5 64 := ⟨Try.underlying22, info_parts (by kernel_rfl), rfl, by decide⟩

set_option maxHeartbeats 1000000 in
/-- law11.To -/
theorem wto_any (m : Wr) (w : World) (hv : RdP w m.sv m.st) (hlen : m.st.length ≤ 4398046511104) :
    Calls Try.prog 34 #[wagg m] w fun e w' => ∃ v', e = .returned (wagg (m.with v')) ∧ OwnP 75 w' v' m.st ∧ Below w.heap.size w w' := by
  obtain ⟨st, t, k, n, x, sv⟩ := m
  simp only at hv hlen
  obtain ⟨a, cap, rfl, _⟩ := hv.open
  have HV := Lib.hid hv
  clear hv
  unfold wagg Wr.with
  go_enter Try.func34, Try.ntmps34
  go_wp2_with fail
  have HX := Lib.hid ((Blk.new w #[.slice a st.length cap, .int .i64 t, .int .i64 k, .int .i64 n, .string x] 88).next (below_alloc _ (.cells #[.slice none 0 0, .int .i64 0, .int .i64 0, .int .i64 0, .string ⟨#[]⟩] 84)))
  have HR := Lib.hid (Blk.new (w.alloc (.cells #[.slice a st.length cap, .int .i64 t, .int .i64 k, .int .i64 n, .string x] 88)) #[.slice none 0 0, .int .i64 0, .int .i64 0, .int .i64 0, .string ⟨#[]⟩] 84)
  have Hb := Lib.hid (bel_alloc (o := .cells #[.slice none 0 0, .int .i64 0, .int .i64 0, .int .i64 0, .string ⟨#[]⟩] 84) (bel_alloc (o := .cells #[.slice a st.length cap, .int .i64 t, .int .i64 k, .int .i64 n, .string x] 88) (bel_refl w)))
  have Hs5 : Hid (((w.alloc (.cells #[.slice a st.length cap, .int .i64 t, .int .i64 k, .int .i64 n, .string x] 88)).alloc (.cells #[.slice none 0 0, .int .i64 0, .int .i64 0, .int .i64 0, .string ⟨#[]⟩] 84)).heap.size = w.heap.size + 2) := Lib.hid (by simp only [World.size_alloc])
  simp only [World.size_alloc] at HX HR
  generalize (w.alloc (.cells #[.slice a st.length cap, .int .i64 t, .int .i64 k, .int .i64 n, .string x] 88)).alloc (.cells #[.slice none 0 0, .int .i64 0, .int .i64 0, .int .i64 0, .string ⟨#[]⟩] 84) = w5 at HX HR Hb Hs5 ⊢
  have HK : Hid (∀ w', Below w5.heap.size w5 w' → w'.cell? ⟨w.heap.size, 0, none⟩ = some (.slice a st.length cap) ∧ w'.cell? ⟨w.heap.size, 1, none⟩ = some (.int .i64 t) ∧ w'.cell? ⟨w.heap.size, 2, none⟩ = some (.int .i64 k) ∧ w'.cell? ⟨w.heap.size, 3, none⟩ = some (.int .i64 n) ∧ w'.cell? ⟨w.heap.size, 4, none⟩ = some (.string x)) :=
    Lib.hid (fun w' h => ⟨(HX.out.next h).cell 0, (HX.out.next h).cell 1, (HX.out.next h).cell 2, (HX.out.next h).cell 3, (HX.out.next h).cell 4⟩)
  have HV5 := Lib.hid (HV.out.below Hb.out)
  have hx5 := bel_refl w5
  obtain ⟨k0, k1, k2, k3, k4⟩ := HK.out _ hx5
  go_region_held3 (fun w' => w'.cell? ⟨w.heap.size, 0, none⟩ = some (.slice a st.length cap) ∧ w'.cell? ⟨w.heap.size, 1, none⟩ = some (.int .i64 t) ∧ w'.cell? ⟨w.heap.size, 2, none⟩ = some (.int .i64 k) ∧ w'.cell? ⟨w.heap.size, 3, none⟩ = some (.int .i64 n) ∧ w'.cell? ⟨w.heap.size, 4, none⟩ = some (.string x))
    (first | (with_reducible exact ⟨k0, k1, k2, k3, k4⟩) | (with_reducible refine HK.out _ ?_; (repeat (first | assumption | apply bel_alloc | apply bel_drew)); done) | go_keep)
    (first
      | (go_simp; go_at_call 26; refine (to_any (.slice a st.length cap) st _ (HV5.out.below (by repeat (first | exact bel_refl _ | assumption | apply bel_alloc | apply bel_drew))) hlen).mono ?_; intro e w6 h6; obtain ⟨v6, rfl, hm6⟩ := h6; obtain ⟨a6, cap6, rfl, _⟩ := hm6.rd.open; have hx6 : Below w5.heap.size w5 w6 := bel_trans (by repeat (first | assumption | apply bel_alloc | apply bel_drew)) hm6.bel; have HM6 := Lib.hid hm6; obtain ⟨q0, q1, q2, q3, q4⟩ := HK.out _ hx6; have hr := HR.out.next hx6; have r0 : w6.cell? ⟨w.heap.size + 1, 0, none⟩ = some (.slice none 0 0) := hr.cell 0; have r1 : w6.cell? ⟨w.heap.size + 1, 1, none⟩ = some (.int .i64 0) := hr.cell 1; have r2 : w6.cell? ⟨w.heap.size + 1, 2, none⟩ = some (.int .i64 0) := hr.cell 2; have r3 : w6.cell? ⟨w.heap.size + 1, 3, none⟩ = some (.int .i64 0) := hr.cell 3; have r4 : w6.cell? ⟨w.heap.size + 1, 4, none⟩ = some (.string ⟨#[]⟩) := hr.cell 4; have f0 : w6.frozen? ⟨w.heap.size + 1, 0, none⟩ = false := hr.free 0; have f1 : w6.frozen? ⟨w.heap.size + 1, 1, none⟩ = false := hr.free 1; have f2 : w6.frozen? ⟨w.heap.size + 1, 2, none⟩ = false := hr.free 2; have f3 : w6.frozen? ⟨w.heap.size + 1, 3, none⟩ = false := hr.free 3; have f4 : w6.frozen? ⟨w.heap.size + 1, 4, none⟩ = false := hr.free 4; clear hm6 hr))
  go_wp2_with fail
  refine bodyPost_ret (v := .agg #[.slice a6 st.length cap6, .int .i64 t, .int .i64 k, .int .i64 n, .string x]) (by simp [results, Try.results34, go_sem, *]) rfl ⟨_, rfl, ?_, ?_⟩
  · have hne : ∀ c, (Value.slice a6 st.length cap6).ownBlock = some c → c ≠ w.heap.size + 1 := fun c hc e => by
      have := HM6.out.2.1 c hc
      have := Hs5.out
      simp only [World.size_drew] at *
      omega
    exact own_set (own_set (own_set (own_set (own_set HM6.out.1 hne _) hne _) hne _) hne _) hne _
  · have h6 := bel_trans Hb.out hx6
    exact bel_set (bel_set (bel_set (bel_set (bel_set h6 (Nat.le_succ _)) (Nat.le_succ _)) (Nat.le_succ _)) (Nat.le_succ _)) (Nat.le_succ _)

/-! ### rows of writes that a call makes, each with its own labels -/
theorem own_apart {w : World} {e1 e2 : TypeId} {s1 s2 n1 n2 : Nat} {v1 v2 : Value} {x1 x2 : List Value} (h1 : Own e1 s1 w v1 n1 x1) (h2 : Own e2 s2 w v2 n2 x2) (hne : e1 ≠ e2) :
    ∀ b, v1.ownBlock = some b → v2.ownBlock ≠ some b := by
  intro b hb hb2
  rcases h1.2 with ⟨rfl, _⟩ | ⟨g, cap, cur, rfl, _, hg, _⟩
  · cases hb
  · cases hb
    rcases h2.2 with ⟨rfl, _⟩ | ⟨g2, cap2, cur2, rfl, _, hg2, _⟩
    · cases hb2
    · cases hb2
      rw [hg] at hg2
      injection hg2 with hg2
      injection hg2 with _ h
      exact hne h
def MineW (e s : TypeId) (w0 w : World) (v : Value) (L : List Wr) : Prop := Mine e 5 w0 w v L.length (flatW L) ∧ ∀ m ∈ L, OwnP s w m.sv m.st
theorem MineW.below {e s : TypeId} {w0 w w' : World} {v : Value} {L : List Wr} (h : MineW e s w0 w v L) (hb : Below w.heap.size w w') : MineW e s w0 w' v L := ⟨h.1.below hb, fun m hm => (h.2 m hm).below hb⟩
theorem MineW.rd {e s : TypeId} {w0 w : World} {v : Value} {L : List Wr} (h : MineW e s w0 w v L) : RdW w v L := ⟨h.1.rd, fun m hm => (h.2 m hm).rd⟩
theorem mineW_nil (e s : TypeId) (w : World) : MineW e s w w (.slice none 0 0) [] := ⟨mine_nil e 5 w, fun m hm => by cases hm⟩
theorem mineW_snoc {e s : TypeId} {w0 w1 w w' : World} {v v' : Value} {L : List Wr} {m : Wr} (h : MineW e s w0 w1 v L) (hne : s ≠ e) (hb : Below w1.heap.size w1 w) (hs : OwnP s w m.sv m.st)
    (hm : Mine e 5 w0 w' v' (L.length + 1) (flatW L ++ wcells m)) (hg : w.grownBy w' v.ownBlock) : MineW e s w0 w' v' (L ++ [m]) := by
  have hk : ∀ q : Wr, OwnP s w q.sv q.st → OwnP s w' q.sv q.st := fun q hq => Own.grown hq hg fun b hb2 e2 => own_apart hq (h.below hb).1.1 hne b hb2 e2
  refine ⟨?_, fun q hq => ?_⟩
  · rw [flatW_append, List.length_append]; exact hm
  · rcases List.mem_append.1 hq with hq | hq
    · exact hk q ((h.2 q hq).below hb)
    · rw [List.mem_singleton.1 hq]; exact hk m hs

theorem bare_snoc {L L' : List Wr} {k : Nat} {m : Wr} (h : L'.map Wr.bare = (L.take k).map Wr.bare) (hm : L[k]? = some m) (u : Value) : (L' ++ [m.with u]).map Wr.bare = (L.take (k + 1)).map Wr.bare := by
  obtain ⟨hk, rfl⟩ := List.getElem?_eq_some_iff.1 hm
  rw [List.take_succ_eq_append_getElem hk, List.map_append, List.map_append, h]
  rfl

set_option maxHeartbeats 1000000 in
/-- law14.Back -/
theorem back_any (v : Value) (L : List Wr) (w : World) (hv : RdW w v L) (hlen : L.length ≤ 1048576) (hsets : ∀ m ∈ L, m.st.length ≤ 4398046511104) :
    Calls Try.prog 14 #[v] w fun e w' => ∃ v' L', e = .returned v' ∧ L'.map Wr.bare = L.map Wr.bare ∧ MineW 88 112 w w' v' L' := by
  obtain ⟨a, cap, rfl, hcap, hbig, hcell⟩ := hv.open
  have Hcell := Lib.hid hcell
  have HV := Lib.hid hv
  have HS := Lib.hid hsets
  clear hcell hv hsets
  go_enter Try.func14, Try.ntmps14
  go_wp2_with fail
  go_loopw [3, 5, 8] (fun v _ i wr => ∃ (k : Nat) (L' : List Wr), k ≤ L.length ∧ i = .int .i64 k ∧ Hid (L'.map Wr.bare = (L.take k).map Wr.bare) ∧ Hid (MineW 88 112 w wr v L')) (fun _ _ i _ => L.length - (intOf i).toNat)
  case atStart => exact ⟨0, [], by omega, rfl, Lib.hid rfl, Lib.hid (mineW_nil 88 112 w)⟩
  case round =>
    obtain ⟨k, L', hk, rfl, HE, HM⟩ := hrel
    by_cases hlt : k < L.length
    · obtain ⟨m, hm⟩ : ∃ x, L[k]? = some x := ⟨L[k], List.getElem?_eq_getElem hlt⟩
      obtain ⟨b, o, rfl, lb, c0, c1, c2, c3, c4⟩ := Hcell.out k m hm
      have HB := Lib.hid HM.out.1.2.2
      have d0 : wr.cell? ⟨b, o + k * 5, none⟩ = some m.sv := (HB.out.cell (p := ⟨b, o + k * 5, none⟩) lb).trans c0
      have d1 : wr.cell? ⟨b, o + k * 5 + 1, none⟩ = some (.int .i64 m.t) := (HB.out.cell (p := ⟨b, o + k * 5 + 1, none⟩) lb).trans c1
      have d2 : wr.cell? ⟨b, o + k * 5 + 2, none⟩ = some (.int .i64 m.k) := (HB.out.cell (p := ⟨b, o + k * 5 + 2, none⟩) lb).trans c2
      have d3 : wr.cell? ⟨b, o + k * 5 + 3, none⟩ = some (.int .i64 m.n) := (HB.out.cell (p := ⟨b, o + k * 5 + 3, none⟩) lb).trans c3
      have d4 : wr.cell? ⟨b, o + k * 5 + 4, none⟩ = some (.string m.x) := (HB.out.cell (p := ⟨b, o + k * 5 + 4, none⟩) lb).trans c4
      have HP := Lib.hid hm
      have HR := Lib.hid ((HV.out.2 m (List.mem_of_getElem? hm)).below HB.out)
      have hsl := HS.out m (List.mem_of_getElem? hm)
      obtain ⟨sa, scap, hsv, _⟩ := HR.out.open
      rw [hsv] at d0
      have HSV := Lib.hid hsv
      have hlk : L'.length = k := by
        have := congrArg List.length HE.out
        simp only [List.length_map, List.length_take] at this
        omega
      clear c0 c1 c2 c3 c4 hm lb hsv
      go_wp2_with fail
      have HX := Lib.hid (Blk.new wr #[.slice sa m.st.length scap, .int .i64 m.t, .int .i64 m.k, .int .i64 m.n, .string m.x] 84)
      have Hb5 := Lib.hid (below_alloc wr (.cells #[.slice sa m.st.length scap, .int .i64 m.t, .int .i64 m.k, .int .i64 m.n, .string m.x] 84))
      generalize wr.alloc (.cells #[.slice sa m.st.length scap, .int .i64 m.t, .int .i64 m.k, .int .i64 m.n, .string m.x] 84) = w5 at HX Hb5 ⊢
      have HM5 := Lib.hid (HM.out.below Hb5.out)
      have HR5 := Lib.hid (HR.out.below Hb5.out)
      have HK : Hid (∀ w', Below w5.heap.size w5 w' → w'.cell? ⟨wr.heap.size, 0, none⟩ = some (.slice sa m.st.length scap) ∧ w'.cell? ⟨wr.heap.size, 1, none⟩ = some (.int .i64 m.t) ∧ w'.cell? ⟨wr.heap.size, 2, none⟩ = some (.int .i64 m.k) ∧ w'.cell? ⟨wr.heap.size, 3, none⟩ = some (.int .i64 m.n) ∧ w'.cell? ⟨wr.heap.size, 4, none⟩ = some (.string m.x)) :=
        Lib.hid (fun w' h => ⟨(HX.out.next h).cell 0, (HX.out.next h).cell 1, (HX.out.next h).cell 2, (HX.out.next h).cell 3, (HX.out.next h).cell 4⟩)
      have hx5 := bel_refl w5
      have Hne : Hid (u3.ownBlock ≠ some wr.heap.size) := Lib.hid (fun e => by have := HM.out.1.1.lt _ e; omega)
      obtain ⟨k0, k1, k2, k3, k4⟩ := HK.out _ hx5
      go_region_held3 (fun w' => w'.cell? ⟨wr.heap.size, 0, none⟩ = some (.slice sa m.st.length scap) ∧ w'.cell? ⟨wr.heap.size, 1, none⟩ = some (.int .i64 m.t) ∧ w'.cell? ⟨wr.heap.size, 2, none⟩ = some (.int .i64 m.k) ∧ w'.cell? ⟨wr.heap.size, 3, none⟩ = some (.int .i64 m.n) ∧ w'.cell? ⟨wr.heap.size, 4, none⟩ = some (.string m.x))
        (first | (with_reducible exact ⟨k0, k1, k2, k3, k4⟩) | (with_reducible exact ⟨q0, q1, q2, q3, q4⟩) | (with_reducible refine HK.out _ ?_; (repeat (first | assumption | apply bel_alloc | apply bel_drew)); done) | go_keep)
        (first
          | (refine mine_step (by rfl) _ _ 22 (by rfl) ok22 (by rfl) (by rfl) HM5.out.1 (by repeat (first | assumption | apply bel_alloc | apply bel_drew)) (by exact rd_lit 5 #[_, _, _, _, _] 1 (by simp) one_le rfl) (by exact wcells_one (m.with (.slice a6 m.st.length cap6)) rfl) (by simp only [maxLen]; omega) (by omega) ?_; intro v7 w7 hm7 hg7; obtain ⟨q0, q1, q2, q3, q4⟩ := (show w7.cell? ⟨wr.heap.size, 0, none⟩ = some (.slice sa m.st.length scap) ∧ w7.cell? ⟨wr.heap.size, 1, none⟩ = some (.int .i64 m.t) ∧ w7.cell? ⟨wr.heap.size, 2, none⟩ = some (.int .i64 m.k) ∧ w7.cell? ⟨wr.heap.size, 3, none⟩ = some (.int .i64 m.n) ∧ w7.cell? ⟨wr.heap.size, 4, none⟩ = some (.string m.x) from by have h := (HX.out.next (w' := _) (by repeat (first | assumption | apply bel_alloc | apply bel_drew))).grown hg7 Hne.out; exact ⟨h.cell 0, h.cell 1, h.cell 2, h.cell 3, h.cell 4⟩); have HM7 : Hid (MineW 88 112 w w7 v7 (L' ++ [m.with (.slice a6 m.st.length cap6)])) := Lib.hid (mineW_snoc HM5.out (by decide) (by repeat (first | assumption | apply bel_alloc | apply bel_drew)) (by exact Own.below' HM6.out.1 (by repeat (first | exact bel_refl _ | apply bel_alloc | apply bel_drew))) hm7 hg7); clear hm7 hg7)
          | (go_simp; go_at_call 29; refine (from_any (.slice sa m.st.length scap) m.st _ (by rw [← HSV.out]; exact HR5.out.below (by repeat (first | exact bel_refl _ | assumption | apply bel_alloc | apply bel_drew))) hsl).mono ?_; intro e w6 h6; obtain ⟨v6, rfl, hm6⟩ := h6; obtain ⟨a6, cap6, rfl, _⟩ := hm6.rd.open; have hx6 : Below w5.heap.size w5 w6 := bel_trans (by repeat (first | assumption | apply bel_alloc | apply bel_drew)) hm6.bel; have HM6 := Lib.hid hm6; clear hm6))
      go_wp2_with fail
      go_roundw
      case rel => exact ⟨k + 1, L' ++ [m.with (.slice a6 m.st.length cap6)], by omega, by go_num, Lib.hid (bare_snoc HE.out HP.out _), HM7⟩
      case measure => simp [intOf]; omega
    · obtain rfl : k = L.length := by omega
      rw [List.take_length] at HE
      go_wp2_with fail
      go_ret
      exact ⟨_, L', rfl, HE.out, HM.out⟩
end Go.Proofs.Ytmmilgcbjpbelaa
