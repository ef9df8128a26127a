/- A command's writes: law01.To (33), law14.To (12); node.RightConfig (16). -/
import Derived.Test.YtmmilgcbjpbelaaW8
namespace Go.Proofs.Ytmmilgcbjpbelaa
open Go.RowKit Go.Kt Go.Ix

theorem config_yes (w : World) : Calls Try.prog 16 #[.agg #[.int .i64 1, .int .i64 1, .int .i64 0, .int .i64 1]] w fun e w' => e = .returned (.bool true) ∧ Below w.heap.size w w' := by
  go_enter Try.func16, Try.ntmps16
  go_wp2_with fail
  go_ret
  exact ⟨rfl, by repeat (first | exact bel_refl _ | apply bel_drewN | apply bel_alloc | apply bel_drew)⟩

theorem stampto_any (a b c : Int) (w : World) : Calls Try.prog 33 #[.agg #[.int .i64 a, .int .u32 b, .int .u32 c]] w fun e w' => e = .returned (.agg #[.int .i64 a, .int .u32 b, .int .u32 c]) ∧ Below w.heap.size w w' := by
  go_enter Try.func33, Try.ntmps33
  go_wp2_with fail
  refine bodyPost_ret (v := .agg #[.int .i64 a, .int .u32 b, .int .u32 c]) (by simp [results, Try.results33, go_sem, *]) rfl ⟨rfl, ?_⟩
  repeat (first | exact bel_refl _ | apply bel_drewN | apply bel_alloc | apply bel_drew)

theorem blk_same {w : World} {g : Nat} {cs : Array Value} {t : TypeId} (h : Blk w g cs t) (j : Nat) {u : Value} (hu : cs[j]? = some u) : Blk (w.setCell ⟨g, j, none⟩ u) g cs t := by
  have h1 := h.set j u
  have e : cs.setIfInBounds j u = cs := by
    obtain ⟨hj, rfl⟩ := Array.getElem?_eq_some_iff.1 hu
    refine Array.ext (by simp) (fun i h1 h2 => ?_)
    rw [Array.getElem_setIfInBounds (by simpa using h1)]
    split
    · rename_i e; subst e; rfl
    · rfl
  rw [e] at h1
  exact h1
def outc (v : Value) : Array Value := #[.int .i64 0, .int .u32 0, .int .i64 0, .int .u32 0, .int .u32 0, .bool false, .string ⟨#[]⟩, .int .i64 0, .int .i64 0, v]
theorem mineW_set {e s t : TypeId} {w0 w : World} {v : Value} {L : List Wr} {g : Nat} {cs : Array Value} (h : MineW e s w0 w v L) (hb : Blk w g cs t) (he : e ≠ t) (hs : s ≠ t) (hg : w0.heap.size ≤ g) (j : Nat) (u : Value) :
    MineW e s w0 (w.setCell ⟨g, j, none⟩ u) v L :=
  ⟨⟨own_set h.1.1 (fun b hb2 e2 => own_no_blk h.1.1 hb he (by rw [hb2, e2])) u, h.1.2.1, bel_set h.1.2.2 hg⟩, fun m hm => own_set (h.2 m hm) (fun b hb2 e2 => own_no_blk (h.2 m hm) hb hs (by rw [hb2, e2])) u⟩
/-- a command of writes alone -/
def cmdv (u : Value) : Value := .agg #[.int .i64 0, .int .u32 0, .int .i64 0, .int .u32 0, .int .u32 0, .bool false, .string ⟨#[]⟩, .int .i64 0, .int .i64 0, u]

set_option maxHeartbeats 1000000 in
theorem cmdto_any (v : Value) (L : List Wr) (w : World) (hv : RdW w v L) (hlen : L.length ≤ 1048576) (hsets : ∀ m ∈ L, m.st.length ≤ 4398046511104) :
    Calls Try.prog 12 #[cmdv v] w fun e w' => ∃ v' L', e = .returned (cmdv v') ∧ L'.map Wr.bare = L.map Wr.bare ∧ MineW 84 75 w w' v' L' := by
  obtain ⟨a, cap, rfl, hcap, hbig, hcell⟩ := hv.open
  have Hcell := Lib.hid hcell
  have HV := Lib.hid hv
  have HS := Lib.hid hsets
  clear hcell hv hsets
  unfold cmdv
  go_enter Try.func12, Try.ntmps12
  go_wp2_with fail
  have HX := Lib.hid ((Blk.new w #[.int .i64 0, .int .u32 0, .int .i64 0, .int .u32 0, .int .u32 0, .bool false, .string ⟨#[]⟩, .int .i64 0, .int .i64 0, .slice a L.length cap] 36).next (below_alloc _ (.cells #[.int .i64 0, .int .u32 0, .int .i64 0, .int .u32 0, .int .u32 0, .bool false, .string ⟨#[]⟩, .int .i64 0, .int .i64 0, .slice none 0 0] 32)))
  have HR := Lib.hid (Blk.new (w.alloc (.cells #[.int .i64 0, .int .u32 0, .int .i64 0, .int .u32 0, .int .u32 0, .bool false, .string ⟨#[]⟩, .int .i64 0, .int .i64 0, .slice a L.length cap] 36)) #[.int .i64 0, .int .u32 0, .int .i64 0, .int .u32 0, .int .u32 0, .bool false, .string ⟨#[]⟩, .int .i64 0, .int .i64 0, .slice none 0 0] 32)
  have Hb := Lib.hid (bel_alloc (o := .cells #[.int .i64 0, .int .u32 0, .int .i64 0, .int .u32 0, .int .u32 0, .bool false, .string ⟨#[]⟩, .int .i64 0, .int .i64 0, .slice none 0 0] 32) (bel_alloc (o := .cells #[.int .i64 0, .int .u32 0, .int .i64 0, .int .u32 0, .int .u32 0, .bool false, .string ⟨#[]⟩, .int .i64 0, .int .i64 0, .slice a L.length cap] 36) (bel_refl w)))
  have Hs5 : Hid (((w.alloc (.cells #[.int .i64 0, .int .u32 0, .int .i64 0, .int .u32 0, .int .u32 0, .bool false, .string ⟨#[]⟩, .int .i64 0, .int .i64 0, .slice a L.length cap] 36)).alloc (.cells #[.int .i64 0, .int .u32 0, .int .i64 0, .int .u32 0, .int .u32 0, .bool false, .string ⟨#[]⟩, .int .i64 0, .int .i64 0, .slice none 0 0] 32)).heap.size = w.heap.size + 2) := Lib.hid (by simp only [World.size_alloc])
  simp only [World.size_alloc] at HX HR
  generalize (w.alloc (.cells #[.int .i64 0, .int .u32 0, .int .i64 0, .int .u32 0, .int .u32 0, .bool false, .string ⟨#[]⟩, .int .i64 0, .int .i64 0, .slice a L.length cap] 36)).alloc (.cells #[.int .i64 0, .int .u32 0, .int .i64 0, .int .u32 0, .int .u32 0, .bool false, .string ⟨#[]⟩, .int .i64 0, .int .i64 0, .slice none 0 0] 32) = w5 at HX HR Hb Hs5 ⊢
  have HK : Hid (∀ w', Below w5.heap.size w5 w' → w'.cell? ⟨w.heap.size, 0, none⟩ = some (.int .i64 0) ∧ w'.cell? ⟨w.heap.size, 1, none⟩ = some (.int .u32 0) ∧ w'.cell? ⟨w.heap.size, 2, none⟩ = some (.int .i64 0) ∧ w'.cell? ⟨w.heap.size, 3, none⟩ = some (.int .u32 0) ∧ w'.cell? ⟨w.heap.size, 4, none⟩ = some (.int .u32 0) ∧ w'.cell? ⟨w.heap.size, 5, none⟩ = some (.bool false) ∧ w'.cell? ⟨w.heap.size, 6, none⟩ = some (.string ⟨#[]⟩) ∧ w'.cell? ⟨w.heap.size, 7, none⟩ = some (.int .i64 0) ∧ w'.cell? ⟨w.heap.size, 8, none⟩ = some (.int .i64 0)) :=
    Lib.hid (fun w' h => ⟨(HX.out.next h).cell 0, (HX.out.next h).cell 1, (HX.out.next h).cell 2, (HX.out.next h).cell 3, (HX.out.next h).cell 4, (HX.out.next h).cell 5, (HX.out.next h).cell 6, (HX.out.next h).cell 7, (HX.out.next h).cell 8⟩)
  have hx5 := bel_refl w5
  obtain ⟨k0, k1, k2, k3, k4, k5, k6, k7, k8⟩ := HK.out _ hx5
  go_cut [3] (fun pv wc => ∃ g, pv = .pointer (some ⟨g, 0, none⟩) ∧ Hid (Blk wc g #[.int .i64 0, .int .u32 0, .int .i64 0, .int .u32 0, .int .u32 0, .bool false, .string ⟨#[]⟩, .int .i64 0, .int .i64 0, .slice none 0 0] 32) ∧ Hid (w5.heap.size ≤ g) ∧ Hid (Below w5.heap.size w5 wc))
  case first =>
    rename_i J0 J1 hJ0 hJ1
    go_region_held3 (fun w' => w'.cell? ⟨w.heap.size, 0, none⟩ = some (.int .i64 0) ∧ w'.cell? ⟨w.heap.size, 1, none⟩ = some (.int .u32 0) ∧ w'.cell? ⟨w.heap.size, 2, none⟩ = some (.int .i64 0) ∧ w'.cell? ⟨w.heap.size, 3, none⟩ = some (.int .u32 0) ∧ w'.cell? ⟨w.heap.size, 4, none⟩ = some (.int .u32 0) ∧ w'.cell? ⟨w.heap.size, 5, none⟩ = some (.bool false) ∧ w'.cell? ⟨w.heap.size, 6, none⟩ = some (.string ⟨#[]⟩) ∧ w'.cell? ⟨w.heap.size, 7, none⟩ = some (.int .i64 0) ∧ w'.cell? ⟨w.heap.size, 8, none⟩ = some (.int .i64 0))
      (first | (with_reducible exact ⟨k0, k1, k2, k3, k4, k5, k6, k7, k8⟩) | (with_reducible refine HK.out _ ?_; (repeat (first | assumption | apply bel_alloc | apply bel_drew | refine bel_set ?_ (by first | exact Nat.le_refl _ | exact hx6.size))); done) | go_keep)
      (first
        | (go_simp; go_at_call 33; refine (stampto_any 0 0 0 _).mono ?_; rintro e w6 ⟨rfl, hb6⟩; have hx6 : Below w5.heap.size w5 w6 := bel_trans (by repeat (first | assumption | apply bel_alloc | apply bel_drew)) hb6; obtain ⟨q0, q1, q2, q3, q4, q5, q6, q7, q8⟩ := HK.out _ hx6; try (have h3 := Blk.next (g := w5.heap.size) (cs := #[.int .i64 0, .int .u32 0, .int .i64 0, .int .u32 0, .int .u32 0, .bool false, .string ⟨#[]⟩, .int .i64 0, .int .i64 0, .slice none 0 0]) (t := 32) (by exact Blk.new _ _ _) hb6; have m0 : w6.cell? ⟨w5.heap.size, 0, none⟩ = some (.int .i64 0) := h3.cell 0; have g0 : w6.frozen? ⟨w5.heap.size, 0, none⟩ = false := h3.free 0; have m1 : w6.cell? ⟨w5.heap.size, 1, none⟩ = some (.int .u32 0) := h3.cell 1; have g1 : w6.frozen? ⟨w5.heap.size, 1, none⟩ = false := h3.free 1; have m2 : w6.cell? ⟨w5.heap.size, 2, none⟩ = some (.int .i64 0) := h3.cell 2; have g2 : w6.frozen? ⟨w5.heap.size, 2, none⟩ = false := h3.free 2; have m3 : w6.cell? ⟨w5.heap.size, 3, none⟩ = some (.int .u32 0) := h3.cell 3; have g3 : w6.frozen? ⟨w5.heap.size, 3, none⟩ = false := h3.free 3; have m4 : w6.cell? ⟨w5.heap.size, 4, none⟩ = some (.int .u32 0) := h3.cell 4; have g4 : w6.frozen? ⟨w5.heap.size, 4, none⟩ = false := h3.free 4; have m5 : w6.cell? ⟨w5.heap.size, 5, none⟩ = some (.bool false) := h3.cell 5; have g5 : w6.frozen? ⟨w5.heap.size, 5, none⟩ = false := h3.free 5; have m6 : w6.cell? ⟨w5.heap.size, 6, none⟩ = some (.string ⟨#[]⟩) := h3.cell 6; have g6 : w6.frozen? ⟨w5.heap.size, 6, none⟩ = false := h3.free 6; have m7 : w6.cell? ⟨w5.heap.size, 7, none⟩ = some (.int .i64 0) := h3.cell 7; have g7 : w6.frozen? ⟨w5.heap.size, 7, none⟩ = false := h3.free 7; have m8 : w6.cell? ⟨w5.heap.size, 8, none⟩ = some (.int .i64 0) := h3.cell 8; have g8 : w6.frozen? ⟨w5.heap.size, 8, none⟩ = false := h3.free 8; have m9 : w6.cell? ⟨w5.heap.size, 9, none⟩ = some (.slice none 0 0) := h3.cell 9; have g9 : w6.frozen? ⟨w5.heap.size, 9, none⟩ = false := h3.free 9; have H3 := Lib.hid h3; clear h3); clear hb6))
    all_goals (refine hJ1 _ _ (Met.intro (hJ0 _ _ ?_)))
    all_goals (repeat apply Exists.intro)
    all_goals (refine ⟨⟨_, rfl, ?_, ?_, ?_⟩, rfl⟩)
    all_goals (with_reducible refine Lib.hid ?_)
    · with_reducible exact Blk.new _ _ 32
    · exact hx6.size
    · with_reducible exact bel_alloc hx6
    · exact blk_same (blk_same (blk_same (blk_same (blk_same (blk_same (blk_same (blk_same (blk_same (blk_same H3.out _ rfl) _ rfl) _ rfl) _ rfl) _ rfl) _ rfl) _ rfl) _ rfl) _ rfl) _ rfl
    · with_reducible exact Nat.le_refl _
    · repeat (first | (with_reducible exact hx6) | refine bel_set ?_ (Nat.le_refl _))
  case rest =>
    obtain ⟨g, rfl, HG, Hg, HB5⟩ := hcut
    have HBw := Lib.hid (bel_trans Hb.out HB5.out)
    have hg2 : w.heap.size + 2 ≤ g := by have := Hg.out; have := Hs5.out; omega
    have HX1 := Lib.hid (HX.out.next HB5.out)
    have HR1 := Lib.hid (HR.out.next HB5.out)
    have x9 : wc.cell? ⟨w.heap.size, 9, none⟩ = some (.slice a L.length cap) := HX1.out.cell 9
    clear hx5 k0 k1 k2 k3 k4 k5 k6 k7 k8 HK HX HR Hb Hs5 HB5 Hg
    obtain ⟨w1, rfl⟩ : ∃ x, x = wc := ⟨_, rfl⟩
    go_wp2_with fail
    go_loopw [5, 25] (fun _ i wr => ∃ (k : Nat) (L' : List Wr) (v : Value), k ≤ L.length ∧ i = .int .i64 k ∧ Hid (L'.map Wr.bare = (L.take k).map Wr.bare) ∧ Hid (MineW 84 75 w wr v L') ∧ Hid (Blk wr g (outc v) 32) ∧ Hid (Blk wr (w.heap.size + 1) (outc (.slice none 0 0)) 32)) (fun _ i _ => L.length - (intOf i).toNat)
    case atStart => exact ⟨0, [], .slice none 0 0, by omega, rfl, Lib.hid rfl, Lib.hid ⟨⟨own_nil _ _ _, (fun b hb => by cases hb), HBw.out⟩, fun m hm => by cases hm⟩, HG, HR1⟩
    case round =>
      clear x9 HX1 HR1 HG HBw
      obtain ⟨k, L', v, hk, rfl, HE, HM, HG, HR⟩ := hrel
      by_cases hlt : k < L.length
      · obtain ⟨m, hm⟩ : ∃ x, L[k]? = some x := ⟨L[k], List.getElem?_eq_getElem hlt⟩
        obtain ⟨b, o, rfl, lb, c0, c1, c2, c3, c4⟩ := Hcell.out k m hm
        have HB := Lib.hid HM.out.1.2.2
        have d0 : wr.cell? ⟨b, o + k * 5, none⟩ = some m.sv := (HB.out.cell (p := ⟨b, o + k * 5, none⟩) lb).trans c0
        have d1 : wr.cell? ⟨b, o + k * 5 + 1, none⟩ = some (.int .i64 m.t) := (HB.out.cell (p := ⟨b, o + k * 5 + 1, none⟩) lb).trans c1
        have d2 : wr.cell? ⟨b, o + k * 5 + 2, none⟩ = some (.int .i64 m.k) := (HB.out.cell (p := ⟨b, o + k * 5 + 2, none⟩) lb).trans c2
        have d3 : wr.cell? ⟨b, o + k * 5 + 3, none⟩ = some (.int .i64 m.n) := (HB.out.cell (p := ⟨b, o + k * 5 + 3, none⟩) lb).trans c3
        have d4 : wr.cell? ⟨b, o + k * 5 + 4, none⟩ = some (.string m.x) := (HB.out.cell (p := ⟨b, o + k * 5 + 4, none⟩) lb).trans c4
        have HP := Lib.hid hm
        have HV5 := Lib.hid ((HV.out.2 m (List.mem_of_getElem? hm)).below HB.out)
        have hsl := HS.out m (List.mem_of_getElem? hm)
        obtain ⟨sa, scap, hsv, _⟩ := HV5.out.open
        rw [hsv] at d0
        have HSV := Lib.hid hsv
        have Hlk : Hid (L'.length = k) := Lib.hid (by
          have := congrArg List.length HE.out
          simp only [List.length_map, List.length_take] at this
          omega)
        obtain ⟨va, vcap, rfl, _⟩ := HM.out.rd.open
        have HGne : Hid ((Value.slice va L'.length vcap).ownBlock ≠ some g) := Lib.hid (own_no_blk HM.out.1.1 HG.out (by decide))
        have HRne : Hid ((Value.slice va L'.length vcap).ownBlock ≠ some (w.heap.size + 1)) := Lib.hid (own_no_blk HM.out.1.1 HR.out (by decide))
        clear c0 c1 c2 c3 c4 hm lb hsv
        go_wp2_with fail
        have Hx := Lib.hid (Blk.new wr #[.slice sa m.st.length scap, .int .i64 m.t, .int .i64 m.k, .int .i64 m.n, .string m.x] 88)
        have Hb5 := Lib.hid (below_alloc wr (.cells #[.slice sa m.st.length scap, .int .i64 m.t, .int .i64 m.k, .int .i64 m.n, .string m.x] 88))
        generalize wr.alloc (.cells #[.slice sa m.st.length scap, .int .i64 m.t, .int .i64 m.k, .int .i64 m.n, .string m.x] 88) = w5 at Hx Hb5 ⊢
        have HM5 := Lib.hid (HM.out.below Hb5.out)
        have HG5 := Lib.hid (HG.out.next Hb5.out)
        have HR5 := Lib.hid (HR.out.next Hb5.out)
        have HV6 := Lib.hid (HV5.out.below Hb5.out)
        rw [HSV.out] at HV6
        have HV6c := HV6
        have hx5 := bel_refl w5
        have x0 : w5.cell? ⟨wr.heap.size, 0, none⟩ = some (.slice sa m.st.length scap) := Hx.out.cell 0
        have x1 : w5.cell? ⟨wr.heap.size, 1, none⟩ = some (.int .i64 m.t) := Hx.out.cell 1
        have x2 : w5.cell? ⟨wr.heap.size, 2, none⟩ = some (.int .i64 m.k) := Hx.out.cell 2
        have x3 : w5.cell? ⟨wr.heap.size, 3, none⟩ = some (.int .i64 m.n) := Hx.out.cell 3
        have x4 : w5.cell? ⟨wr.heap.size, 4, none⟩ = some (.string m.x) := Hx.out.cell 4
        have y5 : w5.cell? ⟨g, 9, none⟩ = some (.slice va L'.length vcap) := HG5.out.cell 9
        clear HM HG HR HV5 d0 d1 d2 d3 d4
        set_option maxRecDepth 8000 in
        go_region_law
          (first
            | (refine mine_step (by rfl) _ _ 30 (by rfl) ok30 (by rfl) (by rfl) HM5.out.1 (by repeat (first | assumption | exact bel_refl _ | apply bel_alloc | apply bel_drew)) (by exact rd_lit 5 #[_, _, _, _, _] 1 (by simp) one_le rfl) (by exact wcells_one (m.with (.slice a6 m.st.length cap6)) rfl) (by have := Hlk.out; simp only [maxLen]; omega) (by have := Hlk.out; omega) ?_; intro v7 w7 hm7 hg7; obtain ⟨_, a7, cap7, rfl, _⟩ := hm7.rd; have hG7 : Blk w7 g (outc (.slice va L'.length vcap)) 32 := (HG5.out.next (by repeat (first | assumption | exact bel_refl _ | apply bel_alloc | apply bel_drew))).grown hg7 HGne.out; have HG7 := Lib.hid hG7; have y7 : w7.cell? ⟨g, 9, none⟩ = some (.slice va L'.length vcap) := hG7.cell 9; have z7 : w7.frozen? ⟨g, 9, none⟩ = false := hG7.free 9; have HR7 := Lib.hid ((HR5.out.next (by repeat (first | assumption | exact bel_refl _ | apply bel_alloc | apply bel_drew))).grown hg7 HRne.out); have HM7 : Hid (MineW 84 75 w w7 (.slice a7 (L'.length + 1) cap7) (L' ++ [m.with (.slice a6 m.st.length cap6)])) := Lib.hid (mineW_snoc HM5.out (by decide) (by repeat (first | assumption | exact bel_refl _ | apply bel_alloc | apply bel_drew)) (Own.below' HM6.out (by repeat (first | assumption | exact bel_refl _ | apply bel_alloc | apply bel_drew))) hm7 hg7); clear hm7 hg7 hG7)
            | (go_simp; go_at_call 34; refine (wto_any ⟨m.st, m.t, m.k, m.n, m.x, .slice sa m.st.length scap⟩ _ (HV6c.out.below (by repeat (first | assumption | exact bel_refl _ | apply bel_alloc | apply bel_drew))) hsl).mono ?_; intro e w6 h6; obtain ⟨v6, rfl, hm6, hb6⟩ := h6; obtain ⟨a6, cap6, rfl, _⟩ := hm6.rd.open; unfold wagg Wr.with; have hx6 : Below w5.heap.size w5 w6 := bel_trans (by repeat (first | assumption | exact bel_refl _ | apply bel_alloc | apply bel_drew)) hb6; have y6 : w6.cell? ⟨g, 9, none⟩ = some (.slice va L'.length vcap) := (HG5.out.next hx6).cell 9; have y6a : ∀ ob : Obj, (w6.alloc ob).cell? ⟨g, 9, none⟩ = some (.slice va L'.length vcap) := fun ob => (HG5.out.next (bel_alloc hx6)).cell 9; have HM6 := Lib.hid hm6; clear hm6 hb6))
        all_goals (go_wp2_with fail)
        all_goals go_roundw
        all_goals first
          | (simp [intOf]; omega)
          | (exact ⟨k + 1, L' ++ [m.with (.slice a6 m.st.length cap6)], .slice a7 (L'.length + 1) cap7, by omega, by go_num, Lib.hid (bare_snoc HE.out HP.out _), Lib.hid (mineW_set HM7.out HG7.out (by decide) (by decide) (by omega) 9 _), Lib.hid (HG7.out.set 9 _), Lib.hid (HR7.out.other (p := ⟨g, 9, none⟩) (by show w.heap.size + 1 ≠ g; omega) _)⟩)
      · obtain rfl : k = L.length := by omega
        rw [List.take_length] at HE
        obtain ⟨va, vcap, rfl, _⟩ := HM.out.rd.open
        have y0 : wr.cell? ⟨g, 0, none⟩ = some (.int .i64 0) := HG.out.cell 0
        have y1 : wr.cell? ⟨g, 1, none⟩ = some (.int .u32 0) := HG.out.cell 1
        have y2 : wr.cell? ⟨g, 2, none⟩ = some (.int .i64 0) := HG.out.cell 2
        have y3 : wr.cell? ⟨g, 3, none⟩ = some (.int .u32 0) := HG.out.cell 3
        have y4 : wr.cell? ⟨g, 4, none⟩ = some (.int .u32 0) := HG.out.cell 4
        have y5 : wr.cell? ⟨g, 5, none⟩ = some (.bool false) := HG.out.cell 5
        have y6 : wr.cell? ⟨g, 6, none⟩ = some (.string ⟨#[]⟩) := HG.out.cell 6
        have y7 : wr.cell? ⟨g, 7, none⟩ = some (.int .i64 0) := HG.out.cell 7
        have y8 : wr.cell? ⟨g, 8, none⟩ = some (.int .i64 0) := HG.out.cell 8
        have y9 : wr.cell? ⟨g, 9, none⟩ = some (.slice va L'.length vcap) := HG.out.cell 9
        have r0 : wr.cell? ⟨w.heap.size + 1, 0, none⟩ = some (.int .i64 0) := HR.out.cell 0
        have f0 : wr.frozen? ⟨w.heap.size + 1, 0, none⟩ = false := HR.out.free 0
        have r1 : wr.cell? ⟨w.heap.size + 1, 1, none⟩ = some (.int .u32 0) := HR.out.cell 1
        have f1 : wr.frozen? ⟨w.heap.size + 1, 1, none⟩ = false := HR.out.free 1
        have r2 : wr.cell? ⟨w.heap.size + 1, 2, none⟩ = some (.int .i64 0) := HR.out.cell 2
        have f2 : wr.frozen? ⟨w.heap.size + 1, 2, none⟩ = false := HR.out.free 2
        have r3 : wr.cell? ⟨w.heap.size + 1, 3, none⟩ = some (.int .u32 0) := HR.out.cell 3
        have f3 : wr.frozen? ⟨w.heap.size + 1, 3, none⟩ = false := HR.out.free 3
        have r4 : wr.cell? ⟨w.heap.size + 1, 4, none⟩ = some (.int .u32 0) := HR.out.cell 4
        have f4 : wr.frozen? ⟨w.heap.size + 1, 4, none⟩ = false := HR.out.free 4
        have r5 : wr.cell? ⟨w.heap.size + 1, 5, none⟩ = some (.bool false) := HR.out.cell 5
        have f5 : wr.frozen? ⟨w.heap.size + 1, 5, none⟩ = false := HR.out.free 5
        have r6 : wr.cell? ⟨w.heap.size + 1, 6, none⟩ = some (.string ⟨#[]⟩) := HR.out.cell 6
        have f6 : wr.frozen? ⟨w.heap.size + 1, 6, none⟩ = false := HR.out.free 6
        have r7 : wr.cell? ⟨w.heap.size + 1, 7, none⟩ = some (.int .i64 0) := HR.out.cell 7
        have f7 : wr.frozen? ⟨w.heap.size + 1, 7, none⟩ = false := HR.out.free 7
        have r8 : wr.cell? ⟨w.heap.size + 1, 8, none⟩ = some (.int .i64 0) := HR.out.cell 8
        have f8 : wr.frozen? ⟨w.heap.size + 1, 8, none⟩ = false := HR.out.free 8
        have r9 : wr.cell? ⟨w.heap.size + 1, 9, none⟩ = some (.slice none 0 0) := HR.out.cell 9
        have f9 : wr.frozen? ⟨w.heap.size + 1, 9, none⟩ = false := HR.out.free 9
        go_wp2_with fail
        refine bodyPost_ret (v := cmdv (.slice va L'.length vcap)) (by simp [results, Try.results12, go_sem, cmdv, *]) rfl ⟨_, L', rfl, HE.out, ?_⟩
        have h0 := HM.out
        have b0 := HR.out
        have h1 := mineW_set h0 b0 (by decide) (by decide) (Nat.le_succ _) 0 (.int .i64 0)
        have b1 := b0.set 0 (.int .i64 0)
        have h2 := mineW_set h1 b1 (by decide) (by decide) (Nat.le_succ _) 1 (.int .u32 0)
        have b2 := b1.set 1 (.int .u32 0)
        have h3 := mineW_set h2 b2 (by decide) (by decide) (Nat.le_succ _) 2 (.int .i64 0)
        have b3 := b2.set 2 (.int .i64 0)
        have h4 := mineW_set h3 b3 (by decide) (by decide) (Nat.le_succ _) 3 (.int .u32 0)
        have b4 := b3.set 3 (.int .u32 0)
        have h5 := mineW_set h4 b4 (by decide) (by decide) (Nat.le_succ _) 4 (.int .u32 0)
        have b5 := b4.set 4 (.int .u32 0)
        have h6 := mineW_set h5 b5 (by decide) (by decide) (Nat.le_succ _) 5 (.bool false)
        have b6 := b5.set 5 (.bool false)
        have h7 := mineW_set h6 b6 (by decide) (by decide) (Nat.le_succ _) 6 (.string ⟨#[]⟩)
        have b7 := b6.set 6 (.string ⟨#[]⟩)
        have h8 := mineW_set h7 b7 (by decide) (by decide) (Nat.le_succ _) 7 (.int .i64 0)
        have b8 := b7.set 7 (.int .i64 0)
        have h9 := mineW_set h8 b8 (by decide) (by decide) (Nat.le_succ _) 8 (.int .i64 0)
        have b9 := b8.set 8 (.int .i64 0)
        have h10 := mineW_set h9 b9 (by decide) (by decide) (Nat.le_succ _) 9 (.slice va L'.length vcap)
        have b10 := b9.set 9 (.slice va L'.length vcap)
        exact h10
end Go.Proofs.Ytmmilgcbjpbelaa
