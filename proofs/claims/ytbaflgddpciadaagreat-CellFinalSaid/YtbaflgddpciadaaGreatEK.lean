/- Light (16), To (18). -/
import Derived.Test.YtbaflgddpciadaaGreatEH
import Derived.Test.YtbaflgddpciadaaGreatEJ
set_option linter.unusedVariables false
set_option linter.unusedSimpArgs false
namespace Go.Proofs.YtbaflgddpciadaaGreat
open Go.RowKit Go.Kt Go.Ix Go.Sx Go.Cx
set_option maxRecDepth 100000
/-- a command that is not too great -/
def LightW (tok : ByteArray) (T : List Wr) : Prop := T.length ≤ 70 ∧ tok.size ≤ 100 ∧ ∀ x ∈ T, x.st.length ≤ 20 ∧ x.x.size ≤ 300
set_option maxHeartbeats 4000000 in
theorem light_any (m : Cmd) (v : Value) (T : List Wr) (w : World) (hv : RdW w v T) : Calls Tryz.prog 16 #[cmdV m v] w fun e w' => Says (LightW m.token T) e ∧ Below w.heap.size w w' := by
  obtain ⟨kd, dd, ⟨aw, at1, am⟩, ys, tk, nn, id, ws⟩ := m
  obtain ⟨va, vc, rfl, hcap, hbig, hcell⟩ := hv.open
  have Hcell := Lib.hid hcell
  have HV := Lib.hid hv
  unfold cmdV
  simp only
  have HX := Lib.hid (Blk.new w #[.int .i64 kd, .int .u32 dd, .int .i64 aw, .int .u32 at1, .int .u32 am, .bool ys, .string tk, .int .i64 nn, .int .i64 id, .slice va T.length vc] 42)
  have HB1 := Lib.hid (below_alloc w (.cells #[.int .i64 kd, .int .u32 dd, .int .i64 aw, .int .u32 at1, .int .u32 am, .bool ys, .string tk, .int .i64 nn, .int .i64 id, .slice va T.length vc] 42))
  clear hcell hv
  go_enter Tryz.func16, Tryz.ntmps16
  go_upto_region 1 with fail
  generalize w.alloc (.cells #[.int .i64 kd, .int .u32 dd, .int .i64 aw, .int .u32 at1, .int .u32 am, .bool ys, .string tk, .int .i64 nn, .int .i64 id, .slice va T.length vc] 42) = w1 at HX HB1 ⊢
  generalize hg : w.heap.size = g at HX ⊢
  have x4 : w1.cell? ⟨g, 6, none⟩ = some (.string tk) := HX.out.cell 6
  have x9 : w1.cell? ⟨g, 9, none⟩ = some (.slice va T.length vc) := HX.out.cell 9
  by_cases h70 : 70 < T.length
  · have HN : Hid (¬ LightW tk T) := Lib.hid (fun h => by have := h.1; omega)
    have e1 : decide ((70 : Int) < (T.length : Int)) = true := by simp; omega
    clear h70
    go_wp2_with fail
    go_ret
    exact ⟨says_no HN.out, HB1.out⟩
  have e1 : decide ((70 : Int) < (T.length : Int)) = false := by simp; omega
  by_cases h100 : 100 < tk.size
  · have HN : Hid (¬ LightW tk T) := Lib.hid (fun h => by have := h.2.1; omega)
    have e2 : decide ((100 : Int) < (tk.size : Int)) = true := by simp; omega
    clear h70 h100
    go_wp2_with fail
    go_ret
    exact ⟨says_no HN.out, HB1.out⟩
  have e2 : decide ((100 : Int) < (tk.size : Int)) = false := by simp; omega
  have HOk : Hid (T.length ≤ 70 ∧ tk.size ≤ 100) := Lib.hid (by omega)
  clear h70 h100
  go_upto_region 4 with fail
  clear e1 e2 x4 x9
  have HB : Hid (Below w.heap.size w w1) := HB1
  have HA0 : Hid (∀ x ∈ T.take 0, x.st.length ≤ 20 ∧ x.x.size ≤ 300) := Lib.hid (fun x h => by simp at h)
  go_loopw [18] (fun i wr => ∃ k : Nat, k ≤ T.length ∧ i = .int .i64 k ∧ Hid (∀ x ∈ T.take k, x.st.length ≤ 20 ∧ x.x.size ≤ 300) ∧ Hid (Below w.heap.size w wr)) (fun i _ => T.length - (intOf i).toNat)
  case atStart => exact ⟨0, by omega, rfl, HA0, HB⟩
  case round =>
    clear HA0 HB
    obtain ⟨k, hk, rfl, HA, HB⟩ := hrel
    by_cases hlt : k < T.length
    · skip
      obtain ⟨x, hx⟩ : ∃ x, T[k]? = some x := ⟨T[k], List.getElem?_eq_getElem hlt⟩
      obtain ⟨b, o, rfl, hbl, c0, c1, c2, c3, c4⟩ := Hcell.out k x hx
      have hrd := HV.out.2 x (List.mem_of_getElem? hx)
      obtain ⟨sa, sc, hsv, -⟩ := hrd.open
      have Hx := Lib.hid hx
      have Hrd := Lib.hid hrd
      obtain ⟨st, xt, xk, xn, xx, sv⟩ := x
      simp only at c0 c1 c2 c3 c4 hsv hrd
      subst hsv
      have d0 : wr.cell? ⟨b, o + k * 5, none⟩ = some (.slice sa st.length sc) := (HB.out.cell (p := ⟨b, _, none⟩) hbl).trans c0
      have d1 : wr.cell? ⟨b, o + k * 5 + 1, none⟩ = some (.int .i64 xt) := (HB.out.cell (p := ⟨b, _, none⟩) hbl).trans c1
      have d2 : wr.cell? ⟨b, o + k * 5 + 2, none⟩ = some (.int .i64 xk) := (HB.out.cell (p := ⟨b, _, none⟩) hbl).trans c2
      have d3 : wr.cell? ⟨b, o + k * 5 + 3, none⟩ = some (.int .i64 xn) := (HB.out.cell (p := ⟨b, _, none⟩) hbl).trans c3
      have d4 : wr.cell? ⟨b, o + k * 5 + 4, none⟩ = some (.string xx) := (HB.out.cell (p := ⟨b, _, none⟩) hbl).trans c4
      have hk1 : (0 : Int) ≤ (k : Int) := by omega
      have hk2 : (k : Int) < (T.length : Int) := by omega
      have Hlt := Lib.hid hlt
      clear c0 c1 c2 c3 c4 hx hrd
      have HNx : Hid (∀ P : List Wr, P = T.take (k + 1) → ∀ y ∈ P, y = ⟨st, xt, xk, xn, xx, .slice sa st.length sc⟩ ∨ y ∈ T.take k) := Lib.hid (fun P hP y hy => by
        rw [hP, List.take_add_one, Hx.out] at hy
        rcases List.mem_append.1 hy with h | h
        · exact .inr h
        · exact .inl (by simpa using h))
      have HMx : Hid ((⟨st, xt, xk, xn, xx, .slice sa st.length sc⟩ : Wr) ∈ T) := Lib.hid (List.mem_of_getElem? Hx.out)
      by_cases h20 : 20 < st.length
      · have HN : Hid (¬ LightW tk T) := Lib.hid (fun h => by have := (h.2.2 _ HMx.out).1; simp only at this; omega)
        have e1 : decide ((20 : Int) < (st.length : Int)) = true := by simp; omega
        clear h20
        go_wp2_with fail
        go_ret
        exact ⟨says_no HN.out, by first | exact bel_alloc HB.out | (rw [← hg]; exact bel_alloc HB.out)⟩
      have e1 : decide ((20 : Int) < (st.length : Int)) = false := by simp; omega
      by_cases h300 : 300 < xx.size
      · have HN : Hid (¬ LightW tk T) := Lib.hid (fun h => by have := (h.2.2 _ HMx.out).2; simp only at this; omega)
        have e2 : decide ((300 : Int) < (xx.size : Int)) = true := by simp; omega
        clear h20 h300
        go_wp2_with fail
        go_ret
        exact ⟨says_no HN.out, by first | exact bel_alloc HB.out | (rw [← hg]; exact bel_alloc HB.out)⟩
      have e2 : decide ((300 : Int) < (xx.size : Int)) = false := by simp; omega
      have HAn : Hid (∀ x ∈ T.take (k + 1), x.st.length ≤ 20 ∧ x.x.size ≤ 300) := Lib.hid (fun y hy => by
        rcases HNx.out _ rfl y hy with rfl | h
        · exact (⟨by omega, by omega⟩ : st.length ≤ 20 ∧ xx.size ≤ 300)
        · exact HA.out y h)
      clear h20 h300
      go_wp2_with fail
      go_roundw
      case rel => exact ⟨k + 1, Hlt.out, by go_num, HAn, Lib.hid (bel_alloc HB.out)⟩
      case measure => have h1 := Hlt.out; simp [intOf]; omega
    · obtain rfl : k = T.length := by omega
      have HY : Hid (LightW tk T) := Lib.hid ⟨HOk.out.1, HOk.out.2, by have := HA.out; rwa [List.take_length] at this⟩
      go_wp2_with fail
      go_ret
      exact ⟨says_yes HY.out, by first | exact HB.out | (rw [← hg]; exact HB.out)⟩
theorem w5_one (st : Value) (a b c : Int) (x : ByteArray) (h : st.oneCell' = true) : ∀ u ∈ (#[st, .int .i64 a, .int .i64 b, .int .i64 c, .string x] : Array Value).toList, u.oneCell' = true := by
  intro u hu
  simp only [List.mem_cons, List.not_mem_nil, or_false] at hu
  rcases hu with rfl | rfl | rfl | rfl | rfl
  · exact h
  all_goals rfl
/-- writes that are being made -/
structure Mk (w wr : World) (b : Nat) (cs : Array Value) (v : Value) (Q T : List Wr) (k : Nat) : Prop where
  blk : Blk wr b cs 50
  own : Kt.Own 87 5 wr v Q.length (flatW Q)
  ge : ∀ x, v.ownBlock = some x → w.heap.size ≤ x
  sets : ∀ x ∈ Q, OwnP 104 wr x.sv x.st
  pl : Q.map Wr.pl = (T.take k).map Wr.pl
  len : Q.length = k
  bel : Below w.heap.size w wr
theorem Mk.next {w wr w' : World} {b : Nat} {cs : Array Value} {v : Value} {Q T : List Wr} {k : Nat} (h : Mk w wr b cs v Q T k) (hb : Below wr.heap.size wr w') : Mk w w' b cs v Q T k :=
  ⟨h.blk.next hb, h.own.below' hb, h.ge, fun x hx => (h.sets x hx).below hb, h.pl, h.len, bel_trans h.bel hb⟩
theorem Mk.push {w wr W w7 : World} {b : Nat} {c0 c1 c2 c3 c4 c5 c6 c7 c8 : Value} {v v7 : Value} {Q T : List Wr} {k : Nat} (h : Mk w wr b #[c0, c1, c2, c3, c4, c5, c6, c7, c8, v] v Q T k) {x : Wr} {sv : Value} (hx : T[k]? = some x) (hs : OwnP 104 W sv x.st) (hb : Below wr.heap.size wr W) (hwb : w.heap.size ≤ b)
    (ho7 : Kt.Own 87 5 w7 v7 (Q.length + 1) (flatW Q ++ [sv, .int .i64 x.t, .int .i64 x.k, .int .i64 x.n, .string x.x])) (hg7 : W.grownBy w7 v.ownBlock) (hn7 : ∀ c, v7.ownBlock = some c → v.ownBlock = some c ∨ W.heap.size ≤ c) :
    Mk w (w7.setCell ⟨b, 9, none⟩ v7) b #[c0, c1, c2, c3, c4, c5, c6, c7, c8, v7] v7 (Q ++ [x.with sv]) T (k + 1) := by
  have hW := h.next hb
  have hvb : v.ownBlock ≠ some b := own_no_blk hW.own hW.blk (by decide)
  have hB7 : Blk w7 b #[c0, c1, c2, c3, c4, c5, c6, c7, c8, v] 50 := hW.blk.grown hg7 hvb
  have hv7 : v7.ownBlock ≠ some b := own_no_blk ho7 hB7 (by decide)
  have hsz : w.heap.size ≤ W.heap.size := hW.bel.size
  refine ⟨by simpa using hB7.set 9 v7, ?_, fun y hy => ?_, fun y hy => ?_, ?_, by rw [List.length_append, h.len]; rfl, ?_⟩
  · have : flatW (Q ++ [x.with sv]) = flatW Q ++ [sv, .int .i64 x.t, .int .i64 x.k, .int .i64 x.n, .string x.x] := by rw [flatW_append]; rfl
    rw [this, List.length_append]
    exact own_set ho7 (p := ⟨b, 9, none⟩) (fun c hc e => hv7 (by rw [hc, e])) v7
  · rcases hn7 y hy with h1 | h1
    · exact h.ge y h1
    · omega
  · have key : ∀ {s : Value} {l : List Pr}, OwnP 104 W s l → OwnP 104 (w7.setCell ⟨b, 9, none⟩ v7) s l := fun hs => by
      have h1 := Own.grown hs hg7 (fun c hc e => own_apart hs hW.own (by decide) c hc e)
      exact own_set h1 (p := ⟨b, 9, none⟩) (fun c hc e => own_no_blk h1 hB7 (by decide) (by rw [hc, e])) v7
    rcases List.mem_append.1 hy with hy | hy
    · exact key (hW.sets y hy)
    · rw [List.mem_singleton.1 hy]
      exact key hs
  · rw [List.take_add_one, hx, List.map_append, List.map_append, h.pl]; rfl
  · exact (below_grown hg7 hsz h.ge |> fun q => (bel_set (p := ⟨b, 9, none⟩) (u := v7) (show Below w.heap.size w w7 from hW.bel.grown hg7 hsz h.ge) hwb))
theorem set10 {w : World} {g : Nat} {c0 c1 c2 c3 c4 c5 c6 c7 c8 c9 : Value} {t : TypeId} (h : Blk w g #[c0, c1, c2, c3, c4, c5, c6, c7, c8, c9] t) (d0 d1 d2 d3 d4 d5 d6 d7 d8 d9 : Value) :
    Blk ((((((((((w.setCell ⟨g, 0, none⟩ d0).setCell ⟨g, 1, none⟩ d1).setCell ⟨g, 2, none⟩ d2).setCell ⟨g, 3, none⟩ d3).setCell ⟨g, 4, none⟩ d4).setCell ⟨g, 5, none⟩ d5).setCell ⟨g, 6, none⟩ d6).setCell ⟨g, 7, none⟩ d7).setCell ⟨g, 8, none⟩ d8).setCell ⟨g, 9, none⟩ d9) g #[d0, d1, d2, d3, d4, d5, d6, d7, d8, d9] t := by
  have := (((((((((h.set 0 d0).set 1 d1).set 2 d2).set 3 d3).set 4 d4).set 5 d5).set 6 d6).set 7 d7).set 8 d8).set 9 d9
  simpa using this
theorem bel10 {x w : World} {g : Nat} (h : Below x.heap.size x w) (hg : x.heap.size ≤ g) {d0 d1 d2 d3 d4 d5 d6 d7 d8 d9 : Value} :
    Below x.heap.size x ((((((((((w.setCell ⟨g, 0, none⟩ d0).setCell ⟨g, 1, none⟩ d1).setCell ⟨g, 2, none⟩ d2).setCell ⟨g, 3, none⟩ d3).setCell ⟨g, 4, none⟩ d4).setCell ⟨g, 5, none⟩ d5).setCell ⟨g, 6, none⟩ d6).setCell ⟨g, 7, none⟩ d7).setCell ⟨g, 8, none⟩ d8).setCell ⟨g, 9, none⟩ d9) :=
  bel_set (bel_set (bel_set (bel_set (bel_set (bel_set (bel_set (bel_set (bel_set (bel_set h hg) hg) hg) hg) hg) hg) hg) hg) hg) hg
theorem own10 (W : World) (g : Nat) {d0 d1 d2 d3 d4 d5 d6 d7 d8 d9 : Value} : Turn (fun x => x = g) W ((((((((((W.setCell ⟨g, 0, none⟩ d0).setCell ⟨g, 1, none⟩ d1).setCell ⟨g, 2, none⟩ d2).setCell ⟨g, 3, none⟩ d3).setCell ⟨g, 4, none⟩ d4).setCell ⟨g, 5, none⟩ d5).setCell ⟨g, 6, none⟩ d6).setCell ⟨g, 7, none⟩ d7).setCell ⟨g, 8, none⟩ d8).setCell ⟨g, 9, none⟩ d9) :=
  ((((((((((Turn.refl (fun x => x = g) W).set (a := ⟨g, 0, none⟩) rfl _).set (a := ⟨g, 1, none⟩) rfl _).set (a := ⟨g, 2, none⟩) rfl _).set (a := ⟨g, 3, none⟩) rfl _).set (a := ⟨g, 4, none⟩) rfl _).set (a := ⟨g, 5, none⟩) rfl _).set (a := ⟨g, 6, none⟩) rfl _).set (a := ⟨g, 7, none⟩) rfl _).set (a := ⟨g, 8, none⟩) rfl _).set (a := ⟨g, 9, none⟩) rfl _
set_option maxHeartbeats 8000000 in
theorem tocmd_any (m : Cmd) (v : Value) (T : List Wr) (w : World) (hv : RdW w v T) (hlen : T.length ≤ 1048576) (hs : ∀ x ∈ T, x.st.length ≤ 4398046511104) :
    Calls Tryz.prog 18 #[cmdV m v] w fun e w' => ∃ v' Q, e = .returned (cmdV m v') ∧ RdW w' v' Q ∧ Q.map Wr.pl = T.map Wr.pl ∧ Below w.heap.size w w' := by
  obtain ⟨kd, dd, ⟨aw, at1, am⟩, ys, tk, nn, id, ws⟩ := m
  obtain ⟨va, vc, rfl, hcap, hbig, hcell⟩ := hv.open
  have Hcell := Lib.hid hcell
  have HV := Lib.hid hv
  have HLs := Lib.hid hs
  have HLn := Lib.hid hlen
  unfold cmdV
  simp only
  have HX := Lib.hid ((Blk.new w #[.int .i64 kd, .int .u32 dd, .int .i64 aw, .int .u32 at1, .int .u32 am, .bool ys, .string tk, .int .i64 nn, .int .i64 id, .slice va T.length vc] 42).next (below_alloc _ (.cells #[.int .i64 0, .int .u32 0, .int .i64 0, .int .u32 0, .int .u32 0, .bool false, .string ⟨#[]⟩, .int .i64 0, .int .i64 0, .slice none 0 0] 50)))
  have HY := Lib.hid (Blk.new (w.alloc (.cells #[.int .i64 kd, .int .u32 dd, .int .i64 aw, .int .u32 at1, .int .u32 am, .bool ys, .string tk, .int .i64 nn, .int .i64 id, .slice va T.length vc] 42)) #[.int .i64 0, .int .u32 0, .int .i64 0, .int .u32 0, .int .u32 0, .bool false, .string ⟨#[]⟩, .int .i64 0, .int .i64 0, .slice none 0 0] 50)
  have HB1 := Lib.hid (bel_alloc (o := .cells #[.int .i64 0, .int .u32 0, .int .i64 0, .int .u32 0, .int .u32 0, .bool false, .string ⟨#[]⟩, .int .i64 0, .int .i64 0, .slice none 0 0] 50) (below_alloc w (.cells #[.int .i64 kd, .int .u32 dd, .int .i64 aw, .int .u32 at1, .int .u32 am, .bool ys, .string tk, .int .i64 nn, .int .i64 id, .slice va T.length vc] 42)))
  rw [World.size_alloc] at HY
  clear hcell hv hs hlen
  go_enter Tryz.func18, Tryz.ntmps18
  go_upto_region 1 with fail
  generalize (w.alloc (.cells #[.int .i64 kd, .int .u32 dd, .int .i64 aw, .int .u32 at1, .int .u32 am, .bool ys, .string tk, .int .i64 nn, .int .i64 id, .slice va T.length vc] 42)).alloc (.cells #[.int .i64 0, .int .u32 0, .int .i64 0, .int .u32 0, .int .u32 0, .bool false, .string ⟨#[]⟩, .int .i64 0, .int .i64 0, .slice none 0 0] 50) = w1 at HX HY HB1 ⊢
  generalize hg : w.heap.size = g at HX HY ⊢
  have HT1 := Lib.hid (fun W => to_any1 ⟨aw, at1, am⟩ W)
  unfold Tm.val at HT1
  simp only at HT1
  have hgl : g < w1.heap.size := HX.out.lt
  have HKs : Hid (∀ W, Below w1.heap.size w1 W → W.cell? ⟨g, 0, none⟩ = some (.int .i64 kd) ∧ W.cell? ⟨g, 1, none⟩ = some (.int .u32 dd) ∧ W.cell? ⟨g, 2, none⟩ = some (.int .i64 aw) ∧ W.cell? ⟨g, 3, none⟩ = some (.int .u32 at1) ∧ W.cell? ⟨g, 4, none⟩ = some (.int .u32 am) ∧ W.cell? ⟨g, 5, none⟩ = some (.bool ys) ∧ W.cell? ⟨g, 6, none⟩ = some (.string tk) ∧ W.cell? ⟨g, 7, none⟩ = some (.int .i64 nn) ∧ W.cell? ⟨g, 8, none⟩ = some (.int .i64 id)) := Lib.hid (fun W hW => ⟨(HX.out.next hW).cell 0, (HX.out.next hW).cell 1, (HX.out.next hW).cell 2, (HX.out.next hW).cell 3, (HX.out.next hW).cell 4, (HX.out.next hW).cell 5, (HX.out.next hW).cell 6, (HX.out.next hW).cell 7, (HX.out.next hW).cell 8⟩)
  obtain ⟨q0, q1, q2, q3, q4, q5, q6, q7, q8⟩ := HKs.out w1 (bel_refl w1)
  go_cut [3] (fun pv wd => ∃ b, pv = .pointer (some ⟨b, 0, none⟩) ∧ Hid (Blk wd b #[.int .i64 kd, .int .u32 dd, .int .i64 aw, .int .u32 at1, .int .u32 am, .bool ys, .string tk, .int .i64 nn, .int .i64 id, .slice none 0 0] 50 ∧ w1.heap.size ≤ b ∧ Below w1.heap.size w1 wd))
  case first =>
    go_region_held3 (fun W => W.cell? ⟨g, 0, none⟩ = some (.int .i64 kd) ∧ W.cell? ⟨g, 1, none⟩ = some (.int .u32 dd) ∧ W.cell? ⟨g, 2, none⟩ = some (.int .i64 aw) ∧ W.cell? ⟨g, 3, none⟩ = some (.int .u32 at1) ∧ W.cell? ⟨g, 4, none⟩ = some (.int .u32 am) ∧ W.cell? ⟨g, 5, none⟩ = some (.bool ys) ∧ W.cell? ⟨g, 6, none⟩ = some (.string tk) ∧ W.cell? ⟨g, 7, none⟩ = some (.int .i64 nn) ∧ W.cell? ⟨g, 8, none⟩ = some (.int .i64 id))
      (first | (with_reducible exact ⟨q0, q1, q2, q3, q4, q5, q6, q7, q8⟩) | (with_reducible refine HKs.out _ ?_; (repeat (first | assumption | apply bel_alloc | apply bel_drew | refine bel_set ?_ (Nat.le_refl _))); done) | go_keep)
      (first
        | (go_simp; go_at_call 22; refine (HT1.out _).mono ?_; rintro e w5 ⟨rfl, hb5⟩; have hx5 : Below w1.heap.size w1 w5 := bel_trans (by repeat (first | exact bel_refl _ | assumption | apply bel_alloc | apply bel_drew)) hb5; have hgl5 : g < w5.heap.size := Nat.lt_of_lt_of_le hgl hx5.size; have hmf : Blk w5 w1.heap.size #[.int .i64 0, .int .u32 0, .int .i64 0, .int .u32 0, .int .u32 0, .bool false, .string ⟨#[]⟩, .int .i64 0, .int .i64 0, .slice none 0 0] 50 := Blk.next (by first | exact new_drew _ _ _ | exact drew_new _ _ _ | exact Blk.new _ _ _) hb5; have s0 : w5.cell? ⟨w1.heap.size, 0, none⟩ = some (.int .i64 0) := hmf.cell 0; have t0 : w5.frozen? ⟨w1.heap.size, 0, none⟩ = false := hmf.free 0; have s1 : w5.cell? ⟨w1.heap.size, 1, none⟩ = some (.int .u32 0) := hmf.cell 1; have t1 : w5.frozen? ⟨w1.heap.size, 1, none⟩ = false := hmf.free 1; have s2 : w5.cell? ⟨w1.heap.size, 2, none⟩ = some (.int .i64 0) := hmf.cell 2; have t2 : w5.frozen? ⟨w1.heap.size, 2, none⟩ = false := hmf.free 2; have s3 : w5.cell? ⟨w1.heap.size, 3, none⟩ = some (.int .u32 0) := hmf.cell 3; have t3 : w5.frozen? ⟨w1.heap.size, 3, none⟩ = false := hmf.free 3; have s4 : w5.cell? ⟨w1.heap.size, 4, none⟩ = some (.int .u32 0) := hmf.cell 4; have t4 : w5.frozen? ⟨w1.heap.size, 4, none⟩ = false := hmf.free 4; have s5 : w5.cell? ⟨w1.heap.size, 5, none⟩ = some (.bool false) := hmf.cell 5; have t5 : w5.frozen? ⟨w1.heap.size, 5, none⟩ = false := hmf.free 5; have s6 : w5.cell? ⟨w1.heap.size, 6, none⟩ = some (.string ⟨#[]⟩) := hmf.cell 6; have t6 : w5.frozen? ⟨w1.heap.size, 6, none⟩ = false := hmf.free 6; have s7 : w5.cell? ⟨w1.heap.size, 7, none⟩ = some (.int .i64 0) := hmf.cell 7; have t7 : w5.frozen? ⟨w1.heap.size, 7, none⟩ = false := hmf.free 7; have s8 : w5.cell? ⟨w1.heap.size, 8, none⟩ = some (.int .i64 0) := hmf.cell 8; have t8 : w5.frozen? ⟨w1.heap.size, 8, none⟩ = false := hmf.free 8; have s9 : w5.cell? ⟨w1.heap.size, 9, none⟩ = some (.slice none 0 0) := hmf.cell 9; have t9 : w5.frozen? ⟨w1.heap.size, 9, none⟩ = false := hmf.free 9; have HMf := Lib.hid hmf; clear hb5 hmf)
        | (go_simp; go_at_call 22; refine (HT1.out _).mono ?_; rintro e w5 ⟨rfl, hb5⟩; have hx5 : Below w1.heap.size w1 w5 := bel_trans (by repeat (first | exact bel_refl _ | assumption | apply bel_alloc | apply bel_drew)) hb5; have hgl5 : g < w5.heap.size := Nat.lt_of_lt_of_le hgl hx5.size; clear hb5))
    all_goals go_wp2_with fail
    all_goals go_meet
    · exact ⟨_, rfl, Lib.hid ⟨Blk.new _ _ _, hx5.size, bel_alloc hx5⟩⟩
    · exact ⟨_, rfl, Lib.hid ⟨set10 HMf.out _ _ _ _ _ _ _ _ _ _, Nat.le_refl _, bel10 hx5 (Nat.le_refl _)⟩⟩
  case rest =>
    obtain ⟨b9, rfl, HQ⟩ := hcut
    obtain ⟨wd, rfl⟩ : ∃ wd, wd = wc := ⟨_, rfl⟩
    have hwb : w.heap.size ≤ b9 := Nat.le_trans HB1.out.size HQ.out.2.1
    have hgb : g ≠ b9 := by have := HQ.out.2.1; omega
    have hgb1 : g + 1 ≠ b9 := by have := HQ.out.2.1; have := HY.out.lt; omega
    have HBd := Lib.hid HQ.out.2.2
    have HM0 : Hid (Mk w wd b9 #[.int .i64 kd, .int .u32 dd, .int .i64 aw, .int .u32 at1, .int .u32 am, .bool ys, .string tk, .int .i64 nn, .int .i64 id, .slice none 0 0] (.slice none 0 0) [] T 0) := Lib.hid ⟨HQ.out.1, own_nil _ _ _, (fun x h => by cases h), (fun x h => by cases h), rfl, rfl, bel_trans HB1.out HQ.out.2.2⟩
    have HY0 := Lib.hid (HY.out.next HBd.out)
    have x9 : wd.cell? ⟨g, 9, none⟩ = some (.slice va T.length vc) := (HX.out.next HBd.out).cell 9
    clear HQ q0 q1 q2 q3 q4 q5 q6 q7 q8 HKs hgl HT1
    go_upto_region 3 with fail
    clear x9
    go_loopw [25] (fun i wr => ∃ (k : Nat) (Q : List Wr) (v : Value), k ≤ T.length ∧ i = .int .i64 k ∧ Hid (Mk w wr b9 #[.int .i64 kd, .int .u32 dd, .int .i64 aw, .int .u32 at1, .int .u32 am, .bool ys, .string tk, .int .i64 nn, .int .i64 id, v] v Q T k) ∧ Hid (Blk wr (g + 1) #[.int .i64 0, .int .u32 0, .int .i64 0, .int .u32 0, .int .u32 0, .bool false, .string ⟨#[]⟩, .int .i64 0, .int .i64 0, .slice none 0 0] 50)) (fun i _ => T.length - (intOf i).toNat)
    case atStart => exact ⟨0, _, _, by omega, rfl, HM0, HY0⟩
    case round =>
      clear HM0 HY0
      obtain ⟨k, Q, v, hk, rfl, HM, HYr⟩ := hrel
      obtain ⟨-, qa, qc, rfl, -⟩ := HM.out.own.rd
      have HBw : Hid (Below w.heap.size w wr) := Lib.hid HM.out.bel
      by_cases hlt : k < T.length
      · skip
        obtain ⟨x, hx⟩ : ∃ x, T[k]? = some x := ⟨T[k], List.getElem?_eq_getElem hlt⟩
        obtain ⟨b, o, rfl, hbl, c0, c1, c2, c3, c4⟩ := Hcell.out k x hx
        have hrd := HV.out.2 x (List.mem_of_getElem? hx)
        obtain ⟨sa, sc, hsv, -⟩ := hrd.open
        have Hx := Lib.hid hx
        have Hrd := Lib.hid hrd
        obtain ⟨st, xt, xk, xn, xx, sv⟩ := x
        simp only at c0 c1 c2 c3 c4 hsv hrd
        subst hsv
        have d0 : wr.cell? ⟨b, o + k * 5, none⟩ = some (.slice sa st.length sc) := (HBw.out.cell (p := ⟨b, _, none⟩) hbl).trans c0
        have d1 : wr.cell? ⟨b, o + k * 5 + 1, none⟩ = some (.int .i64 xt) := (HBw.out.cell (p := ⟨b, _, none⟩) hbl).trans c1
        have d2 : wr.cell? ⟨b, o + k * 5 + 2, none⟩ = some (.int .i64 xk) := (HBw.out.cell (p := ⟨b, _, none⟩) hbl).trans c2
        have d3 : wr.cell? ⟨b, o + k * 5 + 3, none⟩ = some (.int .i64 xn) := (HBw.out.cell (p := ⟨b, _, none⟩) hbl).trans c3
        have d4 : wr.cell? ⟨b, o + k * 5 + 4, none⟩ = some (.string xx) := (HBw.out.cell (p := ⟨b, _, none⟩) hbl).trans c4
        have hk1 : (0 : Int) ≤ (k : Int) := by omega
        have hk2 : (k : Int) < (T.length : Int) := by omega
        have Hlt := Lib.hid hlt
        clear c0 c1 c2 c3 c4 hx hrd
        have HX5' := Lib.hid (Blk.new wr #[.slice sa st.length sc, .int .i64 xt, .int .i64 xk, .int .i64 xn, .string xx] 145)
        have HBx := Lib.hid (below_alloc wr (.cells #[.slice sa st.length sc, .int .i64 xt, .int .i64 xk, .int .i64 xn, .string xx] 145))
        have HLk : Hid (st.length ≤ 4398046511104) := Lib.hid (HLs.out _ (List.mem_of_getElem? Hx.out))
        go_upto_region 5 with fail
        clear d0 d1 d2 d3 d4
        generalize wr.alloc (.cells #[.slice sa st.length sc, .int .i64 xt, .int .i64 xk, .int .i64 xn, .string xx] 145) = w3 at HX5' HBx ⊢
        generalize wr.heap.size = g5 at HX5' ⊢
        have HX5 := HX5'
        have HMw := Lib.hid (HM.out.next HBx.out)
        have HYw := Lib.hid (HYr.out.next HBx.out)
        have HB3 := Lib.hid (bel_trans HBw.out HBx.out)
        have HTo : Hid (∀ W, Below w3.heap.size w3 W → Calls Tryz.prog 61 #[.agg #[.slice sa st.length sc, .int .i64 xt, .int .i64 xk, .int .i64 xn, .string xx]] W fun e w' => ∃ v3, e = .returned (.agg #[v3, .int .i64 xt, .int .i64 xk, .int .i64 xn, .string xx]) ∧ OwnP 104 w' v3 st ∧ Below W.heap.size W w') := Lib.hid (fun W hW => (wto_any ⟨st, xt, xk, xn, xx, .slice sa st.length sc⟩ W (Hrd.out.below (bel_trans HB3.out hW)) HLk.out).mono (fun e w' ⟨v3, h1, h2, h3⟩ => ⟨v3, h1, h2, h3⟩))
        have hbl9 : b9 < w3.heap.size := HMw.out.blk.lt
        have hgl5 : g5 < w3.heap.size := HX5.out.lt
        have HKs : Hid (∀ W, Below w3.heap.size w3 W → W.cell? ⟨b9, 9, none⟩ = some (.slice qa Q.length qc) ∧ W.cell? ⟨g5, 0, none⟩ = some (.slice sa st.length sc) ∧ W.cell? ⟨g5, 1, none⟩ = some (.int .i64 xt) ∧ W.cell? ⟨g5, 2, none⟩ = some (.int .i64 xk) ∧ W.cell? ⟨g5, 3, none⟩ = some (.int .i64 xn) ∧ W.cell? ⟨g5, 4, none⟩ = some (.string xx)) := Lib.hid (fun W hW => ⟨(HMw.out.blk.next hW).cell 9, (HX5.out.next hW).cell 0, (HX5.out.next hW).cell 1, (HX5.out.next hW).cell 2, (HX5.out.next hW).cell 3, (HX5.out.next hW).cell 4⟩)
        obtain ⟨p0, p1, p2, p3, p4, p5⟩ := HKs.out w3 (bel_refl w3)
        have hx0 := bel_refl w3
        have HQl : Hid (Q.length + 1 ≤ 1048576) := Lib.hid (by have := HM.out.len; have := Hlt.out; have := HLn.out; omega)
        have hb95 : b9 ≠ g5 := fun e => by have h1 := HMw.out.blk; have h2 := HX5.out; rw [e] at h1; unfold Blk at h1 h2; rw [h2] at h1; cases h1
        go_region_law
          (first
            | (refine step_app (by rfl) _ _ 48 (by rfl) ok48 (by rfl) (by rfl) (HMw.out.own.below' (by repeat (first | exact bel_refl _ | assumption | apply bel_alloc | apply bel_drew))) (own_lit_at (g := _) 87 5 #[.slice a3 st.length c3, .int .i64 xt, .int .i64 xk, .int .i64 xn, .string xx] 1 (by simp [maxLen]) rfl (by simp)).rd (w5_one _ _ _ _ _ rfl) (by have := HQl.out; simp only [maxLen]; omega) (by have := HQl.out; omega) ?_; intro v7 w7 ho7 hg7 hn7; obtain ⟨-, a7, c7, rfl, -⟩ := ho7.rd; have hm7 := HMw.out.push (sv := .slice a3 st.length c3) Hx.out (Own.below' HO3.out (by repeat (first | exact bel_refl _ | assumption | apply bel_alloc | apply bel_drew))) (by repeat (first | exact bel_refl _ | assumption | apply bel_alloc | apply bel_drew)) hwb ho7 hg7 hn7; have hB7 := ((HMw.out.next (by repeat (first | exact bel_refl _ | assumption | apply bel_alloc | apply bel_drew))).blk).grown hg7 (own_no_blk (HMw.out.next (by repeat (first | exact bel_refl _ | assumption | apply bel_alloc | apply bel_drew))).own (HMw.out.next (by repeat (first | exact bel_refl _ | assumption | apply bel_alloc | apply bel_drew))).blk (by decide)); have k9 : w7.cell? ⟨b9, 9, none⟩ = some (.slice qa Q.length qc) := hB7.cell 9; have f9 : w7.frozen? ⟨b9, 9, none⟩ = false := hB7.free 9; have HM7 := Lib.hid hm7; have HY7 := Lib.hid ((HYw.out.next (show Below w3.heap.size w3 _ from (by repeat (first | exact bel_refl _ | assumption | apply bel_alloc | apply bel_drew)))).grown hg7 (own_no_blk (HMw.out.next (by repeat (first | exact bel_refl _ | assumption | apply bel_alloc | apply bel_drew))).own (HYw.out.next (by repeat (first | exact bel_refl _ | assumption | apply bel_alloc | apply bel_drew))) (by decide))); clear ho7 hg7 hn7 hm7 hB7)
            | (go_simp; go_at_call 61; refine (HTo.out _ (by repeat (first | exact bel_refl _ | assumption | apply bel_alloc | apply bel_drew))).mono ?_; rintro e w4 ⟨v3, rfl, ho3, hb4⟩; obtain ⟨a3, c3, hv3, -⟩ := ho3.rd.open; subst hv3; have HO3 := Lib.hid ho3; have hx4 : Below w3.heap.size w3 w4 := bel_trans (by repeat (first | exact bel_refl _ | assumption | apply bel_alloc | apply bel_drew)) hb4; obtain ⟨r0, r1, r2, r3, r4, r5⟩ := HKs.out w4 hx4; have hbl94 : b9 < w4.heap.size := Nat.lt_of_lt_of_le hbl9 hx4.size; have hgl54 : g5 < w4.heap.size := Nat.lt_of_lt_of_le hgl5 hx4.size; clear ho3 hb4))
        all_goals go_wp2_with fail
        all_goals go_roundw
        all_goals first
          | exact ⟨k + 1, _, _, Hlt.out, by go_num, Lib.hid (HM7.out.next (by repeat (first | exact bel_refl _ | apply bel_drew))), Lib.hid ((HY7.out.other hgb1 _).next (by repeat (first | exact bel_refl _ | apply bel_drew)))⟩
          | (have h1 := Hlt.out; simp [intOf]; omega)
      · obtain rfl : k = T.length := by omega
        have HMe := HM
        have HYe := HYr
        have b0 : wr.cell? ⟨b9, 0, none⟩ = some (.int .i64 kd) := HMe.out.blk.cell 0
        have b1 : wr.cell? ⟨b9, 1, none⟩ = some (.int .u32 dd) := HMe.out.blk.cell 1
        have b2 : wr.cell? ⟨b9, 2, none⟩ = some (.int .i64 aw) := HMe.out.blk.cell 2
        have b3 : wr.cell? ⟨b9, 3, none⟩ = some (.int .u32 at1) := HMe.out.blk.cell 3
        have b4 : wr.cell? ⟨b9, 4, none⟩ = some (.int .u32 am) := HMe.out.blk.cell 4
        have b5 : wr.cell? ⟨b9, 5, none⟩ = some (.bool ys) := HMe.out.blk.cell 5
        have b6 : wr.cell? ⟨b9, 6, none⟩ = some (.string tk) := HMe.out.blk.cell 6
        have b7 : wr.cell? ⟨b9, 7, none⟩ = some (.int .i64 nn) := HMe.out.blk.cell 7
        have b8 : wr.cell? ⟨b9, 8, none⟩ = some (.int .i64 id) := HMe.out.blk.cell 8
        have b9 : wr.cell? ⟨b9, 9, none⟩ = some (.slice qa Q.length qc) := HMe.out.blk.cell 9
        have y0 : wr.cell? ⟨g + 1, 0, none⟩ = some (.int .i64 0) := HYe.out.cell 0
        have f0 : wr.frozen? ⟨g + 1, 0, none⟩ = false := HYe.out.free 0
        have y1 : wr.cell? ⟨g + 1, 1, none⟩ = some (.int .u32 0) := HYe.out.cell 1
        have f1 : wr.frozen? ⟨g + 1, 1, none⟩ = false := HYe.out.free 1
        have y2 : wr.cell? ⟨g + 1, 2, none⟩ = some (.int .i64 0) := HYe.out.cell 2
        have f2 : wr.frozen? ⟨g + 1, 2, none⟩ = false := HYe.out.free 2
        have y3 : wr.cell? ⟨g + 1, 3, none⟩ = some (.int .u32 0) := HYe.out.cell 3
        have f3 : wr.frozen? ⟨g + 1, 3, none⟩ = false := HYe.out.free 3
        have y4 : wr.cell? ⟨g + 1, 4, none⟩ = some (.int .u32 0) := HYe.out.cell 4
        have f4 : wr.frozen? ⟨g + 1, 4, none⟩ = false := HYe.out.free 4
        have y5 : wr.cell? ⟨g + 1, 5, none⟩ = some (.bool false) := HYe.out.cell 5
        have f5 : wr.frozen? ⟨g + 1, 5, none⟩ = false := HYe.out.free 5
        have y6 : wr.cell? ⟨g + 1, 6, none⟩ = some (.string ⟨#[]⟩) := HYe.out.cell 6
        have f6 : wr.frozen? ⟨g + 1, 6, none⟩ = false := HYe.out.free 6
        have y7 : wr.cell? ⟨g + 1, 7, none⟩ = some (.int .i64 0) := HYe.out.cell 7
        have f7 : wr.frozen? ⟨g + 1, 7, none⟩ = false := HYe.out.free 7
        have y8 : wr.cell? ⟨g + 1, 8, none⟩ = some (.int .i64 0) := HYe.out.cell 8
        have f8 : wr.frozen? ⟨g + 1, 8, none⟩ = false := HYe.out.free 8
        have y9 : wr.cell? ⟨g + 1, 9, none⟩ = some (.slice none 0 0) := HYe.out.cell 9
        have f9 : wr.frozen? ⟨g + 1, 9, none⟩ = false := HYe.out.free 9
        go_wp2_with fail
        have hY := set10 HYe.out (.int .i64 kd) (.int .u32 dd) (.int .i64 aw) (.int .u32 at1) (.int .u32 am) (.bool ys) (.string tk) (.int .i64 nn) (.int .i64 id) (.slice qa Q.length qc)
        have z0 : ((((((((((wr.setCell ⟨g + 1, 0, none⟩ (.int .i64 kd)).setCell ⟨g + 1, 1, none⟩ (.int .u32 dd)).setCell ⟨g + 1, 2, none⟩ (.int .i64 aw)).setCell ⟨g + 1, 3, none⟩ (.int .u32 at1)).setCell ⟨g + 1, 4, none⟩ (.int .u32 am)).setCell ⟨g + 1, 5, none⟩ (.bool ys)).setCell ⟨g + 1, 6, none⟩ (.string tk)).setCell ⟨g + 1, 7, none⟩ (.int .i64 nn)).setCell ⟨g + 1, 8, none⟩ (.int .i64 id)).setCell ⟨g + 1, 9, none⟩ (.slice qa Q.length qc)).cell? ⟨g + 1, 0, none⟩ = some (.int .i64 kd) := hY.cell 0
        have z1 : ((((((((((wr.setCell ⟨g + 1, 0, none⟩ (.int .i64 kd)).setCell ⟨g + 1, 1, none⟩ (.int .u32 dd)).setCell ⟨g + 1, 2, none⟩ (.int .i64 aw)).setCell ⟨g + 1, 3, none⟩ (.int .u32 at1)).setCell ⟨g + 1, 4, none⟩ (.int .u32 am)).setCell ⟨g + 1, 5, none⟩ (.bool ys)).setCell ⟨g + 1, 6, none⟩ (.string tk)).setCell ⟨g + 1, 7, none⟩ (.int .i64 nn)).setCell ⟨g + 1, 8, none⟩ (.int .i64 id)).setCell ⟨g + 1, 9, none⟩ (.slice qa Q.length qc)).cell? ⟨g + 1, 1, none⟩ = some (.int .u32 dd) := hY.cell 1
        have z2 : ((((((((((wr.setCell ⟨g + 1, 0, none⟩ (.int .i64 kd)).setCell ⟨g + 1, 1, none⟩ (.int .u32 dd)).setCell ⟨g + 1, 2, none⟩ (.int .i64 aw)).setCell ⟨g + 1, 3, none⟩ (.int .u32 at1)).setCell ⟨g + 1, 4, none⟩ (.int .u32 am)).setCell ⟨g + 1, 5, none⟩ (.bool ys)).setCell ⟨g + 1, 6, none⟩ (.string tk)).setCell ⟨g + 1, 7, none⟩ (.int .i64 nn)).setCell ⟨g + 1, 8, none⟩ (.int .i64 id)).setCell ⟨g + 1, 9, none⟩ (.slice qa Q.length qc)).cell? ⟨g + 1, 2, none⟩ = some (.int .i64 aw) := hY.cell 2
        have z3 : ((((((((((wr.setCell ⟨g + 1, 0, none⟩ (.int .i64 kd)).setCell ⟨g + 1, 1, none⟩ (.int .u32 dd)).setCell ⟨g + 1, 2, none⟩ (.int .i64 aw)).setCell ⟨g + 1, 3, none⟩ (.int .u32 at1)).setCell ⟨g + 1, 4, none⟩ (.int .u32 am)).setCell ⟨g + 1, 5, none⟩ (.bool ys)).setCell ⟨g + 1, 6, none⟩ (.string tk)).setCell ⟨g + 1, 7, none⟩ (.int .i64 nn)).setCell ⟨g + 1, 8, none⟩ (.int .i64 id)).setCell ⟨g + 1, 9, none⟩ (.slice qa Q.length qc)).cell? ⟨g + 1, 3, none⟩ = some (.int .u32 at1) := hY.cell 3
        have z4 : ((((((((((wr.setCell ⟨g + 1, 0, none⟩ (.int .i64 kd)).setCell ⟨g + 1, 1, none⟩ (.int .u32 dd)).setCell ⟨g + 1, 2, none⟩ (.int .i64 aw)).setCell ⟨g + 1, 3, none⟩ (.int .u32 at1)).setCell ⟨g + 1, 4, none⟩ (.int .u32 am)).setCell ⟨g + 1, 5, none⟩ (.bool ys)).setCell ⟨g + 1, 6, none⟩ (.string tk)).setCell ⟨g + 1, 7, none⟩ (.int .i64 nn)).setCell ⟨g + 1, 8, none⟩ (.int .i64 id)).setCell ⟨g + 1, 9, none⟩ (.slice qa Q.length qc)).cell? ⟨g + 1, 4, none⟩ = some (.int .u32 am) := hY.cell 4
        have z5 : ((((((((((wr.setCell ⟨g + 1, 0, none⟩ (.int .i64 kd)).setCell ⟨g + 1, 1, none⟩ (.int .u32 dd)).setCell ⟨g + 1, 2, none⟩ (.int .i64 aw)).setCell ⟨g + 1, 3, none⟩ (.int .u32 at1)).setCell ⟨g + 1, 4, none⟩ (.int .u32 am)).setCell ⟨g + 1, 5, none⟩ (.bool ys)).setCell ⟨g + 1, 6, none⟩ (.string tk)).setCell ⟨g + 1, 7, none⟩ (.int .i64 nn)).setCell ⟨g + 1, 8, none⟩ (.int .i64 id)).setCell ⟨g + 1, 9, none⟩ (.slice qa Q.length qc)).cell? ⟨g + 1, 5, none⟩ = some (.bool ys) := hY.cell 5
        have z6 : ((((((((((wr.setCell ⟨g + 1, 0, none⟩ (.int .i64 kd)).setCell ⟨g + 1, 1, none⟩ (.int .u32 dd)).setCell ⟨g + 1, 2, none⟩ (.int .i64 aw)).setCell ⟨g + 1, 3, none⟩ (.int .u32 at1)).setCell ⟨g + 1, 4, none⟩ (.int .u32 am)).setCell ⟨g + 1, 5, none⟩ (.bool ys)).setCell ⟨g + 1, 6, none⟩ (.string tk)).setCell ⟨g + 1, 7, none⟩ (.int .i64 nn)).setCell ⟨g + 1, 8, none⟩ (.int .i64 id)).setCell ⟨g + 1, 9, none⟩ (.slice qa Q.length qc)).cell? ⟨g + 1, 6, none⟩ = some (.string tk) := hY.cell 6
        have z7 : ((((((((((wr.setCell ⟨g + 1, 0, none⟩ (.int .i64 kd)).setCell ⟨g + 1, 1, none⟩ (.int .u32 dd)).setCell ⟨g + 1, 2, none⟩ (.int .i64 aw)).setCell ⟨g + 1, 3, none⟩ (.int .u32 at1)).setCell ⟨g + 1, 4, none⟩ (.int .u32 am)).setCell ⟨g + 1, 5, none⟩ (.bool ys)).setCell ⟨g + 1, 6, none⟩ (.string tk)).setCell ⟨g + 1, 7, none⟩ (.int .i64 nn)).setCell ⟨g + 1, 8, none⟩ (.int .i64 id)).setCell ⟨g + 1, 9, none⟩ (.slice qa Q.length qc)).cell? ⟨g + 1, 7, none⟩ = some (.int .i64 nn) := hY.cell 7
        have z8 : ((((((((((wr.setCell ⟨g + 1, 0, none⟩ (.int .i64 kd)).setCell ⟨g + 1, 1, none⟩ (.int .u32 dd)).setCell ⟨g + 1, 2, none⟩ (.int .i64 aw)).setCell ⟨g + 1, 3, none⟩ (.int .u32 at1)).setCell ⟨g + 1, 4, none⟩ (.int .u32 am)).setCell ⟨g + 1, 5, none⟩ (.bool ys)).setCell ⟨g + 1, 6, none⟩ (.string tk)).setCell ⟨g + 1, 7, none⟩ (.int .i64 nn)).setCell ⟨g + 1, 8, none⟩ (.int .i64 id)).setCell ⟨g + 1, 9, none⟩ (.slice qa Q.length qc)).cell? ⟨g + 1, 8, none⟩ = some (.int .i64 id) := hY.cell 8
        have z9 : ((((((((((wr.setCell ⟨g + 1, 0, none⟩ (.int .i64 kd)).setCell ⟨g + 1, 1, none⟩ (.int .u32 dd)).setCell ⟨g + 1, 2, none⟩ (.int .i64 aw)).setCell ⟨g + 1, 3, none⟩ (.int .u32 at1)).setCell ⟨g + 1, 4, none⟩ (.int .u32 am)).setCell ⟨g + 1, 5, none⟩ (.bool ys)).setCell ⟨g + 1, 6, none⟩ (.string tk)).setCell ⟨g + 1, 7, none⟩ (.int .i64 nn)).setCell ⟨g + 1, 8, none⟩ (.int .i64 id)).setCell ⟨g + 1, 9, none⟩ (.slice qa Q.length qc)).cell? ⟨g + 1, 9, none⟩ = some (.slice qa Q.length qc) := hY.cell 9
        refine bodyPost_ret (v := .agg #[.int .i64 kd, .int .u32 dd, .int .i64 aw, .int .u32 at1, .int .u32 am, .bool ys, .string tk, .int .i64 nn, .int .i64 id, .slice qa Q.length qc]) (by simp [results, Tryz.results18, go_sem, z0, z1, z2, z3, z4, z5, z6, z7, z8, z9]) rfl ?_
        refine ⟨_, Q, rfl, ⟨?_, fun x hx => ?_⟩, by rw [HMe.out.pl, List.take_length], bel10 HMe.out.bel (by omega)⟩
        · exact (own_keep (own10 wr (g + 1)) HMe.out.own (fun b hb e => own_no_blk HMe.out.own HYe.out (by decide) (by rw [hb, e]))).rd
        · exact (own_keep (own10 wr (g + 1)) (HMe.out.sets x hx) (fun b hb e => own_no_blk (HMe.out.sets x hx) HYe.out (by decide) (by rw [hb, e]))).rd
end Go.Proofs.YtbaflgddpciadaaGreat
