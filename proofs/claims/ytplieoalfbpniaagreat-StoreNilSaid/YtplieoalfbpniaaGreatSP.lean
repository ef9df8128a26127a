/- The steps of a script in memory; made (8). -/
import Derived.Test.YtplieoalfbpniaaGreatSO
namespace Go.Proofs.YtplieoalfbpniaaGreat
open Go.RowKit Go.Kt Go.Ix Go.Sx
set_option maxRecDepth 100000

/-- a step: its kind, write, stamp, rules, times; rv: the slice that holds the rules -/
structure Op where
  kind : Int
  m : Wr
  at_ : Tm
  rules : List Rl
  fr : Int
  ti : Int
  rv : Value
def ocells (o : Op) : List Value := [.int .i64 o.kind, o.m.sv, .int .i64 o.m.t, .int .i64 o.m.k, .int .i64 o.m.n, .string o.m.x, .int .i64 o.at_.wall, .int .u32 o.at_.tick, .int .u32 o.at_.mark, o.rv, .int .i64 o.fr, .int .i64 o.ti]
def flatO : List Op → List Value
  | [] => []
  | q :: t => ocells q ++ flatO t
theorem flatO_len (T : List Op) : (flatO T).length = T.length * 12 := by
  induction T with
  | nil => rfl
  | cons x t ih => simp only [flatO, ocells, List.length_append, List.length_cons, List.length_nil, ih]; omega
theorem flatO_append (T S : List Op) : flatO (T ++ S) = flatO T ++ flatO S := by
  induction T with
  | nil => rfl
  | cons x t ih => simp only [List.cons_append, flatO, ih, List.append_assoc]
theorem flatO_get (T : List Op) : ∀ (i : Nat) (x : Op), T[i]? = some x → ∀ j, j < 12 → (flatO T)[i * 12 + j]? = (ocells x)[j]? := by
  induction T with
  | nil => intro i x h; simp at h
  | cons y t ih =>
    intro i x h j hj
    have hl : (ocells y).length = 12 := rfl
    match i with
    | 0 =>
      simp at h; subst h
      rw [flatO, Nat.zero_mul, Nat.zero_add, List.getElem?_append_left (by omega)]
    | i + 1 =>
      simp only [List.getElem?_cons_succ] at h
      have := ih i x h j hj
      rw [flatO, List.getElem?_append_right (by omega), hl, show (i + 1) * 12 + j - 12 = i * 12 + j by omega]
      exact this
/-- what a step says is in memory, and no longer than memory is -/
structure OpR (w : World) (o : Op) : Prop where
  set : RdP w o.m.sv o.m.st
  rules : RdR w o.rv o.rules
  fit : Fit o.m.st
  len : o.m.st.length ≤ 4398046511104
  text : o.m.x.size ≤ maxLen
  rlen : o.rules.length ≤ 3518437208883
theorem OpR.below {w w' : World} {o : Op} (h : OpR w o) (hb : Below w.heap.size w w') : OpR w' o := ⟨h.set.below hb, h.rules.below hb, h.fit, h.len, h.text, h.rlen⟩
def RdO (w : World) (v : Value) (L : List Op) : Prop := RdRow 12 w v L.length (flatO L) ∧ ∀ o ∈ L, OpR w o
theorem RdO.below {w w' : World} {v : Value} {L : List Op} (h : RdO w v L) (hb : Below w.heap.size w w') : RdO w' v L := ⟨h.1.below hb, fun q hq => (h.2 q hq).below hb⟩
theorem RdO.open {w : World} {v : Value} {L : List Op} (h : RdO w v L) : ∃ a cap, v = .slice a L.length cap ∧ L.length ≤ cap ∧ cap ≤ 9223372036854775807 ∧
    ∀ (i : Nat) (x : Op), L[i]? = some x → OpR w x ∧ ∃ b o, a = some ⟨b, o, none⟩ ∧ b < w.heap.size ∧ w.cell? ⟨b, o + i * 12, none⟩ = some (.int .i64 x.kind) ∧ w.cell? ⟨b, o + i * 12 + 1, none⟩ = some x.m.sv ∧
      w.cell? ⟨b, o + i * 12 + 2, none⟩ = some (.int .i64 x.m.t) ∧ w.cell? ⟨b, o + i * 12 + 3, none⟩ = some (.int .i64 x.m.k) ∧ w.cell? ⟨b, o + i * 12 + 4, none⟩ = some (.int .i64 x.m.n) ∧ w.cell? ⟨b, o + i * 12 + 5, none⟩ = some (.string x.m.x) ∧
      w.cell? ⟨b, o + i * 12 + 6, none⟩ = some (.int .i64 x.at_.wall) ∧ w.cell? ⟨b, o + i * 12 + 7, none⟩ = some (.int .u32 x.at_.tick) ∧ w.cell? ⟨b, o + i * 12 + 8, none⟩ = some (.int .u32 x.at_.mark) ∧
      w.cell? ⟨b, o + i * 12 + 9, none⟩ = some x.rv ∧ w.cell? ⟨b, o + i * 12 + 10, none⟩ = some (.int .i64 x.fr) ∧ w.cell? ⟨b, o + i * 12 + 11, none⟩ = some (.int .i64 x.ti) := by
  obtain ⟨⟨_, a, cap, rfl, h1, h2, _, h5⟩, h6⟩ := h
  refine ⟨a, cap, rfl, h1, h2, fun i x hi => ⟨h6 x (List.mem_of_getElem? hi), ?_⟩⟩
  have hget := flatO_get L i x hi
  obtain ⟨b, o, rfl, hc⟩ := h5 _ _ (hget 0 (by omega))
  have key : ∀ j u, j < 12 → (ocells x)[j]? = some u → w.cell? ⟨b, o + i * 12 + j, none⟩ = some u := by
    intro j u hj hu
    obtain ⟨b', o', e, hc'⟩ := h5 _ _ ((hget j hj).trans hu)
    cases e
    rw [Nat.add_assoc]; exact hc'
  exact ⟨b, o, rfl, World.block_lt_of_cell? w _ hc, key 0 _ (by omega) rfl, key 1 _ (by omega) rfl, key 2 _ (by omega) rfl, key 3 _ (by omega) rfl, key 4 _ (by omega) rfl, key 5 _ (by omega) rfl, key 6 _ (by omega) rfl, key 7 _ (by omega) rfl, key 8 _ (by omega) rfl, key 9 _ (by omega) rfl, key 10 _ (by omega) rfl, key 11 _ (by omega) rfl⟩
/-- the store of a script's writes -/
noncomputable def madeS : List Op → List It → List It
  | [], L => L
  | o :: t, L => madeS t (if o.kind = 0 then (putS L o.m o.at_).2 else L)
theorem madeS_append (A B : List Op) : ∀ L, madeS (A ++ B) L = madeS B (madeS A L) := by
  induction A with
  | nil => intro L; rfl
  | cons o A ih => intro L; exact ih _
theorem madeS_take {L : List Op} {k : Nat} {o : Op} (h : L[k]? = some o) (I : List It) : madeS (L.take (k + 1)) I = if o.kind = 0 then (putS (madeS (L.take k) I) o.m o.at_).2 else madeS (L.take k) I := by
  obtain ⟨hk, rfl⟩ := List.getElem?_eq_some_iff.1 h
  rw [List.take_succ_eq_append_getElem hk, madeS_append]
  rfl
theorem St.more {F : Nat → Prop} {w : World} {s N M : Nat} {L : List It} (h : St F w s L N) (hm : N ≤ M) : St F w s L M := by
  obtain ⟨om, S, h⟩ := h
  exact ⟨om, S, h.more hm⟩
set_option maxHeartbeats 4000000 in
/-- made -/
theorem made_any (v : Value) (l : List Op) (w : World) (hv : RdO w v l) :
    Calls Tryz.prog 8 #[v] w fun e w' => ∃ s F, e = .returned (.pointer (some ⟨s, 0, none⟩)) ∧ St F w' s (madeS (l.take 80) []) 80 ∧ (∀ x, F x → w.heap.size ≤ x) ∧ Below w.heap.size w w' := by
  obtain ⟨a, cap, rfl, hcap, hbig, hcell⟩ := hv.open
  have Hcell := Lib.hid hcell
  clear hcell hv
  go_enter Tryz.func8, Tryz.ntmps8
  go_wp2_with (first
    | (go_at_call 14; refine (new_any w).mono ?_; rintro e w1 ⟨s, rfl, h1, hb1⟩; have H1 : Hid (St (fun x => w.heap.size ≤ x ∧ x < w1.heap.size) w1 s (madeS ((l.take 80).take 0) []) (min 0 80) ∧ (∀ x, w.heap.size ≤ x ∧ x < w1.heap.size → w.heap.size ≤ x) ∧ Below w.heap.size w w1) := Lib.hid ⟨h1, fun x hx => hx.1, hb1⟩; clear h1 hb1)
    | fail)
  go_loopw [9] (fun i wr => ∃ (k : Nat) (F : Nat → Prop), k ≤ l.length ∧ i = .int .i64 k ∧ Hid (St F wr s (madeS ((l.take 80).take k) []) (min k 80) ∧ (∀ x, F x → w.heap.size ≤ x) ∧ Below w.heap.size w wr)) (fun i _ => l.length - (intOf i).toNat)
  case atStart => exact ⟨0, _, by omega, rfl, H1⟩
  case round =>
    clear H1
    obtain ⟨k, F, hk, rfl, HI⟩ := hrel
    by_cases hlt : k < l.length
    · obtain ⟨o, ho⟩ : ∃ x, l[k]? = some x := ⟨l[k], List.getElem?_eq_getElem hlt⟩
      obtain ⟨hor, b, off, rfl, hbl, c0, c1, c2, c3, c4, c5, c6, c7, c8, c9, c10, c11⟩ := Hcell.out k o ho
      obtain ⟨kd, ⟨st, mt, mk, mn, mx, sv⟩, ⟨tw, tt, tm⟩, rl, fr, ti, rv⟩ := o
      simp only at c0 c1 c2 c3 c4 c5 c6 c7 c8 c9 c10 c11
      obtain ⟨sa, sc, hsv, -⟩ := hor.set.open
      obtain ⟨ra, rc, hrv, -⟩ := hor.rules.open
      simp only at hsv hrv
      subst hsv hrv
      have hB := HI.out.2.2
      have d0 : wr.cell? ⟨b, off + k * 12, none⟩ = some (.int .i64 kd) := (hB.cell (p := ⟨b, _, none⟩) hbl).trans c0
      have d1 : wr.cell? ⟨b, off + k * 12 + 1, none⟩ = some (.slice sa st.length sc) := (hB.cell (p := ⟨b, _, none⟩) hbl).trans c1
      have d2 : wr.cell? ⟨b, off + k * 12 + 2, none⟩ = some (.int .i64 mt) := (hB.cell (p := ⟨b, _, none⟩) hbl).trans c2
      have d3 : wr.cell? ⟨b, off + k * 12 + 3, none⟩ = some (.int .i64 mk) := (hB.cell (p := ⟨b, _, none⟩) hbl).trans c3
      have d4 : wr.cell? ⟨b, off + k * 12 + 4, none⟩ = some (.int .i64 mn) := (hB.cell (p := ⟨b, _, none⟩) hbl).trans c4
      have d5 : wr.cell? ⟨b, off + k * 12 + 5, none⟩ = some (.string mx) := (hB.cell (p := ⟨b, _, none⟩) hbl).trans c5
      have d6 : wr.cell? ⟨b, off + k * 12 + 6, none⟩ = some (.int .i64 tw) := (hB.cell (p := ⟨b, _, none⟩) hbl).trans c6
      have d7 : wr.cell? ⟨b, off + k * 12 + 7, none⟩ = some (.int .u32 tt) := (hB.cell (p := ⟨b, _, none⟩) hbl).trans c7
      have d8 : wr.cell? ⟨b, off + k * 12 + 8, none⟩ = some (.int .u32 tm) := (hB.cell (p := ⟨b, _, none⟩) hbl).trans c8
      have d9 : wr.cell? ⟨b, off + k * 12 + 9, none⟩ = some (.slice ra rl.length rc) := (hB.cell (p := ⟨b, _, none⟩) hbl).trans c9
      have d10 : wr.cell? ⟨b, off + k * 12 + 10, none⟩ = some (.int .i64 fr) := (hB.cell (p := ⟨b, _, none⟩) hbl).trans c10
      have d11 : wr.cell? ⟨b, off + k * 12 + 11, none⟩ = some (.int .i64 ti) := (hB.cell (p := ⟨b, _, none⟩) hbl).trans c11
      have hbb : b < wr.heap.size := Nat.lt_of_lt_of_le hbl hB.size
      have HO := Lib.hid (hor.below hB)
      have hk1 : (0 : Int) ≤ (k : Int) := by omega
      have hk2 : (k : Int) < (l.length : Int) := by omega
      clear c0 c1 c2 c3 c4 c5 c6 c7 c8 c9 c10 c11 hbl hB hor
      have HX := Lib.hid (Blk.new wr #[.int .i64 kd, (.slice sa st.length sc), .int .i64 mt, .int .i64 mk, .int .i64 mn, .string mx, .int .i64 tw, .int .u32 tt, .int .u32 tm, (.slice ra rl.length rc), .int .i64 fr, .int .i64 ti] 46)
      have HBa := Lib.hid (below_alloc wr (.cells #[.int .i64 kd, (.slice sa st.length sc), .int .i64 mt, .int .i64 mk, .int .i64 mn, .string mx, .int .i64 tw, .int .u32 tt, .int .u32 tm, (.slice ra rl.length rc), .int .i64 fr, .int .i64 ti] 46))
      have HT := Lib.hid (fun I => madeS_take (L := l) ho I)
      go_upto_region 5 with fail
      generalize wr.alloc (.cells #[.int .i64 kd, (.slice sa st.length sc), .int .i64 mt, .int .i64 mk, .int .i64 mn, .string mx, .int .i64 tw, .int .u32 tt, .int .u32 tm, (.slice ra rl.length rc), .int .i64 fr, .int .i64 ti] 46) = w5 at HX HBa ⊢
      have HI5 : Hid (St F w5 s (madeS ((l.take 80).take k) []) (min k 80) ∧ (∀ x, F x → w.heap.size ≤ x) ∧ Below w.heap.size w w5) := Lib.hid ⟨HI.out.1.next HBa.out, HI.out.2.1, bel_trans HI.out.2.2 HBa.out⟩
      have HO5 := Lib.hid (HO.out.below HBa.out)
      have x0 : w5.cell? ⟨wr.heap.size, 0, none⟩ = some (.int .i64 kd) := HX.out.cell 0
      have HLt : Hid (¬ F wr.heap.size) := Lib.hid (fun h => Nat.lt_irrefl _ (HI.out.1.lt _ h))
      clear d0 d1 d2 d3 d4 d5 d6 d7 d8 d9 d10 d11 hbb HI HO ho
      have Hk : Hid (k < l.length) := Lib.hid hlt
      by_cases h80 : k < 80
      · have hk3 : decide ((k : Int) < 80) = true := by simp; omega
        have hk4 : (k : Int) < 80 := by omega
        have HT2 : Hid (madeS ((l.take 80).take (k + 1)) [] = if kd = 0 then (putS (madeS ((l.take 80).take k) []) ⟨st, mt, mk, mn, mx, .slice sa st.length sc⟩ ⟨tw, tt, tm⟩).2 else madeS ((l.take 80).take k) []) := Lib.hid (by
          rw [List.take_take, List.take_take, Nat.min_eq_left (by omega), Nat.min_eq_left (by omega)]
          exact HT.out [])
        by_cases hkd : kd = 0
        · have hkb : (kd == 0) = true := by simp [hkd]
          have HT3 : Hid (madeS ((l.take 80).take (k + 1)) [] = (putS (madeS ((l.take 80).take k) []) ⟨st, mt, mk, mn, mx, .slice sa st.length sc⟩ ⟨tw, tt, tm⟩).2) := Lib.hid (by rw [HT2.out, if_pos hkd])
          have HKs : Hid (∀ W, Below w5.heap.size w5 W → W.cell? ⟨wr.heap.size, 1, none⟩ = some (.slice sa st.length sc) ∧ W.cell? ⟨wr.heap.size, 2, none⟩ = some (.int .i64 mt) ∧ W.cell? ⟨wr.heap.size, 3, none⟩ = some (.int .i64 mk) ∧ W.cell? ⟨wr.heap.size, 4, none⟩ = some (.int .i64 mn) ∧ W.cell? ⟨wr.heap.size, 5, none⟩ = some (.string mx) ∧ W.cell? ⟨wr.heap.size, 6, none⟩ = some (.int .i64 tw) ∧ W.cell? ⟨wr.heap.size, 7, none⟩ = some (.int .u32 tt) ∧ W.cell? ⟨wr.heap.size, 8, none⟩ = some (.int .u32 tm)) :=
            Lib.hid (fun W hW => ⟨(HX.out.next hW).cell 1, (HX.out.next hW).cell 2, (HX.out.next hW).cell 3, (HX.out.next hW).cell 4, (HX.out.next hW).cell 5, (HX.out.next hW).cell 6, (HX.out.next hW).cell 7, (HX.out.next hW).cell 8⟩)
          have hx5 := bel_refl w5
          have hN : min k 80 ≤ 1000000 := by omega
          clear hkd HT HT2
          go_upto_region 6 with fail
          obtain ⟨q1, q2, q3, q4, q5, q6, q7, q8⟩ := HKs.out _ hx5
          go_region_held3 (fun W => W.cell? ⟨wr.heap.size, 1, none⟩ = some (.slice sa st.length sc) ∧ W.cell? ⟨wr.heap.size, 2, none⟩ = some (.int .i64 mt) ∧ W.cell? ⟨wr.heap.size, 3, none⟩ = some (.int .i64 mk) ∧ W.cell? ⟨wr.heap.size, 4, none⟩ = some (.int .i64 mn) ∧ W.cell? ⟨wr.heap.size, 5, none⟩ = some (.string mx) ∧ W.cell? ⟨wr.heap.size, 6, none⟩ = some (.int .i64 tw) ∧ W.cell? ⟨wr.heap.size, 7, none⟩ = some (.int .u32 tt) ∧ W.cell? ⟨wr.heap.size, 8, none⟩ = some (.int .u32 tm))
            (first | (with_reducible exact ⟨q1, q2, q3, q4, q5, q6, q7, q8⟩) | (with_reducible exact ⟨y1, y2, y3, y4, y5, y6, y7, y8⟩) | (with_reducible refine HKs.out _ ?_; (repeat (first | assumption | apply bel_alloc | apply bel_drew)); done) | go_keep)
            (first
              | (go_simp; go_at_call 16; refine (wto_any ⟨st, mt, mk, mn, mx, .slice sa st.length sc⟩ _ (HO5.out.set.below (by repeat (first | exact bel_refl _ | assumption | apply bel_alloc | apply bel_drew))) HO5.out.len).mono ?_; rintro e w6 ⟨v6, rfl, hv6, hb6⟩; have hx6 : Below w5.heap.size w5 w6 := bel_trans (by repeat (first | exact bel_refl _ | assumption | apply bel_alloc | apply bel_drew)) hb6; have HV6 := Lib.hid hv6; clear hv6)
              | (go_simp; go_at_call 11; refine (to_any1 ⟨tw, tt, tm⟩ _).mono ?_; rintro e w7 ⟨rfl, hb7⟩; have hx7 : Below w5.heap.size w5 w7 := bel_trans (by repeat (first | exact bel_refl _ | assumption | apply bel_alloc | apply bel_drew)) hb7; (first | (have hb67 : Below w6.heap.size w6 w7 := bel_trans (by repeat (first | exact bel_refl _ | apply bel_alloc | apply bel_drew)) hb7) | skip))
              | (go_simp; go_at_call 15; refine (put_any (Wr.with ⟨st, mt, mk, mn, mx, .slice sa st.length sc⟩ v6) ⟨tw, tt, tm⟩ w7 (HI5.out.1.next hx7) hN (OwnP.rd (HV6.out.below hb67)) HO5.out.fit HO5.out.text).mono ?_; rintro e w8 ⟨rfl, F8, h8, hF8, ht8⟩; have hb8 := blk_keep ht8 (HX.out.next hx7) HLt.out; have y1 : w8.cell? ⟨wr.heap.size, 1, none⟩ = some (.slice sa st.length sc) := hb8.cell 1; have y2 : w8.cell? ⟨wr.heap.size, 2, none⟩ = some (.int .i64 mt) := hb8.cell 2; have y3 : w8.cell? ⟨wr.heap.size, 3, none⟩ = some (.int .i64 mk) := hb8.cell 3; have y4 : w8.cell? ⟨wr.heap.size, 4, none⟩ = some (.int .i64 mn) := hb8.cell 4; have y5 : w8.cell? ⟨wr.heap.size, 5, none⟩ = some (.string mx) := hb8.cell 5; have y6 : w8.cell? ⟨wr.heap.size, 6, none⟩ = some (.int .i64 tw) := hb8.cell 6; have y7 : w8.cell? ⟨wr.heap.size, 7, none⟩ = some (.int .u32 tt) := hb8.cell 7; have y8 : w8.cell? ⟨wr.heap.size, 8, none⟩ = some (.int .u32 tm) := hb8.cell 8; have H8 : Hid (St F8 w8 s (putS (madeS ((l.take 80).take k) []) ⟨st, mt, mk, mn, mx, .slice sa st.length sc⟩ ⟨tw, tt, tm⟩).2 (min k 80 + 1) ∧ (∀ x, F8 x → w.heap.size ≤ x) ∧ Below w.heap.size w w8) := Lib.hid ⟨h8, fun x hx => by (rcases hF8 x hx with h | h; exact HI5.out.2.1 x h; exact Nat.le_trans HI5.out.2.2.size (Nat.le_trans hx7.size h)), ((Turn.of (F := F) (bel_trans HI5.out.2.2 hx7)).trans ht8 (fun x hx => .inl hx)).bel (Nat.le_refl _) (fun x hx => HI5.out.2.1 x hx)⟩; clear h8 hF8 ht8 hb8))
          go_wp2_with fail
          go_roundw
          case rel => exact ⟨k + 1, F8, by have := Hk.out; omega, by go_num, Lib.hid ⟨by rw [HT3.out]; exact H8.out.1.more (by omega), H8.out.2⟩⟩
          case measure => have := Hk.out; simp [intOf]; omega
        · have hkb : (kd == 0) = false := bne_of hkd
          have HT3 : Hid (madeS ((l.take 80).take (k + 1)) [] = madeS ((l.take 80).take k) []) := Lib.hid (by rw [HT2.out, if_neg hkd])
          clear hkd HT2 HT
          go_wp2_with fail
          go_roundw
          case rel => exact ⟨k + 1, F, by have := Hk.out; omega, by go_num, Lib.hid ⟨by rw [HT3.out]; exact HI5.out.1.more (by omega), HI5.out.2⟩⟩
          case measure => have := Hk.out; simp [intOf]; omega
      · have hk3 : decide ((k : Int) < 80) = false := by simp; omega
        have hk4 : ¬ (k : Int) < 80 := by omega
        have HT3 : Hid (madeS ((l.take 80).take (k + 1)) [] = madeS ((l.take 80).take k) []) := Lib.hid (by rw [List.take_take, List.take_take, Nat.min_eq_right (by omega), Nat.min_eq_right (by omega)])
        go_wp2_with fail
        go_roundw
        case rel => exact ⟨k + 1, F, by have := Hk.out; omega, by go_num, Lib.hid ⟨by rw [HT3.out]; exact HI5.out.1.more (by omega), HI5.out.2⟩⟩
        case measure => have := Hk.out; simp [intOf]; omega
    · obtain rfl : k = l.length := by omega
      go_wp2_with fail
      go_ret
      refine ⟨s, F, rfl, ?_, HI.out.2.1, HI.out.2.2⟩
      have := HI.out.1
      rw [List.take_of_length_le (by rw [List.length_take]; omega)] at this
      exact this.more (by omega)
end Go.Proofs.YtplieoalfbpniaaGreat
