/- The contract of KeepSpares (4). -/
import Derived.Test.YtabpcbjjchhbeaaW8
namespace Go.Proofs.Ytabpcbjjchhbeaa
open Go.RowKit Go.Kt

theorem OwnSt.next {w0 w w' : World} {v : Value} {l : List St} (h : OwnSt w0 w v l) (hb : Below w.heap.size w w') : OwnSt w0 w' v l := h.below hb
theorem OwnSt.open {w0 w : World} {v : Value} {l : List St} (h : OwnSt w0 w v l) : ∃ a cap, v = .slice a l.length cap ∧ l.length ≤ cap ∧ cap ≤ 9223372036854775807 := by
  obtain ⟨a, cap, e, h1, h2, _⟩ := h.rd.open
  exact ⟨a, cap, e, h1, h2⟩

theorem flat_set (T : List St) : ∀ (k : Nat) (y : St), k < T.length → flat (T.set k y) = (((flat T).set (k * 3) (.int .i64 y.wall)).set (k * 3 + 1) (.int .u32 y.tick)).set (k * 3 + 2) (.int .u32 y.mark) := by
  induction T with
  | nil => intro k y h; simp at h
  | cons x t ih =>
    intro k y h
    match k with
    | 0 => rfl
    | k + 1 =>
      have := ih k y (by simpa using h)
      rw [show (k + 1) * 3 = k * 3 + 1 + 1 + 1 by omega]
      simp only [List.set_cons_succ, flat, this]
theorem OwnSt.place {w0 w : World} {a : Option Addr} {n cap : Nat} {l : List St} (h : OwnSt w0 w (.slice a n cap) l) (k : Nat) (x : St) (hk : l[k]? = some x) :
    ∃ g, a = some ⟨g, 0, none⟩ ∧ w0.heap.size ≤ g ∧ g < w.heap.size ∧
      (w.cell? ⟨g, k * 3, none⟩ = some (.int .i64 x.wall) ∧ w.cell? ⟨g, k * 3 + 1, none⟩ = some (.int .u32 x.tick) ∧ w.cell? ⟨g, k * 3 + 2, none⟩ = some (.int .u32 x.mark)) ∧
      (∀ j, w.frozen? ⟨g, j, none⟩ = false) ∧
      ∀ y : St, OwnSt w0 (((w.setCell ⟨g, k * 3, none⟩ (.int .i64 y.wall)).setCell ⟨g, k * 3 + 1, none⟩ (.int .u32 y.tick)).setCell ⟨g, k * 3 + 2, none⟩ (.int .u32 y.mark)) (.slice a n cap) (l.set k y) := by
  obtain ⟨ho, hz⟩ := h
  have ho' := ho
  have hkl := (List.getElem?_eq_some_iff.1 hk).1
  obtain ⟨f1, f2, f3⟩ := flat_get l k x hk
  rcases ho with ⟨hl, ⟨h1, h0⟩ | ⟨g, cap', cur, h1, hb, hg, hn, hm, hcs, ht⟩⟩
  · have h2 : flat l = [] := List.eq_nil_of_length_eq_zero (by rw [flat_len]; have : l.length = 0 := h0; omega)
    rw [h2] at f1; simp at f1
  · injection h1 with e1 e2 e3
    subst e1; subst e2; subst e3
    have hown : w.ownsRow 0 28 3 (.slice (some ⟨g, 0, none⟩) l.length cap) l.length (flat l) := ho'
    refine ⟨g, rfl, hz g rfl, (hown.lt g rfl).2, ⟨?_, ?_, ?_⟩, fun j => hown.frozenAt j, fun y => ⟨?_, fun b hb => hz b hb⟩⟩
    · rw [hown.cellAt (k * 3) (by omega), f1]
    · rw [hown.cellAt (k * 3 + 1) (by omega), f2]
    · rw [hown.cellAt (k * 3 + 2) (by omega), f3]
    · have s1 := (hown.stored (k * 3) (.int .i64 y.wall)).1
      have s2 := (s1.stored (k * 3 + 1) (.int .u32 y.tick)).1
      have s3 := (s2.stored (k * 3 + 2) (.int .u32 y.mark)).1
      unfold Own
      rw [List.length_set, flat_set l k y hkl]
      exact s3

set_option maxRecDepth 100000 in
set_option maxHeartbeats 4000000 in
theorem spares_any (a s : Int) (vc vp : Value) (closed pins : List St) (newest : Int) (more : St) (which : Int) (w : World) (hc : RdSt w vc closed) (hp : RdSt w vp pins) (hcl : closed.length < 100000000) (hpl : pins.length < 100000000)
    (hnat : ∀ x ∈ closed, x.nat) (hmn : more.nat) :
    Calls Try.prog 4 #[.agg #[.int .i64 a, .int .i64 s], vc, vp, .int .i64 newest, .agg #[.int .i64 more.wall, .int .u32 more.tick, .int .u32 more.mark], .int .i64 which] w fun e w' => e = .returned (.bool true) ∧ Below w.heap.size w w' := by
  have Hc := Lib.hid hc
  have Hp := Lib.hid hp
  have Hnat := Lib.hid hnat
  obtain ⟨ca, cc, rfl, hc1, hc2, hc3⟩ := hc.open
  obtain ⟨pa, pc, rfl, hp1, hp2, hp3⟩ := hp.open
  clear hc hp hc3 hp3 hnat
  have hB : Below w.heap.size w (((w.alloc (.cells #[.int .i64 a, .int .i64 s] 23)).alloc (.cells #[.int .i64 more.wall, .int .u32 more.tick, .int .u32 more.mark] 36)).alloc (.cells #[.int .i64 a, .int .i64 s] 25)) := bel_alloc (bel_alloc (bel_alloc (bel_refl w)))
  have hb6 : Blk (((w.alloc (.cells #[.int .i64 a, .int .i64 s] 23)).alloc (.cells #[.int .i64 more.wall, .int .u32 more.tick, .int .u32 more.mark] 36)).alloc (.cells #[.int .i64 a, .int .i64 s] 25)) w.heap.size #[.int .i64 a, .int .i64 s] 23 := ((Blk.new w #[.int .i64 a, .int .i64 s] 23).next (below_alloc _ _)).next (below_alloc _ _)
  have hb10 : Blk (((w.alloc (.cells #[.int .i64 a, .int .i64 s] 23)).alloc (.cells #[.int .i64 more.wall, .int .u32 more.tick, .int .u32 more.mark] 36)).alloc (.cells #[.int .i64 a, .int .i64 s] 25)) (w.heap.size + 1) #[.int .i64 more.wall, .int .u32 more.tick, .int .u32 more.mark] 36 := by
    have hb := (Blk.new (w.alloc (.cells #[.int .i64 a, .int .i64 s] 23)) #[.int .i64 more.wall, .int .u32 more.tick, .int .u32 more.mark] 36).next (below_alloc _ (.cells #[.int .i64 a, .int .i64 s] 25))
    simp only [World.size_alloc] at hb
    exact hb
  have hb13 : Blk (((w.alloc (.cells #[.int .i64 a, .int .i64 s] 23)).alloc (.cells #[.int .i64 more.wall, .int .u32 more.tick, .int .u32 more.mark] 36)).alloc (.cells #[.int .i64 a, .int .i64 s] 25)) (w.heap.size + 2) #[.int .i64 a, .int .i64 s] 25 := by
    have hb := (Blk.new ((w.alloc (.cells #[.int .i64 a, .int .i64 s] 23)).alloc (.cells #[.int .i64 more.wall, .int .u32 more.tick, .int .u32 more.mark] 36)) #[.int .i64 a, .int .i64 s] 25)
    simp only [World.size_alloc] at hb
    exact hb
  go_enter Try.func4, Try.ntmps4
  go_wp2_with fail
  generalize (((w.alloc (.cells #[.int .i64 a, .int .i64 s] 23)).alloc (.cells #[.int .i64 more.wall, .int .u32 more.tick, .int .u32 more.mark] 36)).alloc (.cells #[.int .i64 a, .int .i64 s] 25)) = xa at *
  refine (to_any _ closed _ (Hc.out.below hB) (by omega)).mono ?_
  rintro e x0 ⟨vl, rfl, hl0, hbx⟩
  have HB0 := Lib.hid (below_any hB hbx)
  have Hl0 : Hid (OwnSt w x0 vl closed) := Lib.hid ⟨hl0.1, fun b h => Nat.le_trans hB.size (hl0.2 b h)⟩
  have Hlo : Hid (∀ b, vl.ownBlock = some b → w.heap.size + 2 < b) := Lib.hid (fun b h => Nat.lt_of_lt_of_le hb13.lt (hl0.2 b h))
  have Hb6 := Lib.hid (hb6.next hbx)
  have Hb10 := Lib.hid (hb10.next hbx)
  have Hb13 := Lib.hid (hb13.next hbx)
  have hl0' := hl0.rd
  have hz0 : w.heap.size + 2 < x0.heap.size := Nat.lt_of_lt_of_le hb13.lt hbx.size
  clear hB hb6 hb10 hb13 hl0 hbx
  obtain ⟨la, lc, rfl, hlc1, hlc2⟩ := Hl0.out.open
  go_wp2_with fail
  have c0 : x0.cell? ⟨w.heap.size + 2, 0, none⟩ = some (.int .i64 a) := Hb13.out.cell 0
  have c1 : x0.cell? ⟨w.heap.size + 2, 1, none⟩ = some (.int .i64 s) := Hb13.out.cell 1
  have hx0 := bel_refl x0
  have HK : Hid (∀ w', Below x0.heap.size x0 w' → w'.cell? ⟨w.heap.size + 2, 0, none⟩ = some (.int .i64 a) ∧ w'.cell? ⟨w.heap.size + 2, 1, none⟩ = some (.int .i64 s)) := Lib.hid (by
    intro w' h
    exact ⟨(Hb13.out.next h).cell 0, (Hb13.out.next h).cell 1⟩)
  generalize hmm : mk a s closed pins newest = M
  have HM := Lib.hid hmm
  clear hmm
  go_cut [15, 16] (fun pv ev wc => ∃ g, pv = .pointer (some ⟨g, 0, none⟩) ∧ ev = .int .i64 M.2 ∧ Hid (Blk wc g #[.int .i64 M.1.cut.wall, .int .u32 M.1.cut.tick, .int .u32 M.1.cut.mark, .int .i64 M.1.horizon] 30) ∧ Hid (Below x0.heap.size x0 wc) ∧ Hid (x0.heap.size ≤ g))
  case first =>
    rename_i J0 J1 hJ0 hJ1
    go_region_held3 (fun w' => w'.cell? ⟨w.heap.size + 2, 0, none⟩ = some (.int .i64 a) ∧ w'.cell? ⟨w.heap.size + 2, 1, none⟩ = some (.int .i64 s))
      (first | go_keep | (exact HK.out _ (by repeat (first | assumption | apply bel_alloc | apply bel_drew | refine bel_set ?_ (by first | assumption | exact Nat.le_refl _)))))
      (first
        | (go_at_call 6; refine (to_any _ pins _ (Hp.out.below (below_any HB0.out (by repeat (first | assumption | apply bel_alloc | apply bel_drew)))) (by omega)).mono ?_; rintro e w4 ⟨vq, rfl, ht4, hb4⟩; have hx4 : Below x0.heap.size x0 w4 := below_any (by repeat (first | assumption | apply bel_alloc | apply bel_drew)) hb4; have ht4' := ht4.rd; have hs4 := hx4.size; first | (have bz := (new_drew _ _ 30).next hb4) | (have bz := (drew_new _ _ 30).next hb4) | (have bz := (Blk.new _ _ 30).next hb4) | skip)
        | (go_at_call 5; refine (make_any a s _ _ closed pins newest _ ((Hl0.out.next (by repeat (first | assumption | apply bel_alloc | apply bel_drew))).rd) (ht4'.below (by have := bel_refl w4; repeat (first | assumption | apply bel_alloc | apply bel_drew)))).mono ?_; intro e w5 hmk; obtain ⟨rfl, hb5⟩ := mk_of hmk; clear hmk; rw [HM.out]; have hx5 : Below x0.heap.size x0 w5 := below_any (by repeat (first | assumption | apply bel_alloc | apply bel_drew)) hb5; (first | (have bz := (new_drew _ _ 30).next hb5) | (have bz := (drew_new _ _ 30).next hb5) | (have bz := (Blk.new _ _ 30).next hb5) | (have bz := bz.next hb5) | skip); first | (have z0 : World.cell? _ _ = some (.int .i64 0) := bz.cell 0; have z1 : World.cell? _ _ = some (.int .u32 0) := bz.cell 1; have z2 : World.cell? _ _ = some (.int .u32 0) := bz.cell 2; have z3 : World.cell? _ _ = some (.int .i64 0) := bz.cell 3; have f0 := bz.free 0; have f1 := bz.free 1; have f2 := bz.free 2; have f3 := bz.free 3) | skip))
    all_goals (refine hJ1 _ _ (Met.intro (hJ0 _ _ ?_)))
    all_goals (repeat apply Exists.intro)
    all_goals (refine ⟨⟨_, rfl, rfl, ?_, ?_, ?_⟩, rfl⟩)
    all_goals (with_reducible refine Lib.hid ?_)
    all_goals first
      | (with_reducible exact Blk.new _ _ 30)
      | (with_reducible exact set4 bz _ _ _ _)
      | (with_reducible exact bel_alloc hx5)
      | (with_reducible exact bel_set (bel_set (bel_set (bel_set hx5 (by first | assumption | exact Nat.le_refl _)) (by first | assumption | exact Nat.le_refl _)) (by first | assumption | exact Nat.le_refl _)) (by first | assumption | exact Nat.le_refl _))
      | (with_reducible assumption)
      | (with_reducible exact hx5.size)
      | (with_reducible exact Nat.le_refl _)
  case rest =>
    obtain ⟨g, rfl, rfl, HZ, HW, HG⟩ := hcut
    have HB1 := Lib.hid (below_any HB0.out HW.out)
    have Hl1 := Lib.hid (Hl0.out.next HW.out)
    have Hk6 := Lib.hid (Hb6.out.next HW.out)
    have Hk10 := Lib.hid (Hb10.out.next HW.out)
    have Hk13 := Lib.hid (Hb13.out.next HW.out)
    have HLT : Hid (∀ b, la.map (·.block) = some b → b < x0.heap.size) := Lib.hid (fun b hb => Hl0.out.1.lt b (by cases la <;> simp_all [Value.ownBlock]))
    clear HB0 Hb6 Hb10 Hb13 Hl0 HK c0 c1 hl0' hx0
    by_cases hok : okArgs a s closed pins newest
    · have HO := Lib.hid hok
      have hM : M = (planOf a s closed pins newest, 0) := by rw [← HM.out]; unfold mk; rw [if_pos hok]
      clear hok HM
      subst hM
      go_wp2_with fail
      refine (awake_any _).mono ?_
      rintro e w6 ⟨rfl, hb6⟩
      have HB6 := Lib.hid (below_any HB1.out hb6)
      have Hl6 := Lib.hid (Hl1.out.next hb6)
      have Hz6 := Lib.hid (HZ.out.next hb6)
      have Hm6 := Lib.hid (Hk6.out.next hb6)
      have Hm10 := Lib.hid (Hk10.out.next hb6)
      have Hm13 := Lib.hid (Hk13.out.next hb6)
      have hz6 : x0.heap.size ≤ w6.heap.size := Nat.le_trans HW.out.size hb6.size
      clear hb6 HB1 Hl1 HZ Hk6 Hk10 Hk13
      go_wp2_with (at_builtin; apply Hold.mk)
      unfold Hold
      refine wpList_app rfl _ _ 34 rfl ok34 (by rfl) (by rfl) (own_lit w6 28 3 #[] 0 (by simp [maxLen]) rfl) (Hl6.out.next (below_alloc _ _)).rd (flat_one _) (by simp only [maxLen]; omega) (by omega) ?_
      intro v7 w7 ho7 hg7 hn7
      have hb7 : Below w6.heap.size w6 w7 := (below_alloc w6 (.cells #[] 28)).grown hg7 (by simp) (fun b h => by cases h; exact Nat.le_refl _)
      have Ho7 : Hid (OwnSt w6 w7 v7 closed) := Lib.hid ⟨by simpa using ho7, fun b hb => (hn7 b hb).elim (fun h => by cases h; exact Nat.le_refl _) (fun h => by simp at h; omega)⟩
      have HB7 := Lib.hid (below_any HB6.out hb7)
      have Hb67 := Lib.hid hb7
      clear ho7 hg7 hn7 hb7
      go_wp2_with fail
      refine (to_any _ pins _ (Hp.out.below HB7.out) (by omega)).mono ?_
      rintro e w8 ⟨vq, rfl, hq8, hb8⟩
      have Ho8 := Lib.hid (Ho7.out.next hb8)
      have Hq8 := Lib.hid hq8
      have HB8 := Lib.hid (below_any HB7.out hb8)
      have Hb68 := Lib.hid (below_any Hb67.out hb8)
      clear hq8 hb8 Ho7 HB7 Hb67
      go_wp2_with (at_builtin; apply Hold.mk)
      unfold Hold
      refine wpList_app rfl _ _ 34 rfl ok34 (by rfl) (by rfl) Ho8.out.1 Hq8.out.rd (flat_one _) (by simp only [maxLen]; omega) (by omega) ?_
      intro v9 w9 ho9 hg9 hn9
      have Hb69 : Hid (Below w6.heap.size w6 w9) := Lib.hid (Hb68.out.grown hg9 Hb68.out.size Ho8.out.2)
      have Hr9 : Hid (RdSt w9 v9 (closed ++ pins)) := Lib.hid (by
        have := ho9.rd
        unfold RdSt
        rw [List.length_append, flat_append]
        exact this)
      have HB9 := Lib.hid (below_any HB6.out Hb69.out)
      have Hl9 := Lib.hid (Hl6.out.next Hb69.out)
      have Hz9 := Lib.hid (Hz6.out.next Hb69.out)
      have Hm69 := Lib.hid (Hm6.out.next Hb69.out)
      have Hm109 := Lib.hid (Hm10.out.next Hb69.out)
      have Hm139 := Lib.hid (Hm13.out.next Hb69.out)
      clear ho9 hg9 hn9 Hq8 Ho8 HB8 Hb68 Hb69 Hl6 Hz6 Hm6 Hm10 Hm13 HB6
      obtain ⟨ra, rc, rfl, hr1, hr2, hr3⟩ := Hr9.out.open
      have Hr3 := Lib.hid hr3
      have Hcut := Lib.hid (spares_cut HO.out Hnat.out)
      clear hr3
      have Hhor := Lib.hid (spares_horizon HO.out)
      have Hmore : Hid (∀ (k : Nat) (x y : St), closed[k]? = some x → ¬ cmp y x < 0 → stR y = true → okArgs a s (closed.set k y) pins newest ∧ cmp (planOf a s closed pins newest).cut (planOf a s (closed.set k y) pins newest).cut ≤ 0) :=
        Lib.hid (fun k x y h1 h2 h3 => spares_more HO.out h1 h2 h3)
      generalize planOf a s closed pins newest = P1 at *
      obtain ⟨⟨pw, pt, pm⟩, ph⟩ := P1
      simp only at Hcut Hhor Hmore Hz9
      go_wp2_with fail
      go_loopw [18, 57] (fun _ i wr => ∃ k : Nat, k ≤ (closed ++ pins).length ∧ i = .int .i64 k ∧ Hid (Below w9.heap.size w9 wr)) (fun _ i _ => (closed ++ pins).length - (intOf i).toNat)
      case atStart => exact ⟨0, by omega, rfl, Lib.hid (bel_refl _)⟩
      case round =>
        obtain ⟨k, hk, rfl, Hb⟩ := hrel
        by_cases hlt : k < (closed ++ pins).length
        · obtain ⟨x, hx⟩ : ∃ x, (closed ++ pins)[k]? = some x := ⟨(closed ++ pins)[k], List.getElem?_eq_getElem hlt⟩
          obtain ⟨b, o, rfl, c1, c2, c3⟩ := Hr3.out k x hx
          have lb := World.block_lt_of_cell? w9 _ c1
          have c1' : wr.cell? ⟨b, o + k * 3, none⟩ = some (.int .i64 x.wall) := (Hb.out.cell (p := ⟨b, o + k * 3, none⟩) lb).trans c1
          have c2' : wr.cell? ⟨b, o + k * 3 + 1, none⟩ = some (.int .u32 x.tick) := (Hb.out.cell (p := ⟨b, o + k * 3 + 1, none⟩) lb).trans c2
          have c3' : wr.cell? ⟨b, o + k * 3 + 2, none⟩ = some (.int .u32 x.mark) := (Hb.out.cell (p := ⟨b, o + k * 3 + 2, none⟩) lb).trans c3
          have hzr := Hz9.out.next Hb.out
          have z0 : wr.cell? ⟨g, 0, none⟩ = some (.int .i64 pw) := hzr.cell 0
          have z1 : wr.cell? ⟨g, 1, none⟩ = some (.int .u32 pt) := hzr.cell 1
          have z2 : wr.cell? ⟨g, 2, none⟩ = some (.int .u32 pm) := hzr.cell 2
          have hgl := hzr.lt
          have Hx := Lib.hid (Hcut.out x (List.mem_of_getElem? hx))
          clear c1 c2 c3 hzr hx
          rw [List.length_append] at hlt hk
          go_wp2_with fail
          refine (compare_any x ⟨pw, pt, pm⟩ _).mono ?_
          rintro e w10 ⟨rfl, hb10⟩
          have d0 : decide (cmp x ⟨pw, pt, pm⟩ < 0) = false := by simpa using Hx.out
          have Hb10 := Lib.hid (below_any (bel_alloc Hb.out) hb10)
          clear hb10
          go_wp2_with fail
          go_roundw
          case rel => exact ⟨k + 1, by rw [List.length_append]; omega, by go_num, Hb10⟩
          case measure => simp [intOf]; omega
        · obtain rfl : k = (closed ++ pins).length := by omega
          have hzr := Hz9.out.next Hb.out
          have z3 : wr.cell? ⟨g, 3, none⟩ = some (.int .i64 ph) := hzr.cell 3
          have hm6 := Hm69.out.next Hb.out
          have m1 : wr.cell? ⟨w.heap.size, 1, none⟩ = some (.int .i64 s) := hm6.cell 1
          obtain ⟨q1, q2, q3⟩ := Hhor.out
          clear hzr hm6
          have hn0 := HO.out.2.2.1
          have hn1 := HO.out.2.2.2.1
          have hpos : 0 < closed.length := List.length_pos_iff.2 HO.out.2.1
          have e1 : ((closed.length : Int) == 0) = false := by rw [beq_eq_false_iff_ne]; omega
          obtain ⟨i, hi, hie⟩ : ∃ i : Nat, i < closed.length ∧ wrap64 ((IntKind.u64.wrap which).tmod (closed.length : Int)) = (i : Int) := by
            have h0 := wrap_u64_nonneg which
            have h1 := Int.emod_nonneg (IntKind.u64.wrap which) (b := (closed.length : Int)) (by omega)
            have h2 := Int.emod_lt_of_pos (IntKind.u64.wrap which) (b := (closed.length : Int)) (by omega)
            rw [Int.tmod_eq_emod_of_nonneg h0]
            refine ⟨((IntKind.u64.wrap which) % (closed.length : Int)).toNat, by omega, ?_⟩
            rw [IntWalk.wrap64_in _ ⟨by omega, by omega⟩]
            omega
          go_wp2_with fail
          rw [hie]
          clear hie
          obtain ⟨x, hx⟩ : ∃ x, closed[i]? = some x := ⟨closed[i], List.getElem?_eq_getElem hi⟩
          have Hlr := Lib.hid (Hl9.out.next Hb.out)
          obtain ⟨gl, rfl, hgl0, hgl1, ⟨l0, l1, l2⟩, lf, hlset⟩ := Hlr.out.place i x hx
          have hglx := HLT.out gl rfl
          have Hm10r := Lib.hid (Hm109.out.next Hb.out)
          have Hm13r := Lib.hid (Hm139.out.next Hb.out)
          have Hzr := Lib.hid (Hz9.out.next Hb.out)
          have HBr := Lib.hid (below_any HB9.out Hb.out)
          have Hx := Lib.hid hx
          have n0 : wr.cell? ⟨w.heap.size + 1, 0, none⟩ = some (.int .i64 more.wall) := Hm10r.out.cell 0
          have n1 : wr.cell? ⟨w.heap.size + 1, 1, none⟩ = some (.int .u32 more.tick) := Hm10r.out.cell 1
          have n2 : wr.cell? ⟨w.heap.size + 1, 2, none⟩ = some (.int .u32 more.mark) := Hm10r.out.cell 2
          have hlm := Hm10r.out.lt
          have HK : Hid (∀ w', Below wr.heap.size wr w' → w'.cell? ⟨w.heap.size + 1, 0, none⟩ = some (.int .i64 more.wall) ∧ w'.cell? ⟨w.heap.size + 1, 1, none⟩ = some (.int .u32 more.tick) ∧ w'.cell? ⟨w.heap.size + 1, 2, none⟩ = some (.int .u32 more.mark) ∧ w'.cell? ⟨gl, i * 3, none⟩ = some (.int .i64 x.wall) ∧ w'.cell? ⟨gl, i * 3 + 1, none⟩ = some (.int .u32 x.tick) ∧ w'.cell? ⟨gl, i * 3 + 2, none⟩ = some (.int .u32 x.mark)) := Lib.hid (by
            intro w' h
            exact ⟨(Hm10r.out.next h).cell 0, (Hm10r.out.next h).cell 1, (Hm10r.out.next h).cell 2, (h.cell (p := ⟨gl, i * 3, none⟩) hgl1).trans l0, (h.cell (p := ⟨gl, i * 3 + 1, none⟩) hgl1).trans l1, (h.cell (p := ⟨gl, i * 3 + 2, none⟩) hgl1).trans l2⟩)
          clear hx hlset m1 z3 q1 q2 q3 HO Hr9 Hr3 Hz9 Hl9 Hm109 Hm139 Hm69 HLT lf
          have hi0 : (0 : Int) ≤ (i : Int) := by omega
          have hi1 : (i : Int) < (closed.length : Int) := by omega
          have hwr := bel_refl wr
          cases hst : stR more with
          | false =>
            have Hst := Lib.hid hst
            clear hst
            first
              | go_region_with (go_at_call 13; refine (refstr_any more _).mono ?_; rw [Hst.out]; rintro e w10 ⟨rfl, hb⟩; have hw10 : Below wr.heap.size wr w10 := below_any (by repeat (first | assumption | apply bel_alloc | apply bel_drew)) hb; clear hb)
              | fail
            all_goals (go_wp2_with fail)
            all_goals go_ret
            all_goals (exact ⟨rfl, below_any HBr.out (by repeat (first | assumption | apply bel_alloc | apply bel_drew))⟩)
          | true =>
            have Hst := Lib.hid hst
            clear hst
            have HKS : Hid (∀ w', Below wr.heap.size wr w' → (fun w' : World => w'.cell? ⟨w.heap.size + 1, 0, none⟩ = some (.int .i64 more.wall) ∧ w'.cell? ⟨w.heap.size + 1, 1, none⟩ = some (.int .u32 more.tick) ∧ w'.cell? ⟨w.heap.size + 1, 2, none⟩ = some (.int .u32 more.mark) ∧ w'.cell? ⟨gl, i * 3, none⟩ = some (.int .i64 x.wall) ∧ w'.cell? ⟨gl, i * 3 + 1, none⟩ = some (.int .u32 x.tick) ∧ w'.cell? ⟨gl, i * 3 + 2, none⟩ = some (.int .u32 x.mark)) w') := HK
            by_cases hcm : cmp more x < 0
            · have dcm : decide (cmp more x < 0) = true := by simpa using hcm
              go_region_held3 (fun w' => w'.cell? ⟨w.heap.size + 1, 0, none⟩ = some (.int .i64 more.wall) ∧ w'.cell? ⟨w.heap.size + 1, 1, none⟩ = some (.int .u32 more.tick) ∧ w'.cell? ⟨w.heap.size + 1, 2, none⟩ = some (.int .u32 more.mark) ∧ w'.cell? ⟨gl, i * 3, none⟩ = some (.int .i64 x.wall) ∧ w'.cell? ⟨gl, i * 3 + 1, none⟩ = some (.int .u32 x.tick) ∧ w'.cell? ⟨gl, i * 3 + 2, none⟩ = some (.int .u32 x.mark))
                (first | go_keep | (exact HKS.out _ (by repeat (first | assumption | apply bel_alloc | apply bel_drew))))
                (first
                  | (go_at_call 13; refine (refstr_any more _).mono ?_; rw [Hst.out]; rintro e w10 ⟨rfl, hb⟩; have hw10 : Below wr.heap.size wr w10 := below_any (by repeat (first | assumption | apply bel_alloc | apply bel_drew)) hb; clear hb)
                  | (go_at_call 14; refine (to_any1 more _).mono ?_; rintro e w11 ⟨rfl, hb⟩; unfold St.val; have hw11 : Below wr.heap.size wr w11 := below_any (by repeat (first | assumption | apply bel_alloc | apply bel_drew)) hb; clear hb)
                  | (go_at_call 12; refine (compare_any more x _).mono ?_; rintro e w12 ⟨rfl, hb⟩; have hw12 : Below wr.heap.size wr w12 := below_any (by repeat (first | assumption | apply bel_alloc | apply bel_drew)) hb; clear hb))
              all_goals (go_wp2_with fail)
              all_goals go_ret
              all_goals (exact ⟨rfl, below_any HBr.out (by repeat (first | assumption | apply bel_alloc | apply bel_drew))⟩)
            · have dcm : decide (cmp more x < 0) = false := by simpa using hcm
              obtain ⟨hok2, hle2⟩ := Hmore.out i x more Hx.out (by omega) Hst.out
              have Hok2 := Lib.hid hok2
              have Hle2 := Lib.hid hle2
              clear hok2 hle2 hcm
              go_region_held3 (fun w' => w'.cell? ⟨w.heap.size + 1, 0, none⟩ = some (.int .i64 more.wall) ∧ w'.cell? ⟨w.heap.size + 1, 1, none⟩ = some (.int .u32 more.tick) ∧ w'.cell? ⟨w.heap.size + 1, 2, none⟩ = some (.int .u32 more.mark) ∧ w'.cell? ⟨gl, i * 3, none⟩ = some (.int .i64 x.wall) ∧ w'.cell? ⟨gl, i * 3 + 1, none⟩ = some (.int .u32 x.tick) ∧ w'.cell? ⟨gl, i * 3 + 2, none⟩ = some (.int .u32 x.mark))
                (first | go_keep | (exact HKS.out _ (by repeat (first | assumption | apply bel_alloc | apply bel_drew))))
                (first
                  | (go_at_call 13; refine (refstr_any more _).mono ?_; rw [Hst.out]; rintro e w10 ⟨rfl, hb⟩; have hw10 : Below wr.heap.size wr w10 := below_any (by repeat (first | assumption | apply bel_alloc | apply bel_drew)) hb; clear hb)
                  | (go_at_call 14; refine (to_any1 more _).mono ?_; rintro e w11 ⟨rfl, hb⟩; unfold St.val; have hw11 : Below wr.heap.size wr w11 := below_any (by repeat (first | assumption | apply bel_alloc | apply bel_drew)) hb; clear hb)
                  | (go_at_call 12; refine (compare_any more x _).mono ?_; rintro e w12 ⟨rfl, hb⟩; have hw12 : Below wr.heap.size wr w12 := below_any (by repeat (first | assumption | apply bel_alloc | apply bel_drew)) hb; clear hb))
              have HW12 := Lib.hid hw12
              clear hw10 hw11 hw12
              obtain ⟨n0', n1', n2', -, -, -⟩ := HK.out w12 HW12.out
              clear n0 n1 n2 l0 l1 l2 dcm hwr hlm
              have hlm : w.heap.size + 1 < w12.heap.size := by have := HW12.out.size; have := Hm10r.out.lt; omega
              go_wp2_with fail
              refine (to_any1 more _).mono ?_
              rintro e w13 ⟨rfl, hb13⟩
              have HW13 := Lib.hid (below_any HW12.out hb13)
              clear hb13 n0' n1' n2' HW12
              obtain ⟨gl', he, hgl0', hgl1', ⟨l0, l1, l2⟩, lf, hlset⟩ := (Hlr.out.next HW13.out).place i x Hx.out
              cases he
              have Hl14 := Lib.hid (hlset more)
              have hgg : g ≠ gl := by have := HG.out; omega
              have hmg : w.heap.size + 2 ≠ gl := by have := Hlo.out gl rfl; omega
              have Hz14 := Lib.hid ((((Hzr.out.next HW13.out).other (i * 3) (.int .i64 more.wall) hgg).other (i * 3 + 1) (.int .u32 more.tick) hgg).other (i * 3 + 2) (.int .u32 more.mark) hgg)
              have Hm14 := Lib.hid ((((Hm13r.out.next HW13.out).other (i * 3) (.int .i64 more.wall) hmg).other (i * 3 + 1) (.int .u32 more.tick) hmg).other (i * 3 + 2) (.int .u32 more.mark) hmg)
              have HB14 := Lib.hid (bel_set (bel_set (bel_set (below_any HBr.out HW13.out) hgl0 (j := i * 3) (u := .int .i64 more.wall)) hgl0 (j := i * 3 + 1) (u := .int .u32 more.tick)) hgl0 (j := i * 3 + 2) (u := .int .u32 more.mark))
              have f0 := lf (i * 3)
              have f1 := lf (i * 3 + 1)
              have f2 := lf (i * 3 + 2)
              clear hlset lf
              unfold St.val
              go_wp2_with fail
              generalize (((w13.setCell ⟨gl, i * 3, none⟩ (.int .i64 more.wall)).setCell ⟨gl, i * 3 + 1, none⟩ (.int .u32 more.tick)).setCell ⟨gl, i * 3 + 2, none⟩ (.int .u32 more.mark)) = x1 at *
              have c0 : x1.cell? ⟨w.heap.size + 2, 0, none⟩ = some (.int .i64 a) := Hm14.out.cell 0
              have c1 : x1.cell? ⟨w.heap.size + 2, 1, none⟩ = some (.int .i64 s) := Hm14.out.cell 1
              have hx1 := bel_refl x1
              have hz1 : w.heap.size + 2 < x1.heap.size := Hm14.out.lt
              have HK1 : Hid (∀ w', Below x1.heap.size x1 w' → w'.cell? ⟨w.heap.size + 2, 0, none⟩ = some (.int .i64 a) ∧ w'.cell? ⟨w.heap.size + 2, 1, none⟩ = some (.int .i64 s)) := Lib.hid (by
                intro w' h
                exact ⟨(Hm14.out.next h).cell 0, (Hm14.out.next h).cell 1⟩)
              have hmm : mk a s (closed.set i more) pins newest = (planOf a s (closed.set i more) pins newest, 0) := by unfold mk; rw [if_pos Hok2.out]
              generalize planOf a s (closed.set i more) pins newest = P2 at *
              obtain ⟨⟨qw, qt, qm⟩, qh⟩ := P2
              have HM := Lib.hid hmm
              clear hmm f0 f1 f2 l0 l1 l2 HKS HK
              have Hll : Hid ((closed.set i more).length = closed.length) := Lib.hid (by simp)
              generalize hL : closed.set i more = L at *
              clear hL
              go_cut [20, 21] (fun pv ev wc => ∃ g, pv = .pointer (some ⟨g, 0, none⟩) ∧ ev = .int .i64 0 ∧ Hid (Blk wc g #[.int .i64 qw, .int .u32 qt, .int .u32 qm, .int .i64 qh] 30) ∧ Hid (Below x1.heap.size x1 wc))
              case first =>
                rename_i J0 J1 hJ0 hJ1
                go_region_held3 (fun w' => w'.cell? ⟨w.heap.size + 2, 0, none⟩ = some (.int .i64 a) ∧ w'.cell? ⟨w.heap.size + 2, 1, none⟩ = some (.int .i64 s))
                  (first | go_keep | (exact HK1.out _ (by repeat (first | assumption | apply bel_alloc | apply bel_drew | refine bel_set ?_ (by first | assumption | exact Nat.le_refl _)))))
                  (first
                    | (go_at_call 6; refine (to_any _ pins _ (Hp.out.below (below_any HB14.out (by repeat (first | assumption | apply bel_alloc | apply bel_drew)))) (by omega)).mono ?_; rintro e w4 ⟨vq2, rfl, ht4, hb4⟩; have hx4 : Below x1.heap.size x1 w4 := below_any (by repeat (first | assumption | apply bel_alloc | apply bel_drew)) hb4; have ht4' := ht4.rd; have hs4 := hx4.size; first | (have bz := (new_drew _ _ 30).next hb4) | (have bz := (drew_new _ _ 30).next hb4) | (have bz := (Blk.new _ _ 30).next hb4) | skip)
                    | (go_at_call 5; refine (make_any a s _ _ L pins newest _ ((Hl14.out.next (by repeat (first | assumption | apply bel_alloc | apply bel_drew))).rd) (ht4'.below (by have := bel_refl w4; repeat (first | assumption | apply bel_alloc | apply bel_drew)))).mono ?_; intro e w5 hmk; obtain ⟨rfl, hb5⟩ := mk_of hmk; clear hmk; rw [HM.out]; have hx5 : Below x1.heap.size x1 w5 := below_any (by repeat (first | assumption | apply bel_alloc | apply bel_drew)) hb5; (first | (have bz := (new_drew _ _ 30).next hb5) | (have bz := (drew_new _ _ 30).next hb5) | (have bz := (Blk.new _ _ 30).next hb5) | (have bz := bz.next hb5) | skip); first | (have z0 : World.cell? _ _ = some (.int .i64 0) := bz.cell 0; have z1 : World.cell? _ _ = some (.int .u32 0) := bz.cell 1; have z2 : World.cell? _ _ = some (.int .u32 0) := bz.cell 2; have z3 : World.cell? _ _ = some (.int .i64 0) := bz.cell 3; have f0 := bz.free 0; have f1 := bz.free 1; have f2 := bz.free 2; have f3 := bz.free 3) | skip))
                all_goals (refine hJ1 _ _ (Met.intro (hJ0 _ _ ?_)))
                all_goals (repeat apply Exists.intro)
                all_goals (refine ⟨⟨_, rfl, rfl, ?_, ?_⟩, rfl⟩)
                all_goals (with_reducible refine Lib.hid ?_)
                all_goals first
                  | (with_reducible exact Blk.new _ _ 30)
                  | (with_reducible exact set4 bz _ _ _ _)
                  | (with_reducible exact bel_alloc hx5)
                  | (with_reducible exact bel_set (bel_set (bel_set (bel_set hx5 (by first | assumption | exact Nat.le_refl _)) (by first | assumption | exact Nat.le_refl _)) (by first | assumption | exact Nat.le_refl _)) (by first | assumption | exact Nat.le_refl _))
                  | (with_reducible assumption)
              case rest =>
                obtain ⟨g2, rfl, rfl, HZ2, HW2⟩ := hcut
                have HBf := Lib.hid (below_any HB14.out HW2.out)
                have hZ1 := Hz14.out.next HW2.out
                have a0 : wc.cell? ⟨g, 0, none⟩ = some (.int .i64 pw) := hZ1.cell 0
                have a1 : wc.cell? ⟨g, 1, none⟩ = some (.int .u32 pt) := hZ1.cell 1
                have a2 : wc.cell? ⟨g, 2, none⟩ = some (.int .u32 pm) := hZ1.cell 2
                have b0 : wc.cell? ⟨g2, 0, none⟩ = some (.int .i64 qw) := HZ2.out.cell 0
                have b1 : wc.cell? ⟨g2, 1, none⟩ = some (.int .u32 qt) := HZ2.out.cell 1
                have b2 : wc.cell? ⟨g2, 2, none⟩ = some (.int .u32 qm) := HZ2.out.cell 2
                have dle : decide (cmp ⟨pw, pt, pm⟩ ⟨qw, qt, qm⟩ ≤ 0) = true := by simpa using Hle2.out
                clear hZ1 HM
                go_wp2_with fail
                refine (compare_any ⟨pw, pt, pm⟩ ⟨qw, qt, qm⟩ _).mono ?_
                rintro e w20 ⟨rfl, hb20⟩
                have Hb20 := Lib.hid (below_any HBf.out hb20)
                clear hb20
                go_wp2_with fail
                go_ret
                exact ⟨rfl, Hb20.out⟩
    · have hM : M = (noPlan, 1) := by rw [← HM.out]; unfold mk; rw [if_neg hok]
      clear hok HM
      subst hM
      have Hz : Hid (Blk wc g #[.int .i64 0, .int .u32 0, .int .u32 0, .int .i64 0] 30) := HZ
      clear HZ
      go_wp2_with fail
      refine (awake_any _).mono ?_
      rintro e w6 ⟨rfl, hb6⟩
      have Hw6 := Lib.hid (below_any HB1.out hb6)
      have Hz6 := Lib.hid (Hz.out.next hb6)
      clear hb6
      go_wp2_with fail
      refine (awake_any _).mono ?_
      rintro e w7 ⟨rfl, hb7⟩
      have Hw7 := Lib.hid (below_any Hw6.out hb7)
      have hz7 := Hz6.out.next hb7
      clear hb7
      have c0 : w7.cell? ⟨g, 0, none⟩ = some (.int .i64 0) := hz7.cell 0
      have c1 : w7.cell? ⟨g, 1, none⟩ = some (.int .u32 0) := hz7.cell 1
      have c2 : w7.cell? ⟨g, 2, none⟩ = some (.int .u32 0) := hz7.cell 2
      have c3 : w7.cell? ⟨g, 3, none⟩ = some (.int .i64 0) := hz7.cell 3
      clear hz7
      go_wp2_with fail
      go_ret
      exact ⟨rfl, Hw7.out⟩
end Go.Proofs.Ytabpcbjjchhbeaa
