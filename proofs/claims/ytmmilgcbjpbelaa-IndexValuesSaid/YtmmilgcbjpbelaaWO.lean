/- An index and the document's, set by set: made (17), awake (18). -/
import Derived.Test.YtmmilgcbjpbelaaWN
namespace Go.Proofs.Ytmmilgcbjpbelaa
open Go.RowKit Go.Kt Go.Ix

variable {F : Nat → Prop} {w w' : World} {g : Nat} {D D' : List (List Pr)}

/-- what comes of one set more: its number, the error, the sets -/
def AddsTo (D : List (List Pr)) (d : List Pr) (n f : Nat) (D' : List (List Pr)) : Prop :=
  (¬ RightP d ∧ n = 0 ∧ f = 40 ∧ D' = D) ∨ (RightP d ∧ D[n]? = some d ∧ f = 0 ∧ D' = D) ∨ (RightP d ∧ d ∉ D ∧ n = D.length ∧ f = 0 ∧ D' = D ++ [d])
theorem adds_ex (D : List (List Pr)) (d : List Pr) : ∃ n f D', AddsTo D d n f D' := by
  by_cases hr : RightP d
  · by_cases hd : d ∈ D
    · obtain ⟨i, hi⟩ := List.mem_iff_getElem?.1 hd
      exact ⟨i, 0, D, .inr (.inl ⟨hr, hi, rfl, rfl⟩)⟩
    · exact ⟨_, 0, _, .inr (.inr ⟨hr, hd, rfl, rfl, rfl⟩)⟩
  · exact ⟨0, 40, D, .inl ⟨hr, rfl, rfl, rfl⟩⟩
theorem adds_le {d : List Pr} {n f : Nat} (h : AddsTo D d n f D') : D'.length ≤ D.length + 1 ∧ D.length ≤ D'.length := by
  rcases h with ⟨_, _, _, rfl⟩ | ⟨_, _, _, rfl⟩ | ⟨_, _, _, _, rfl⟩ <;> simp
theorem adds_num {d : List Pr} {n f : Nat} (h : AddsTo D d n f D') : n ≤ D.length := by
  rcases h with ⟨_, h1, _, rfl⟩ | ⟨_, h1, _, rfl⟩ | ⟨_, _, h1, _, rfl⟩
  · omega
  · have := (List.getElem?_eq_some_iff.1 h1).1; omega
  · omega

theorem add_any (v : Value) (d : List Pr) (n f : Nat) (w : World) (h : Idx F w g D) (hv : RdP w v d) (hf : Fit d) (hvF : ∀ b, v.ownBlock = some b → ¬ F b) (hl : D.length ≤ 60) (ha : AddsTo D d n f D') :
    Calls Try.prog 25 #[.pointer (some ⟨g, 0, none⟩), v] w fun e w' => ∃ F', e = .returned (.tuple #[.int .i64 (n : Int), .int .i64 (f : Int)]) ∧ Idx F' w' g D' ∧ (∀ x, F' x → F x ∨ w.heap.size ≤ x) ∧ Turn F w w' := by
  rcases ha with ⟨hr, rfl, rfl, rfl⟩ | ⟨hr, hd, rfl, rfl⟩ | ⟨hr, hd, rfl, rfl, rfl⟩
  · refine (add_bad v d g w hv hf hr).mono ?_
    rintro e w' ⟨rfl, hb⟩
    exact ⟨F, rfl, h.next hb, fun _ hx => .inl hx, Turn.of hb⟩
  · refine (add_old v d n w h hv hd).mono ?_
    rintro e w' ⟨rfl, hb⟩
    exact ⟨F, rfl, h.next hb, fun _ hx => .inl hx, Turn.of hb⟩
  · exact (add_new v d w h hv hvF hr hd hl)

/-- the document's index in memory: its row, made since w0; the sets are those of w0 -/
structure Doc (w0 w : World) (mv : Value) (D : List (List Pr)) : Prop where
  own : ∃ us : List Value, us.length = D.length ∧ Own 62 1 w mv D.length us ∧ RowsTo w0 us D
  ge : ∀ b, mv.ownBlock = some b → w0.heap.size ≤ b
theorem Doc.rd {w0 : World} {mv : Value} (h : Doc w0 w mv D) (hb : Below w0.heap.size w0 w) : RdSets w mv D := by
  obtain ⟨⟨us, h1, h2, h3⟩, _⟩ := h
  exact ⟨us, h1, h2.rd, fun i u d hu hd => (h3 i u d hu hd).below hb⟩
theorem Doc.keep {w0 : World} {mv : Value} (h : Doc w0 w mv D) {G : Nat → Prop} (ht : Turn G w w') (hn : ∀ b, mv.ownBlock = some b → ¬ G b) : Doc w0 w' mv D := by
  obtain ⟨⟨us, h1, h2, h3⟩, h4⟩ := h
  exact ⟨⟨us, h1, own_keep ht h2 hn, h3⟩, h4⟩
theorem Doc.next {w0 : World} {mv : Value} (h : Doc w0 w mv D) (hb : Below w.heap.size w w') : Doc w0 w' mv D := h.keep (Turn.of (F := fun _ => False) hb) (fun _ _ h => h)
theorem doc0 (w0 w : World) : Doc w0 w (.slice none 0 0) [] := ⟨⟨[], rfl, own_nil w 62 1, fun i u x h => by simp at h⟩, fun b hb => by cases hb⟩

theorem refadd_any (mv v : Value) (d : List Pr) (n f : Nat) (w0 w : World) (hb0 : Below w0.heap.size w0 w) (hi : Doc w0 w mv D) (hv : RdP w0 v d) (hf : Fit d) (hok : ∀ d ∈ D, RightP d) (hnd : D.Nodup) (hl : D.length ≤ 60) (ha : AddsTo D d n f D') :
    Calls Try.prog 38 #[.agg #[mv], v] w fun e w' => ∃ mv', e = .returned (.tuple #[.int .i64 (n : Int), .int .i64 (f : Int), .agg #[mv']]) ∧ Doc w0 w' mv' D' ∧ (∀ b, mv'.ownBlock = some b → mv.ownBlock = some b ∨ w.heap.size ≤ b) ∧ Below w.heap.size w w' := by
  have hrd := hi.rd hb0
  have hvw := hv.below hb0
  rcases ha with ⟨hr, rfl, rfl, rfl⟩ | ⟨hr, hd, rfl, rfl⟩ | ⟨hr, hd, rfl, rfl, rfl⟩
  · refine (refadd_bad mv v d D' w hrd hvw hf hr).mono ?_
    rintro e w' ⟨rfl, hb⟩
    exact ⟨mv, rfl, hi.next hb, fun _ hx => .inl hx, hb⟩
  · refine (refadd_old mv v d n D' w hrd hvw hr hnd hd (by omega)).mono ?_
    rintro e w' ⟨rfl, hb⟩
    exact ⟨mv, rfl, hi.next hb, fun _ hx => .inl hx, hb⟩
  · obtain ⟨us, h1, h2, h3⟩ := hi.own
    refine (refadd_new mv v d D w0 w hb0 ⟨us, h1, h2.rd, h3⟩ hv hr hd hl).mono ?_
    rintro e w' ⟨mv', us', rfl, hm, h1, h2⟩
    exact ⟨mv', rfl, ⟨⟨us', by rw [h1, List.length_append]; rfl, by rw [List.length_append]; exact hm.1, h2⟩, fun b hb => Nat.le_trans hb0.size (hm.2.1 b hb)⟩, fun b hb => .inr (hm.2.1 b hb), hm.2.2⟩

/-- both indexes while they are made -/
structure Mk (w wr : World) (g : Nat) (F : Nat → Prop) (mv : Value) (D : List (List Pr)) : Prop where
  idx : Idx F wr g D
  Fge : ∀ x, F x → w.heap.size ≤ x
  doc : Doc w wr mv D
  docF : ∀ b, mv.ownBlock = some b → ¬ F b
  bel : Below w.heap.size w wr
theorem Idx.lt {w : World} (h : Idx F w g D) : ∀ x, F x → x < w.heap.size := by
  obtain ⟨sv, us, bm, pm, bf, Q, h, _⟩ := h
  exact h.lt
theorem Idx.ok {w : World} (h : Idx F w g D) : (∀ d ∈ D, RightP d) ∧ D.Nodup := by
  obtain ⟨sv, us, bm, pm, bf, Q, h, _⟩ := h
  exact ⟨h.ok, h.nodup⟩
theorem Mk.next {w wr w' : World} {mv : Value} (h : Mk w wr g F mv D) (hb : Below wr.heap.size wr w') : Mk w w' g F mv D :=
  ⟨h.idx.next hb, h.Fge, h.doc.next hb, h.docF, bel_trans h.bel hb⟩
theorem Mk.keep {w wr w' : World} {mv : Value} (h : Mk w wr g F mv D) {G : Nat → Prop} (ht : Turn G wr w') (h1 : ∀ x, F x → ¬ G x) (h2 : ∀ b, mv.ownBlock = some b → ¬ G b) (h3 : ∀ x, G x → w.heap.size ≤ x) : Mk w w' g F mv D :=
  ⟨h.idx.keep ht h1, h.Fge, h.doc.keep ht h2, h.docF, ((Turn.of (F := G) h.bel).trans ht (fun x hx => .inl hx)).bel (Nat.le_refl _) h3⟩

theorem own_two {e : TypeId} {v : Value} {n : Nat} {xs : List Value} (h : Own e 2 w v n xs) {j : Nat} (hj : j < n) :
    ∃ b cap y1 y2, v = .slice (some ⟨b, 0, none⟩) n cap ∧ w.cell? ⟨b, j * 2, none⟩ = some y1 ∧ w.cell? ⟨b, j * 2 + 1, none⟩ = some y2 ∧ w.frozen? ⟨b, j * 2, none⟩ = false ∧ w.frozen? ⟨b, j * 2 + 1, none⟩ = false ∧
      ∀ u1 u2, ∃ ys, Own e 2 ((w.setCell ⟨b, j * 2, none⟩ u1).setCell ⟨b, j * 2 + 1, none⟩ u2) v n ys := by
  have hxl := h.1
  obtain ⟨b, cap, rfl, hc1, hf1, hs1⟩ := own_place h (j := j * 2) (by omega)
  obtain ⟨b2, cap2, e2, hc2, hf2, _⟩ := own_place h (j := j * 2 + 1) (by omega)
  cases e2
  rw [List.getElem?_eq_getElem (by omega)] at hc1 hc2
  refine ⟨b, cap, _, _, rfl, hc1, hc2, hf1, hf2, fun u1 u2 => ?_⟩
  obtain ⟨b3, cap3, e3, _, _, hs3⟩ := own_place (hs1 u1) (j := j * 2 + 1) (by omega)
  cases e3
  exact ⟨_, hs3 u2⟩
set_option maxRecDepth 8000 in
set_option maxHeartbeats 4000000 in
theorem made_any (v : Value) (SS : List (List Pr)) (w : World) (hv : RdSets w v SS) (hf : ∀ d ∈ SS, Fit d ∧ d.length ≤ 4398046511104) :
    Calls Try.prog 17 #[v] w fun e w' => ∃ g F mv D, e = .returned (.tuple #[.pointer (some ⟨g, 0, none⟩), .agg #[mv], .bool true]) ∧ Mk w w' g F mv D ∧ D.length ≤ 60 := by
  obtain ⟨a, c, rfl, hca, hbig, hcell⟩ := hv.open
  have Hcell := Lib.hid hcell
  have HF := Lib.hid hf
  clear hv hf hcell
  go_enter Try.func17, Try.ntmps17
  go_wp2_with (first
    | (go_at_call 37; refine (new_any _).mono ?_; intro e w1 h1; obtain ⟨g, F, rfl, hi1, hge1, hb1⟩ := h1; have HI1 := Lib.hid hi1; have HG1 := Lib.hid hge1; have HB1 := Lib.hid hb1; clear hi1 hge1 hb1)
    | fail)
  have HB0 := Lib.hid (bel_trans (below_alloc w (.cells #[.slice none 0 0] 48)) HB1.out)
  have HM1 : Hid (Mk w (w1.alloc (.cells #[.slice none 0 0] 48)) g F (.slice none 0 0) []) := Lib.hid
    ⟨HI1.out.next (below_alloc _ _), fun x hx => by have := HG1.out x hx; simp only [World.size_alloc] at this; omega, doc0 w _, (fun b hb => by cases hb), bel_alloc HB0.out⟩
  have HZ1 := Lib.hid (((Blk.new w #[.slice none 0 0] 48).next HB1.out).next (below_alloc w1 (.cells #[.slice none 0 0] 48)))
  have HX1 := Lib.hid (Blk.new w1 #[.slice none 0 0] 48)
  have Hn3 : Hid (¬ F w.heap.size) := Lib.hid (fun h => by have := HG1.out _ h; simp only [World.size_alloc] at this; omega)
  have Hn6 : Hid (¬ F w1.heap.size) := Lib.hid (fun h => by have := HI1.out.lt _ h; omega)
  have h36 : w.heap.size < w1.heap.size := by have := HB1.out.size; simp only [World.size_alloc] at this; omega
  generalize hb6 : w1.heap.size = b6 at *
  generalize w1.alloc (.cells #[.slice none 0 0] 48) = w2 at *
  clear HI1 HG1 HB1 HB0 hb6
  go_loopw [7, 8, 9, 10, 11, 12, 13, 14, 15, 20] (fun _ _ _ _ _ _ _ _ _ i wr => ∃ (k : Nat) (F : Nat → Prop) (mv : Value) (D : List (List Pr)), k ≤ SS.length ∧ k ≤ 60 ∧ i = .int .i64 k ∧ Hid (Mk w wr g F mv D) ∧ Hid (D.length ≤ k) ∧ Hid (Blk wr w.heap.size #[.slice none 0 0] 48) ∧ Hid (Blk wr b6 #[mv] 48) ∧ Hid (¬ F w.heap.size) ∧ Hid (¬ F b6)) (fun _ _ _ _ _ _ _ _ _ i _ => SS.length - (intOf i).toNat)
  case atStart => exact ⟨0, F, _, [], by omega, by omega, rfl, HM1, Lib.hid (Nat.le_refl _), HZ1, HX1, Hn3, Hn6⟩
  case round =>
    clear HM1 HZ1 HX1 Hn3 Hn6
    obtain ⟨k, F, mv, D, hk, hk60, rfl, HM, HD, HZ, HX, Hn3, Hn6⟩ := hrel
    obtain ⟨us0, hus1, hus2, hus3⟩ := HM.out.doc.own
    obtain ⟨hcla, ma, mc, rfl, hclb⟩ := hus2.rd
    clear hus1 hus2 hus3 hcla hclb us0
    by_cases hend : k < SS.length ∧ k < 60
    · obtain ⟨hlt, h60⟩ := hend
      obtain ⟨d, hd⟩ : ∃ x, SS[k]? = some x := ⟨SS[k], List.getElem?_eq_getElem hlt⟩
      obtain ⟨b, o, u, rfl, lb, c0, hu⟩ := Hcell.out k d hd
      obtain ⟨ua, uc, rfl, _⟩ := hu.open
      have c0' : wr.cell? ⟨b, o + k, none⟩ = some (.slice ua d.length uc) := (HM.out.bel.cell (p := ⟨b, o + k, none⟩) lb).trans c0
      have HU := Lib.hid hu
      have HFd := Lib.hid (HF.out d (List.mem_of_getElem? hd))
      obtain ⟨n, f, D', hadd⟩ := adds_ex D d
      have HA := Lib.hid hadd
      have hk1 : (0 : Int) ≤ (k : Int) := by omega
      have hk2 : (k : Int) < (SS.length : Int) := by omega
      have d60 : decide (60 ≤ (k : Int)) = false := by simp only [decide_eq_false_iff_not]; omega
      have d60' : decide (60 ≤ k) = false := by simp only [decide_eq_false_iff_not]; omega
      clear c0 hu hd hadd
      go_wp2_with (first
        | (go_at_call 26; refine (to_any (.slice ua d.length uc) d _ (HU.out.below HM.out.bel) HFd.out.2).mono ?_; rintro e w3 ⟨v3, rfl, hm3⟩; obtain ⟨a3, c3, rfl, _⟩ := hm3.rd.open; have HM3 := Lib.hid hm3; clear hm3)
        | (go_at_call 25; refine (add_any (.slice a3 d.length c3) d n f _ (HM.out.next HM3.out.bel).idx HM3.out.rd HFd.out.1 (fun b hb hx => by have := HM3.out.2.1 b hb; have := HM.out.idx.lt b hx; omega) (by have := HD.out; omega) HA.out).mono ?_; rintro e w4 ⟨F4, rfl, hi4, hF4, ht4⟩; have HI4 := Lib.hid hi4; have HF4 := Lib.hid hF4; have HT4 := Lib.hid ht4; clear hi4 hF4 ht4)
        | fail)
      have HB3 := Lib.hid HM3.out.bel
      have HOKD : Hid ((∀ d ∈ D, RightP d) ∧ D.Nodup) := Lib.hid HM.out.idx.ok
      have HF4ge : Hid (∀ x, F4 x → w.heap.size ≤ x) := Lib.hid (fun x hx => by
        rcases HF4.out x hx with h | h
        · exact HM.out.Fge x h
        · have := HM.out.bel.size; have := HB3.out.size; omega)
      have HNi : Hid (∀ b, (Value.slice a3 d.length c3).ownBlock = some b → ¬ F b ∧ ¬ F4 b ∧ w.heap.size ≤ b) := Lib.hid (fun b hb => by
        have h1 := HM3.out.2.1 b hb
        have h2 := HM3.out.1.lt b hb
        have h3 := HM.out.bel.size
        have h4 : ¬ F b := fun hx => by have := HM.out.idx.lt b hx; omega
        refine ⟨h4, fun hx => ?_, by omega⟩
        rcases HF4.out b hx with h | h
        · exact h4 h
        · omega)
      have HNm : Hid (∀ b, (Value.slice ma D.length mc).ownBlock = some b → ¬ F4 b) := Lib.hid (fun b hb hx => by
        obtain ⟨us0, hus1, hus2, hus3⟩ := HM.out.doc.own
        have h1 := hus2.lt b hb
        have := HB3.out.size
        rcases HF4.out b hx with h | h
        · exact HM.out.docF b hb h
        · omega)
      have HDoc4 : Hid (Doc w w4 (.slice ma D.length mc) D) := Lib.hid ((HM.out.doc.next HB3.out).keep HT4.out HM.out.docF)
      have HZ4 := Lib.hid (blk_keep HT4.out (HZ.out.next HB3.out) Hn3.out)
      have HX4 := Lib.hid (blk_keep HT4.out (HX.out.next HB3.out) Hn6.out)
      have Hn34 : Hid (¬ F4 w.heap.size) := Lib.hid (fun hx => by
        rcases HF4.out _ hx with h | h
        · exact Hn3.out h
        · have := HZ.out.lt; have := HB3.out.size; omega)
      have Hn64 : Hid (¬ F4 b6) := Lib.hid (fun hx => by
        rcases HF4.out _ hx with h | h
        · exact Hn6.out h
        · have := HX.out.lt; have := HB3.out.size; omega)
      have HB4 : Hid (Below w.heap.size w w4) := Lib.hid (((Turn.of (F := F) (bel_trans HM.out.bel HB3.out)).trans HT4.out (fun x hx => .inl hx)).bel (Nat.le_refl _) HM.out.Fge)
      have HV4 : Hid (∃ xs, Own 75 2 w4 (.slice a3 d.length c3) d.length xs) := Lib.hid ⟨_, own_keep HT4.out HM3.out.1 (fun b hb => (HNi.out b hb).1)⟩
      have hd16 : d.length ≤ 4398046511104 := HFd.out.2
      clear HF4 HT4 HM3 HB3 HM HZ HX Hn3 Hn6 c0'
      go_loopw [12, 37] (fun _ i wr => ∃ j : Nat, j ≤ d.length ∧ i = .int .i64 j ∧ Hid (∃ xs, Own 75 2 wr (.slice a3 d.length c3) d.length xs) ∧ Hid (Turn (fun x => (Value.slice a3 d.length c3).ownBlock = some x) w4 wr)) (fun _ i _ => d.length - (intOf i).toNat)
      case atStart => exact ⟨0, by omega, rfl, HV4, Lib.hid (Turn.refl _ _)⟩
      case round =>
        obtain ⟨j, hj, rfl, HV, HT⟩ := hrel
        by_cases hlt : j < d.length
        · obtain ⟨xs, hx⟩ := HV.out
          obtain ⟨b1, cap1, y1, y2, e1, hc1, hc2, hf1, hf2, hset⟩ := own_two hx hlt
          cases e1
          have HS := Lib.hid (hset (.string ⟨#[101, 108, 115, 101]⟩) (.string ⟨#[120]⟩))
          have hj1 : (0 : Int) ≤ (j : Int) := by omega
          have hj2 : (j : Int) < (d.length : Int) := by omega
          clear hx hset HV4
          go_wp2_with fail
          go_roundw
          case rel => exact ⟨j + 1, by omega, by go_num, Lib.hid HS.out, Lib.hid ((HT.out.set (a := ⟨b1, j * 2, none⟩) rfl _).set (a := ⟨b1, j * 2 + 1, none⟩) rfl _)⟩
          case measure => simp [intOf]; omega
        · obtain rfl : d.length = j := by omega
          obtain ⟨w5, rfl⟩ : ∃ x, x = wr := ⟨_, rfl⟩
          have HI5 := Lib.hid (HI4.out.keep HT.out (fun x hx e => (HNi.out x e).2.1 hx))
          have HDoc5 : Hid (Doc w w5 (.slice ma D.length mc) D) := Lib.hid (HDoc4.out.keep HT.out (fun b hb e => by
            obtain ⟨us0, hus1, hus2, hus3⟩ := HDoc4.out.own
            obtain ⟨xs, hx⟩ := HV4.out
            exact own_apart hus2 hx (by decide) b hb e))
          have HZ5 := Lib.hid (blk_keep HT.out HZ4.out (fun e => by obtain ⟨xs, hx⟩ := HV4.out; exact own_no_blk hx HZ4.out (by decide) e))
          have HX5 := Lib.hid (blk_keep HT.out HX4.out (fun e => by obtain ⟨xs, hx⟩ := HV4.out; exact own_no_blk hx HX4.out (by decide) e))
          have HB5 : Hid (Below w.heap.size w w5) := Lib.hid (((Turn.of (F := fun x => (Value.slice a3 d.length c3).ownBlock = some x) HB4.out).trans HT.out (fun x hx => .inl hx)).bel (Nat.le_refl _) (fun x hx => (HNi.out x hx).2.2))
          have HOK5 : Hid ((∀ d ∈ D, RightP d) ∧ D.Nodup) := HOKD
          have hD60 : D.length ≤ 60 := by have := HD.out; omega
          have x6 : w5.cell? ⟨b6, 0, none⟩ = some (.slice ma D.length mc) := HX5.out.cell 0
          have hx6l := HX5.out.lt
          have HFl5 : Hid (∀ x, F4 x → x < w5.heap.size) := Lib.hid (fun x hx => HI5.out.lt x hx)
          clear HV HT HV4 HI4 HDoc4 HZ4 HX4 HB4
          go_wp2_with (first
            | (go_at_call 38; refine (refadd_any (.slice ma D.length mc) (.slice ua d.length uc) d n f w _ HB5.out HDoc5.out HU.out HFd.out.1 HOK5.out.1 HOK5.out.2 hD60 HA.out).mono ?_; rintro e w6 ⟨mv6, rfl, hd6, hn6, hb6'⟩; obtain ⟨us6, hu1, hu2, hu3⟩ := hd6.own; obtain ⟨hcl6, m6, c6, rfl, hcl7⟩ := hu2.rd; clear hcl6 hcl7 hu1 hu2 hu3; have HDoc6 := Lib.hid hd6; have HN6 := Lib.hid hn6; have HB6 := Lib.hid hb6'; have HX6 := Lib.hid (HX5.out.next hb6'); have x7 : w6.cell? ⟨b6, 0, none⟩ = some (.slice ma D.length mc) := HX6.out.cell 0; have x7f : w6.frozen? ⟨b6, 0, none⟩ = false := HX6.out.free 0; have hx7l := HX6.out.lt; clear hd6 hn6 hb6' us6)
            | fail)
          have HI6 := Lib.hid (HI5.out.next HB6.out)
          have HM6 : Hid (Mk w w6 g F4 (.slice m6 D'.length c6) D') := Lib.hid ⟨HI6.out, HF4ge.out, HDoc6.out, fun b hb hx => by
            rcases HN6.out b hb with h | h
            · exact HNm.out b h hx
            · have := HFl5.out b hx; omega, bel_trans HB5.out HB6.out⟩
          have HM7 : Hid (Mk w ((w6.setCell ⟨b6, 0, none⟩ (.slice m6 D'.length c6)).alloc (.cells #[.slice m6 D'.length c6] 48)) g F4 (.slice m6 D'.length c6) D') := Lib.hid
            ((HM6.out.keep (G := fun x => x = b6) ((Turn.refl (fun x => x = b6) w6).set (a := ⟨b6, 0, none⟩) rfl _) (fun x hx e => Hn64.out (e ▸ hx)) (fun b hb e => by
              obtain ⟨us6, hu1, hu2, hu3⟩ := HDoc6.out.own
              exact own_no_blk hu2 HX6.out (by decide) (by rw [hb, e])) (fun x hx => by omega)).next (below_alloc _ _))
          have HZ7 : Hid (Blk ((w6.setCell ⟨b6, 0, none⟩ (.slice m6 D'.length c6)).alloc (.cells #[.slice m6 D'.length c6] 48)) w.heap.size #[.slice none 0 0] 48) := Lib.hid (((HZ5.out.next HB6.out).other (by simp; omega) _).next (below_alloc _ _))
          have HX7 : Hid (Blk ((w6.setCell ⟨b6, 0, none⟩ (.slice m6 D'.length c6)).alloc (.cells #[.slice m6 D'.length c6] 48)) b6 #[.slice m6 D'.length c6] 48) := Lib.hid ((HX6.out.set 0 _).next (below_alloc _ _))
          have HD' : Hid (D'.length ≤ k + 1) := Lib.hid (by have := (adds_le HA.out).1; have := HD.out; omega)
          go_roundw
          case rel => exact ⟨k + 1, F4, _, D', by omega, by omega, by go_num, HM7, HD', HZ7, HX7, Hn34, Hn64⟩
          case measure => simp [intOf]; omega
    · have x6 : wr.cell? ⟨b6, 0, none⟩ = some (.slice ma D.length mc) := HX.out.cell 0
      have x3 : wr.cell? ⟨w.heap.size, 0, none⟩ = some (.slice none 0 0) := HZ.out.cell 0
      have x3f : wr.frozen? ⟨w.heap.size, 0, none⟩ = false := HZ.out.free 0
      have hx6l := HX.out.lt
      have hx3l := HZ.out.lt
      have HEnd : Hid (Mk w (wr.setCell ⟨w.heap.size, 0, none⟩ (.slice ma D.length mc)) g F (.slice ma D.length mc) D) := Lib.hid
        (HM.out.keep (G := fun x => x = w.heap.size) ((Turn.refl (fun x => x = w.heap.size) wr).set (a := ⟨w.heap.size, 0, none⟩) rfl _) (fun x hx e => Hn3.out (e ▸ hx)) (fun b hb e => by
          obtain ⟨us6, hu1, hu2, hu3⟩ := HM.out.doc.own
          exact own_no_blk hu2 HZ.out (by decide) (by rw [hb, e])) (fun x hx => by omega))
      have HD60 : Hid (D.length ≤ 60) := Lib.hid (by have := HD.out; omega)
      by_cases hlt : k < SS.length
      · have d60 : decide (60 ≤ (k : Int)) = true := by simp only [decide_eq_true_eq]; omega
        have d60' : decide (60 ≤ k) = true := by simp only [decide_eq_true_eq]; omega
        obtain ⟨d, hd⟩ : ∃ x, SS[k]? = some x := ⟨SS[k], List.getElem?_eq_getElem hlt⟩
        obtain ⟨b, o, u, rfl, lb, c0, hu⟩ := Hcell.out k d hd
        obtain ⟨ua, uc, rfl, _⟩ := hu.open
        have c0' : wr.cell? ⟨b, o + k, none⟩ = some (.slice ua d.length uc) := (HM.out.bel.cell (p := ⟨b, o + k, none⟩) lb).trans c0
        clear c0 hu hd hend
        go_wp2_with fail
        go_region
        all_goals
          go_wp2_with fail
          refine bodyPost_ret (v := .tuple #[.pointer (some ⟨g, 0, none⟩), .agg #[.slice ma D.length mc], .bool true]) (by simp [results, Try.results17, go_sem, *]) rfl ?_
          exact ⟨g, F, _, D, rfl, HEnd.out.next (bel_drew (bel_refl _)), HD60.out⟩
      · obtain rfl : k = SS.length := by omega
        clear hend
        go_wp2_with fail
        go_region
        all_goals
          go_wp2_with fail
          refine bodyPost_ret (v := .tuple #[.pointer (some ⟨g, 0, none⟩), .agg #[.slice ma D.length mc], .bool true]) (by simp [results, Try.results17, go_sem, *]) rfl ?_
          exact ⟨g, F, _, D, rfl, HEnd.out.next (bel_drew (bel_refl _)), HD60.out⟩

/-! ### the document's example -/
def pA : Pr := ⟨⟨#[97]⟩, ⟨#[49]⟩⟩
def rA : Rl := ⟨⟨#[97]⟩, 1, ⟨#[]⟩⟩
theorem name_a : NameP [97] := by
  refine ⟨by simp, by simp, fun j hj => ?_⟩
  match j, hj with
  | 0, _ => exact .inl (show letter 97 = true by decide)
theorem val_1 : ValP [49] := by
  refine ⟨by simp, by simp, fun j hj => ?_⟩
  match j, hj with
  | 0, _ => exact (show 32 ≤ (49 : UInt8).toNat ∧ (49 : UInt8).toNat ≤ 126 by decide)
theorem right_pA : RightP [pA] := by
  refine ⟨by simp, fun i hi => ?_⟩
  match i, hi with
  | 0, _ => exact ⟨⟨name_a, val_1⟩, fun j hj e => by omega⟩
theorem right_nil : RightP [] := ⟨by simp, fun i hi => by simp at hi⟩
theorem right_rA : RightR [rA] := by
  refine ⟨by simp, fun r hr => ?_⟩
  rw [List.mem_singleton.1 hr]
  exact ⟨name_a, by decide, by decide, .inl rfl⟩
theorem found_A : foundL [rA] [[pA], []] = [1] := by
  have h0 : hitB [rA] [[pA], []] 0 = false := by
    simp [hitB, inOf, allB, holdsB, rA, pA, getL]
  have h1 : hitB [rA] [[pA], []] 1 = true := by
    simp [hitB, inOf, allB, holdsB, rA, getL]
  simp [foundL, foundTo, List.range_succ, h0, h1]
theorem adds_A : AddsTo [] [pA] 0 0 [[pA]] := .inr (.inr ⟨right_pA, by simp, rfl, rfl, rfl⟩)
theorem adds_B : AddsTo [[pA]] [] 1 0 [[pA], []] := .inr (.inr ⟨right_nil, by simp, rfl, rfl, rfl⟩)
theorem rdP_nil (w : World) : RdP w (.slice none 0 0) [] := ⟨rfl, none, 0, rfl, Nat.le_refl _, by simp [maxLen], fun _ => rfl, fun j u hj => by simp [flatP] at hj⟩
theorem fit_nil : Fit [] := fun p hp => by cases hp
set_option maxRecDepth 8000 in
set_option maxHeartbeats 4000000 in
theorem awake_any (w : World) (hg : Glob w) : Calls Try.prog 18 #[] w fun e w' => e = .returned (.bool true) ∧ Below w.heap.size w w' := by
  have HG := Lib.hid hg
  clear hg
  go_enter Try.func18, Try.ntmps18
  go_wp2_with (first
    | (go_at_call 37; refine (new_any _).mono ?_; intro e w1 h1; obtain ⟨g, F, rfl, hi1, hge1, hb1⟩ := h1; have HI1 := Lib.hid hi1; have HG1 := Lib.hid hge1; have HB1 := Lib.hid hb1; clear hi1 hge1 hb1)
    | fail)
  refine (add_any (.slice (some ⟨w1.heap.size, 0, none⟩) 1 1) [pA] 0 0 _ (HI1.out.next (below_alloc _ _)) (rd_lit 2 #[.string ⟨#[97]⟩, .string ⟨#[49]⟩] 1 rfl one_le rfl) (right_fit right_pA) (fun b hb hx => by
    injection hb with hb
    have := HI1.out.lt b hx
    simp only at hb
    omega) (by simp) adds_A).mono ?_
  rintro e w2 ⟨F2, rfl, hi2, hF2, ht2⟩
  have HI2 := Lib.hid hi2
  have HF2 : Hid (∀ x, F2 x → w.heap.size ≤ x) := Lib.hid (fun x hx => by
    have h3 := HB1.out.size
    rcases hF2 x hx with h | h
    · exact HG1.out x h
    · simp only [World.size_alloc] at h; omega)
  have HB2 : Hid (Below w.heap.size w w2) := Lib.hid (((Turn.of (F := F) (bel_trans HB1.out (below_alloc w1 (.cells #[.string ⟨#[97]⟩, .string ⟨#[49]⟩] 75)))).trans ht2 (fun x hx => .inl hx)).bel (Nat.le_refl _) HG1.out)
  clear hi2 hF2 ht2 HI1 HG1 HB1
  go_wp2_with fail
  refine (add_any (.slice none 0 0) [] 1 0 _ HI2.out (rdP_nil _) fit_nil (fun b hb => by cases hb) (by simp) adds_B).mono ?_
  rintro e w3 ⟨F3, rfl, hi3, hF3, ht3⟩
  have HI3 := Lib.hid hi3
  have HB3 : Hid (Below w.heap.size w w3) := Lib.hid (((Turn.of (F := F2) HB2.out).trans ht3 (fun x hx => .inl hx)).bel (Nat.le_refl _) HF2.out)
  clear hi3 hF3 ht3 HI2 HF2 HB2
  go_wp2_with fail
  refine (rto_any (.slice (some ⟨w3.heap.size, 0, none⟩) 1 1) [rA] _ (rd_lit 3 #[.string ⟨#[97]⟩, .int .i64 1, .string ⟨#[]⟩] 1 rfl one_le rfl) (by simp)).mono ?_
  rintro e w4 ⟨v4, rfl, hm4⟩
  obtain ⟨a4, c4, rfl, _⟩ := hm4.rd.open
  have HM4 := Lib.hid hm4
  have HB4 := Lib.hid (bel_trans (bel_trans HB3.out (below_alloc w3 (.cells #[.string ⟨#[97]⟩, .int .i64 1, .string ⟨#[]⟩] 96))) hm4.2.2)
  have HI4 := Lib.hid (HI3.out.next (bel_trans (below_alloc w3 (.cells #[.string ⟨#[97]⟩, .int .i64 1, .string ⟨#[]⟩] 96)) hm4.2.2))
  clear hm4
  go_wp2_with fail
  refine (find_yes (.slice a4 [rA].length c4) [rA] _ HI4.out HM4.out.rd (fun r hr => by rw [List.mem_singleton.1 hr]; exact ⟨by simp [rA, ByteArray.size, maxLen], by simp [rA, ByteArray.size, maxLen]⟩) right_rA (HG.out.below HB4.out) (by simp)).mono ?_
  rintro e w5 ⟨v5, rfl, hm5⟩
  rw [found_A] at hm5
  obtain ⟨_, a5, c5, rfl, _, _, _, h5⟩ := hm5.rd
  obtain ⟨b5, o5, rfl, hc5⟩ := h5 0 (.int .i64 1) rfl
  have HB5 := Lib.hid (bel_trans HB4.out hm5.2.2)
  simp only [Nat.add_zero] at hc5
  clear hm5 h5
  go_wp2_with fail
  go_ret
  exact ⟨rfl, HB5.out⟩
end Go.Proofs.Ytmmilgcbjpbelaa
