/- maps.DeleteFunc (59) at the pins, and what it asks (60). -/
import Derived.Test.YtbaflgddpciadaaGreatEB
set_option linter.unusedVariables false
set_option linter.unusedSimpArgs false
namespace Go.Proofs.YtbaflgddpciadaaGreat
open Go.RowKit Go.Kt Go.Ix Go.Sx Go.Cx
set_option maxRecDepth 100000
variable {F : Nat → Prop} {w w' : World} {c N : Nat} {C : Cl} {p : Cp}
theorem litP_inj {a b : Int} (h : litP a = litP b) : a = b := by unfold litP at h; injection h
set_option maxHeartbeats 1000000 in
theorem delq_any (x : Pi) (n T : Int) (w : World) (cc c : Nat) (h1 : w.cell? ⟨cc, 0, none⟩ = some (.pointer (some ⟨c, 0, none⟩))) (h2 : w.cell? ⟨c, 13, none⟩ = some (.int .i64 T)) :
    Calls Tryz.prog 60 #[.int .i64 n, pval x, .pointer (some ⟨cc, 0, none⟩)] w fun e w' => e = .returned (.bool (decide (x.until_ ≤ T))) ∧ Below w.heap.size w w' := by
  obtain ⟨id, ⟨aw, at1, am⟩, u⟩ := x
  unfold pval
  simp only
  have HX := Lib.hid (Blk.new w #[.int .i64 aw, .int .u32 at1, .int .u32 am, .int .i64 u] 149)
  have HB0 := Lib.hid (below_alloc w (.cells #[.int .i64 aw, .int .u32 at1, .int .u32 am, .int .i64 u] 149))
  have hcl := World.block_lt_of_cell? w ⟨c, 13, none⟩ h2
  have hccl := World.block_lt_of_cell? w ⟨cc, 0, none⟩ h1
  have H1 : Hid (∀ W, Below w.heap.size w W → W.cell? ⟨cc, 0, none⟩ = some (.pointer (some ⟨c, 0, none⟩)) ∧ W.cell? ⟨c, 13, none⟩ = some (.int .i64 T)) := Lib.hid (fun W hW => ⟨(hW.cell hccl).trans h1, (hW.cell hcl).trans h2⟩)
  clear h1 h2
  go_enter Tryz.func60, Tryz.ntmps60
  go_upto_region 1 with fail
  generalize w.alloc (.cells #[.int .i64 aw, .int .u32 at1, .int .u32 am, .int .i64 u] 149) = w1 at HX HB0 ⊢
  have x3 : w1.cell? ⟨w.heap.size, 3, none⟩ = some (.int .i64 u) := HX.out.cell 3
  obtain ⟨a1, a2⟩ := H1.out w1 HB0.out
  go_region
  go_wp2_with fail
  go_ret
  exact ⟨rfl, bel_drew HB0.out⟩
/-- the pins while those that have run out go -/
structure Strk (T : Int) (P : List Pi) (fc : Lit → Option Value) (left : Lit → Bool) (D : DataW Value) : Prop where
  say : SayD D fc
  size : Maps.size D = (P.filter fun x => left (litP x.id) || decide (T < x.until_)).length
  has : ∀ x ∈ P, (left (litP x.id) || decide (T < x.until_)) = true → fc (litP x.id) = some (pval x)
  all : ∀ k v, fc k = some v → ∃ x ∈ P, k = litP x.id ∧ v = pval x ∧ (left (litP x.id) || decide (T < x.until_)) = true
  sub : ∀ k, left k = true → ∃ x ∈ P, k = litP x.id
theorem pairs_inj {P : List Pi} (h : P.Pairwise (fun a b => a.id ≠ b.id)) {a b : Pi} (ha : a ∈ P) (hb : b ∈ P) (e : a.id = b.id) : a = b := by
  obtain ⟨i, hi, rfl⟩ := List.getElem_of_mem ha
  obtain ⟨j, hj, rfl⟩ := List.getElem_of_mem hb
  have hp := List.pairwise_iff_getElem.1 h
  rcases Nat.lt_trichotomy i j with h1 | h1 | h1
  · exact absurd e (hp i j hi hj h1)
  · subst h1; rfl
  · exact absurd e.symm (hp j i hj hi h1)
theorem filter_one {P : List Pi} (h : P.Pairwise (fun a b => a.id ≠ b.id)) {x : Pi} (hx : x ∈ P) {f g : Pi → Bool} (h1 : f x = true) (h2 : g x = false) (h3 : ∀ y ∈ P, y.id ≠ x.id → g y = f y) : (P.filter g).length + 1 = (P.filter f).length := by
  induction P with
  | nil => cases hx
  | cons a P ih =>
    obtain ⟨p1, p2⟩ := List.pairwise_cons.1 h
    rcases List.mem_cons.1 hx with rfl | hx
    · have : P.filter g = P.filter f := List.filter_congr (fun y hy => h3 y (List.mem_cons_of_mem _ hy) (fun e => p1 y hy e.symm))
      rw [List.filter_cons, if_neg (by simp [h2]), List.filter_cons, if_pos h1, this]; rfl
    · have := ih p2 hx (fun y hy => h3 y (List.mem_cons_of_mem _ hy))
      rw [List.filter_cons, List.filter_cons, h3 a (List.mem_cons_self ..) (p1 x hx)]
      split
      · simp only [List.length_cons]; omega
      · exact this
theorem Strk.start {T : Int} {w : World} {pm : Nat} {P : List Pi} {f : Lit → Option Value} (h : PinsAt w pm P f) {D : DataW Value} (hD : SayD D f) (hs : Maps.size D = P.length) : Strk T P f (fun k => (f k).isSome) D := by
  have hall : ∀ x ∈ P, (f (litP x.id)).isSome = true := fun x hx => by rw [h.has x hx]; rfl
  refine ⟨hD, ?_, fun x hx _ => h.has x hx, fun k v hv => ?_, fun k hk => ?_⟩
  · rw [hs, List.filter_eq_self.2 (fun x hx => by simp [hall x hx])]
  · obtain ⟨x, hx, e1, e2⟩ := h.all k v hv
    exact ⟨x, hx, e1, e2, by simp [hall x hx]⟩
  · obtain ⟨v, hv⟩ := Option.isSome_iff_exists.1 hk
    obtain ⟨x, hx, e1, -⟩ := h.all k v hv
    exact ⟨x, hx, e1⟩
theorem left_other {left : Lit → Bool} {x y : Pi} (h : y.id ≠ x.id) : (left (litP y.id) && !(litP y.id).sameKey (litP x.id)) = left (litP y.id) := by
  rw [same_litP, decide_eq_false h]; simp
theorem left_self {left : Lit → Bool} {x : Pi} : (left (litP x.id) && !(litP x.id).sameKey (litP x.id)) = false := by
  rw [same_litP, decide_eq_true rfl]; simp
theorem Strk.stays {T : Int} {P : List Pi} {fc : Lit → Option Value} {left : Lit → Bool} {D : DataW Value} (hp : P.Pairwise (fun a b => a.id ≠ b.id)) (h : Strk T P fc left D) {x : Pi} (hx : x ∈ P) (hu : T < x.until_) : Strk T P fc (fun k => left k && !k.sameKey (litP x.id)) D := by
  have key : ∀ y ∈ P, ((left (litP y.id) && !(litP y.id).sameKey (litP x.id)) || decide (T < y.until_)) = (left (litP y.id) || decide (T < y.until_)) := fun y hy => by
    by_cases hi : y.id = x.id
    · have := pairs_inj hp hy hx hi
      subst this
      simp [hu]
    · rw [left_other hi]
  refine ⟨h.say, ?_, fun y hy e => ?_, fun k v hv => ?_, fun k hk => ?_⟩
  · rw [h.size, List.filter_congr (fun y hy => (key y hy).symm)]
  · exact h.has y hy (by rw [← key y hy]; exact e)
  · obtain ⟨y, hy, e1, e2, e3⟩ := h.all k v hv
    exact ⟨y, hy, e1, e2, by rw [← e3]; exact key y hy⟩
  · simp only [Bool.and_eq_true] at hk
    exact h.sub k hk.1
theorem Strk.goes {T : Int} {P : List Pi} {fc : Lit → Option Value} {left : Lit → Bool} {D : DataW Value} (hp : P.Pairwise (fun a b => a.id ≠ b.id)) (h : Strk T P fc left D) (hD : Maps.Tidy D) {x : Pi} (hx : x ∈ P) (hu : ¬ T < x.until_) (hl : left (litP x.id) = true) :
    Strk T P (cutF fc (litP x.id)) (fun k => left k && !k.sameKey (litP x.id)) (D.del (litP x.id)) := by
  have hf := h.has x hx (by simp [hl])
  refine ⟨h.say.del _, ?_, fun y hy e => ?_, fun k v hv => ?_, fun k hk => ?_⟩
  · have h1 := Maps.size_del (k := litP x.id) hD
    rw [h.say.has, hf, Option.isSome_some, if_pos rfl, h.size] at h1
    have h2 := filter_one hp hx (f := fun y => left (litP y.id) || decide (T < y.until_)) (g := fun y => (left (litP y.id) && !(litP y.id).sameKey (litP x.id)) || decide (T < y.until_)) (by simp [hl]) (by show ((left (litP x.id) && !(litP x.id).sameKey (litP x.id)) || decide (T < x.until_)) = false; rw [left_self, decide_eq_false hu]; rfl) (fun y hy hi => by
      show ((left (litP y.id) && !(litP y.id).sameKey (litP x.id)) || decide (T < y.until_)) = _
      rw [left_other hi])
    omega
  · by_cases hi : y.id = x.id
    · have := pairs_inj hp hy hx hi
      subst this
      rw [left_self, decide_eq_false hu] at e
      cases e
    · rw [left_other hi] at e
      rw [cutF_other _ (fun e2 => hi (litP_inj e2))]
      exact h.has y hy e
  · by_cases hk : k = litP x.id
    · rw [hk, cutF_same] at hv; cases hv
    · rw [cutF_other _ hk] at hv
      obtain ⟨y, hy, e1, e2, e3⟩ := h.all k v hv
      have hi : y.id ≠ x.id := fun e => hk (by rw [e1, e])
      exact ⟨y, hy, e1, e2, by show ((left (litP y.id) && !(litP y.id).sameKey (litP x.id)) || decide (T < y.until_)) = true; rw [left_other hi]; exact e3⟩
  · simp only [Bool.and_eq_true] at hk
    exact h.sub k hk.1
theorem Strk.done {T : Int} {w : World} {pm n : Nat} {P : List Pi} {fc : Lit → Option Value} {left : Lit → Bool} {D : DataW Value} (h : Strk T P fc left D) (hl : ∀ k, left k = false) (ho : w.ownsMap Tryz.prog 3 anyElem pm n D) : PinsAt w pm (P.filter fun x => decide (T < x.until_)) fc := by
  have hc : (fun x : Pi => left (litP x.id) || decide (T < x.until_)) = fun x => decide (T < x.until_) := funext fun x => by rw [hl]; rfl
  refine ⟨by have := h.say.map ho; rw [h.size, hc] at this; exact this, fun k v hv => ?_, fun x hx => ?_⟩
  · obtain ⟨x, hx, e1, e2, e3⟩ := h.all k v hv
    rw [hl] at e3
    exact ⟨x, List.mem_filter.2 ⟨hx, by simpa using e3⟩, e1, e2⟩
  · obtain ⟨h1, h2⟩ := List.mem_filter.1 hx
    exact h.has x h1 (by rw [h2]; simp)
set_option maxHeartbeats 4000000 in
theorem delf_any (T : Int) (w : World) (pm : Nat) (P : List Pi) (f : Lit → Option Value) (cb : Array Value) (h : PinsAt w pm P f) (hp : P.Pairwise (fun a b => a.id ≠ b.id))
    (hq : ∀ W, Turn (fun x => x = pm) w W → ∀ x n, Calls Tryz.prog 60 (#[.int .i64 n, pval x] ++ cb) W fun e w' => e = .returned (.bool (decide (x.until_ ≤ T))) ∧ Below W.heap.size W w') :
    Calls Tryz.prog 59 #[.map (some pm), .func (.func 60) #[] cb] w fun e w' => e = .returned (.tuple #[]) ∧ (∃ f', PinsAt w' pm (P.filter fun x => decide (T < x.until_)) f') ∧ Turn (fun x => x = pm) w w' := by
  have H := Lib.hid h
  have HQ := Lib.hid hq
  have HPp := Lib.hid hp
  obtain ⟨D0, hD, hsz, hcf⟩ := H.out.map
  have hS0 : Strk T P f (Maps.has D0) D0 := by
    have hs : SayD D0 f := hcf
    rw [show Maps.has D0 = fun k => (f k).isSome from funext fun k => hs.has k]
    exact Strk.start H.out hs hsz
  have HS0 := Lib.hid hS0
  have hown := hD
  clear h hq hp hD hcf hS0
  go_enter Tryz.func59, Tryz.ntmps59
  go_wp2_with (first
    | (at_range; refine wpList_range_own _ rfl _ 137 rfl 3 149 key3 Tryz.underlying137 _ pm P.length D0 rfl hown ?_; intro w0 hrg0 hg0 hs0)
    | fail)
  have HT0 : Hid (Turn (fun x => x = pm) w w0) := Lib.hid (Turn.grown hg0 (fun b e => by cases e))
  clear hown hg0 hs0 hsz
  go_frame
  go_loopw [4] (fun _ wr => ∃ (D : DataW Value) (left : Lit → Bool) (cnt : Nat) (fc : Lit → Option Value), wr.ranges Tryz.prog 3 anyElem pm w.heap.size P.length D left cnt ∧ Hid (Strk T P fc left D) ∧ Hid (Turn (fun x => x = pm) w wr)) (fun _ wr => wr.rangeLeft pm w.heap.size)
  case atStart => exact ⟨_, _, _, _, hrg0, HS0, HT0⟩
  case round =>
    clear hrg0 HS0 HT0
    obtain ⟨D, left, cnt, fc, hrg, HS, HT⟩ := hrel
    obtain ⟨wo, rfl⟩ : ∃ wo, wo = wr := ⟨_, rfl⟩
    go_wp2_with (first
      | (at_next; refine wpList_next_ranges _ rfl _ rfl 3 key3 anyElem (Value.int .i64) (fun v : Value => v) (fun key kl h => by obtain ⟨x, e, _⟩ := Maps.keyOf_int_inv Tryz.underlying3 h; exact ⟨x, e⟩) (fun v y h => ⟨v, rfl⟩) pm w.heap.size P.length D left cnt rfl hrg ?_ ?_)
      | fail)
    · intro hc0 hl0
      have HD := Lib.hid (HS.out.done hl0 hrg.owns)
      clear hrg
      go_wp2_with fail
      go_end0
      exact ⟨rfl, ⟨_, HD.out⟩, HT.out⟩
    · intro x cv kk yd yp w2 cnt2 hkey hlk hv hat hrg2 hlt hg2 hs2 hen
      obtain ⟨x', ex, hx', hwx⟩ := Maps.keyOf_int_inv Tryz.underlying3 hkey
      cases ex
      subst hx'
      obtain ⟨q, hqm, hid⟩ := HS.out.sub _ hlk
      have hid' := litP_inj (a := x) hid
      subst hid'
      have hfc : fc (litP q.id) = some (pval q) := HS.out.has q hqm (by have e : left (litP q.id) = true := hlk; rw [e]; rfl)
      have hd : Maps.has D (litP q.id) = true := by rw [HS.out.say.has, hfc]; rfl
      have hcv : cv = pval q := by
        have e : fc (litP q.id) = some cv := entry_any HS.out.say hd hv hat
        rw [hfc] at e
        injection e with e
        exact e.symm
      subst hcv
      have HT2 := Lib.hid (HT.out.trans (Turn.grown (F := fun x => x = w.heap.size) hg2 (fun b e => by injection e with e; exact e.symm)) (fun x hx => .inr (by omega)))
      have Hmeas : Hid (cnt2 < wo.rangeLeft pm w.heap.size) := Lib.hid (by rw [hrg.left_eq]; exact hlt)
      have HR2 := Lib.hid hrg2
      have Hlk : Hid (left (litP q.id) = true) := Lib.hid hlk
      have Hqm := Lib.hid hqm
      have HQq := Lib.hid (fun W hW => HQ.out W hW q q.id)
      have HSt := Lib.hid (fun hu => HS.out.stays HPp.out hqm (x := q) hu)
      have HGo := Lib.hid (fun hu => HS.out.goes HPp.out (hrg2.owns.tidy key3) hqm (x := q) hu hlk)
      have Hwx := Lib.hid hwx
      have Hpl := Lib.hid hrg2.owns.lt
      have Hrl := Lib.hid hrg2.lt
      obtain ⟨qi, ⟨qw, qt, qm⟩, qu⟩ := q
      unfold pval at hen HQq
      simp only at hen HQq HSt HGo
      clear hd hfc hkey hlk hv hat hrg2 hlt hg2 hs2 hrg hqm hwx hid
      go_upto_region 3 with fail
      have HB2 := Lib.hid (below_alloc w2 (.cells #[.int .i64 qw, .int .u32 qt, .int .u32 qm, .int .i64 qu] 149))
      have HX := Lib.hid (Blk.new w2 #[.int .i64 qw, .int .u32 qt, .int .u32 qm, .int .i64 qu] 149)
      generalize w2.alloc (.cells #[.int .i64 qw, .int .u32 qt, .int .u32 qm, .int .i64 qu] 149) = w3 at HB2 HX ⊢
      generalize w2.heap.size = g at HX ⊢
      have x0 : w3.cell? ⟨g, 0, none⟩ = some (.int .i64 qw) := HX.out.cell 0
      have x1 : w3.cell? ⟨g, 1, none⟩ = some (.int .u32 qt) := HX.out.cell 1
      have x2 : w3.cell? ⟨g, 2, none⟩ = some (.int .u32 qm) := HX.out.cell 2
      have x3 : w3.cell? ⟨g, 3, none⟩ = some (.int .i64 qu) := HX.out.cell 3
      clear hen
      have HT3 : Hid (Turn (fun x => x = pm) w w3) := Lib.hid (HT2.out.trans (Turn.of (F := fun _ => False) HB2.out) (fun _ h => h.elim))
      have HR3 := Lib.hid (ranges_keep (G := fun _ => False) HR2.out (Turn.of HB2.out) (fun e => e) (fun e => e))
      have hcall := HQq.out w3 HT3.out
      by_cases hu : T < qu
      · have hdf : decide (qu ≤ T) = false := decide_eq_false (by omega)
        rw [hdf] at hcall
        have HSs := Lib.hid (HSt.out hu)
        clear hu hdf
        go_wp2_with (first
          | ((first | go_at_fn 60 | go_at_call 60); refine hcall.mono ?_; rintro e w4 ⟨rfl, hb4⟩; have HB4 := Lib.hid hb4; clear hb4)
          | fail)
        go_roundw
        case rel => exact ⟨_, _, cnt2, _, ranges_keep (G := fun _ => False) HR3.out (Turn.of HB4.out) (fun e => e) (fun e => e), HSs, Lib.hid (HT3.out.trans (Turn.of (F := fun _ => False) HB4.out) (fun _ h => h.elim))⟩
        case measure => rw [World.ranges.left_eq (ranges_keep (G := fun _ => False) HR3.out (Turn.of HB4.out) (fun e => e) (fun e => e))]; exact Hmeas.out
      · have hdf : decide (qu ≤ T) = true := decide_eq_true (by omega)
        rw [hdf] at hcall
        have HSg := Lib.hid (HGo.out hu)
        clear hu hdf
        go_wp2_with (first
          | ((first | go_at_fn 60 | go_at_call 60); refine hcall.mono ?_; rintro e w4 ⟨rfl, hb4⟩; have hrg4 := ranges_keep (G := fun _ => False) HR3.out (Turn.of hb4) (fun e => e) (fun e => e); have HT4 : Hid (Turn (fun x => x = pm) w w4) := Lib.hid (HT3.out.trans (Turn.of (F := fun _ => False) hb4) (fun _ h => h.elim)); clear hb4)
          | (at_delete; refine wpList_delete_ranges _ rfl _ _ 137 3 rfl 149 key3 Tryz.underlying137 anyElem pm w.heap.size P.length _ _ _ rfl hrg4 _ _ rfl (Maps.keyOf_int_mk Tryz.underlying3 Hwx.out) ?_; intro w5 cnt5 hrg5 hle5 hturn5; rw [Maps.strike_twice] at hrg5; have HT5 : Hid (Turn (fun x => x = pm) w w5) := Lib.hid (HT4.out.trans (Turn.grown (F := fun x => x = pm) hturn5.grown (fun b e => by injection e with e; exact e.symm)) (fun _ h => .inl h)); go_frame)
          | fail)
        go_roundw
        case rel => exact ⟨_, _, cnt5, _, hrg5, HSg, HT5⟩
        case measure => rw [hrg5.left_eq]; exact Nat.lt_of_le_of_lt hle5 Hmeas.out
end Go.Proofs.YtbaflgddpciadaaGreat
