/- Chains in memory; where a stamp stands: slices.BinarySearchFunc (91), chain.place (65). Chains: place (65), Clone (69), Get (37), Cut (46). Chains: Cut (46). -/
import Derived.Test.YtbaflgddpciadaaGreatI9
set_option linter.unusedVariables false
set_option linter.unusedSimpArgs false
namespace Go.Proofs.YtbaflgddpciadaaGreat
open Go.RowKit Go.Kt Go.Ix Go.Sx
set_option maxRecDepth 100000

/-- the worlds in which what lay stands -/
structure GrownOf (w : World) where
  W : World
  b : Below w.heap.size w W
instance (w : World) : Nonempty (GrownOf w) := ⟨⟨w, bel_refl w⟩⟩
/-- a region that draws its order and whose operations and callees leave what lay as it was: one walk in the order of the text -/
theorem wp_region_grown {P : Program} {id : Nat} {Q : Exit → Act → World → Prop} {a : Act} {w : World} {l : List Oper} (hm : P.follows .mixedOrders = true) (hB : Region.lexB .any l.toArray = true)
    (h : wpQuiet P l.toArray (fun w' => ∃ g : GrownOf w, w' = g.W) (fun a' => ∀ w', (∃ g : GrownOf w, w' = g.W) → Q .normal a' w') l a) : (Code.region id l.toArray true).wp P Q a w :=
  wp_region_quiet (C := fun w' => ∃ g : GrownOf w, w' = g.W) hm hB ⟨⟨_, bel_drewN (bel_refl w) 1⟩, rfl⟩ (by simpa using h)

/-! ### chains in memory -/
def vcells (v : Ver) : List Value := [.int .i64 v.at_.wall, .int .u32 v.at_.tick, .int .u32 v.at_.mark, .int .i64 v.kind, .int .i64 v.num, .string v.text]
def flatV : List Ver → List Value
  | [] => []
  | v :: t => vcells v ++ flatV t
theorem flatV_len (T : List Ver) : (flatV T).length = T.length * 6 := by
  induction T with
  | nil => rfl
  | cons x t ih => simp only [flatV, vcells, List.length_append, List.length_cons, List.length_nil, ih]; omega
theorem flatV_append (T S : List Ver) : flatV (T ++ S) = flatV T ++ flatV S := by
  induction T with
  | nil => rfl
  | cons x t ih => simp only [List.cons_append, flatV, ih, List.append_assoc]
theorem flatV_one (T : List Ver) : ∀ u ∈ flatV T, u.oneCell' = true := by
  induction T with
  | nil => intro u hu; simp [flatV] at hu
  | cons y t ih =>
    intro u hu
    simp only [flatV, List.mem_append, vcells, List.mem_cons, List.not_mem_nil, or_false] at hu
    rcases hu with (rfl | rfl | rfl | rfl | rfl | rfl) | hu
    · rfl
    · rfl
    · rfl
    · rfl
    · rfl
    · rfl
    · exact ih u hu
theorem flatV_take (T : List Ver) (k : Nat) : flatV (T.take k) = (flatV T).take (k * 6) := by
  induction T generalizing k with
  | nil => simp [flatV]
  | cons x t ih =>
    cases k with
    | zero => simp [flatV]
    | succ k =>
      rw [List.take_succ_cons, flatV, flatV, ih k, List.take_append]
      have e : (vcells x).length = 6 := rfl
      rw [e, List.take_of_length_le (l := vcells x) (by rw [e]; omega), show (k + 1) * 6 - 6 = k * 6 by omega]
theorem flatV_drop (T : List Ver) (k : Nat) : flatV (T.drop k) = (flatV T).drop (k * 6) := by
  induction T generalizing k with
  | nil => simp [flatV]
  | cons x t ih =>
    cases k with
    | zero => simp [flatV]
    | succ k =>
      rw [List.drop_succ_cons, flatV, ih k, List.drop_append]
      have e : (vcells x).length = 6 := rfl
      rw [e, List.drop_of_length_le (l := vcells x) (by rw [e]; omega), show (k + 1) * 6 - 6 = k * 6 by omega, List.nil_append]
theorem flatV_get (T : List Ver) : ∀ (i : Nat) (x : Ver), T[i]? = some x → ∀ j u, (vcells x)[j]? = some u → (flatV T)[i * 6 + j]? = some u := by
  induction T with
  | nil => intro i x h; simp at h
  | cons y t ih =>
    intro i x h j u hj
    have hj6 : j < 6 := (List.getElem?_eq_some_iff.1 hj).1
    match i with
    | 0 =>
      simp at h; subst h
      rw [flatV, Nat.zero_mul, Nat.zero_add, List.getElem?_append_left hj6]
      exact hj
    | i + 1 =>
      simp only [List.getElem?_cons_succ] at h
      rw [flatV, List.getElem?_append_right (by show 6 ≤ _; omega), show (i + 1) * 6 + j - (vcells y).length = i * 6 + j by show _ - 6 = _; omega]
      exact ih i x h j u hj
def RdV (w : World) (v : Value) (l : List Ver) : Prop := RdRow 6 w v l.length (flatV l)
def OwnV (e : TypeId) (w : World) (v : Value) (l : List Ver) : Prop := Own e 6 w v l.length (flatV l)
theorem RdV.below {w w' : World} {v : Value} {l : List Ver} (h : RdV w v l) (hb : Below w.heap.size w w') : RdV w' v l := RdRow.below h hb
theorem OwnV.rd {e : TypeId} {w : World} {v : Value} {l : List Ver} (h : OwnV e w v l) : RdV w v l := Own.rd h
theorem OwnV.below {e : TypeId} {w w' : World} {v : Value} {l : List Ver} (h : OwnV e w v l) (hb : Below w.heap.size w w') : OwnV e w' v l := Own.below' h hb
theorem RdV.open {w : World} {v : Value} {l : List Ver} (h : RdV w v l) : ∃ a cap, v = .slice a l.length cap ∧ l.length ≤ cap ∧ cap ≤ 9223372036854775807 ∧
    ∀ (i : Nat) (x : Ver), l[i]? = some x → ∃ b o, a = some ⟨b, o, none⟩ ∧ b < w.heap.size ∧ w.cell? ⟨b, o + i * 6, none⟩ = some (.int .i64 x.at_.wall) ∧ w.cell? ⟨b, o + i * 6 + 1, none⟩ = some (.int .u32 x.at_.tick) ∧ w.cell? ⟨b, o + i * 6 + 2, none⟩ = some (.int .u32 x.at_.mark) ∧
      w.cell? ⟨b, o + i * 6 + 3, none⟩ = some (.int .i64 x.kind) ∧ w.cell? ⟨b, o + i * 6 + 4, none⟩ = some (.int .i64 x.num) ∧ w.cell? ⟨b, o + i * 6 + 5, none⟩ = some (.string x.text) := by
  obtain ⟨_, a, cap, rfl, h1, h2, _, h5⟩ := h
  refine ⟨a, cap, rfl, h1, h2, fun i x hi => ?_⟩
  obtain ⟨b, o, rfl, hc⟩ := h5 _ _ (flatV_get l i x hi 0 _ rfl)
  have key : ∀ j u, (vcells x)[j]? = some u → w.cell? ⟨b, o + i * 6 + j, none⟩ = some u := fun j u hj => by
    obtain ⟨b', o', e, hc'⟩ := h5 _ _ (flatV_get l i x hi j u hj)
    cases e
    rw [Nat.add_assoc]; exact hc'
  exact ⟨b, o, rfl, World.block_lt_of_cell? w _ hc, hc, key 1 _ rfl, key 2 _ rfl, key 3 _ rfl, key 4 _ rfl, key 5 _ rfl⟩

/-! ### where a stamp stands -/
theorem cmpT_lt {a b : Tm} : cmpT a b < 0 ↔ a.lt b := by
  unfold cmpT
  by_cases h : a.lt b
  · rw [if_pos h]; exact ⟨fun _ => h, fun _ => by omega⟩
  · rw [if_neg h]
    constructor
    · intro h2; split at h2 <;> omega
    · intro h2; exact absurd h2 h
theorem cmpT_eq {a b : Tm} : cmpT a b = 0 ↔ a = b := by
  unfold cmpT
  rcases Tm.tri a b with h | h | h
  · rw [if_pos h]; exact ⟨fun e => by omega, fun e => by rw [e] at h; exact absurd h (Tm.irr _)⟩
  · subst h; rw [if_neg (Tm.irr a), if_neg (Tm.irr a)]; simp
  · rw [if_neg (Tm.asymm h), if_pos h]; exact ⟨fun e => by omega, fun e => by rw [e] at h; exact absurd h (Tm.irr _)⟩
theorem place_lt {l : List Ver} {t : Tm} (hl : Chain l) {h : Nat} {x : Ver} (hx : l[h]? = some x) : x.at_.lt t ↔ h < place l t := by
  obtain ⟨hh, rfl⟩ := List.getElem?_eq_some_iff.1 hx
  constructor
  · intro hlt
    rcases Nat.lt_or_ge h (place l t) with h1 | h1
    · exact h1
    · exfalso
      have hm : l[h] ∈ l.drop (place l t) := by
        rw [List.mem_iff_getElem]
        exact ⟨h - place l t, by rw [List.length_drop]; omega, by simp [show place l t + (h - place l t) = h by omega]⟩
      have hf : l[h] ∈ l.filter (fun x => decide (x.at_.lt t)) := List.mem_filter.2 ⟨List.getElem_mem hh, by simpa using hlt⟩
      rw [(chain_parts t hl).1] at hf
      obtain ⟨i, hi, e⟩ := List.getElem_of_mem hf
      rw [List.length_take] at hi
      rw [List.getElem_take] at e
      have hp := List.pairwise_iff_getElem.1 hl i h (by omega) hh (by omega)
      rw [e] at hp
      exact Tm.irr _ hp
  · intro h1
    exact mem_take_lt hl (by rw [List.mem_iff_getElem]; exact ⟨h, by rw [List.length_take]; omega, by simp⟩)
theorem has_at {l : List Ver} {t : Tm} (hl : Chain l) : has l t = true ↔ ∃ x, l[place l t]? = some x ∧ x.at_ = t := by
  constructor
  · intro h
    unfold has at h
    rw [List.any_eq_true] at h
    obtain ⟨y, hy, e⟩ := h
    have e' : y.at_ = t := by simpa using e
    obtain ⟨i, hi, rfl⟩ := List.getElem_of_mem hy
    have hp := chain_parts t hl
    have hh : has l t = true := by unfold has; rw [List.any_eq_true]; exact ⟨_, hy, e⟩
    rw [hh] at hp
    have h1 : ¬ i < place l t := fun h1 => by
      have := (place_lt hl (List.getElem?_eq_getElem hi)).2 h1
      rw [e'] at this
      exact Tm.irr _ this
    have h2 : ¬ place l t < i := fun h2 => by
      have hq := List.pairwise_iff_getElem.1 hl (place l t) i (by omega) hi h2
      rw [e'] at hq
      exact absurd ((place_lt hl (List.getElem?_eq_getElem (by omega))).1 hq) (by omega)
    have : place l t = i := by omega
    exact ⟨l[i], by rw [this]; exact List.getElem?_eq_getElem hi, e'⟩
  · rintro ⟨x, hx, e⟩
    unfold has
    rw [List.any_eq_true]
    exact ⟨x, List.mem_of_getElem? hx, by simpa using e⟩

set_option maxHeartbeats 4000000 in
theorem search_any (v : Value) (l : List Ver) (t : Tm) (w : World) (hv : RdV w v l) (hl : Chain l) (hn : l.length ≤ 1048576) :
    Calls Tryz.prog 219 #[v, t.val, .func (.func 220) #[] #[]] w fun e w' => e = .returned (.tuple #[.int .i64 (place l t : Int), .bool (has l t)]) ∧ Below w.heap.size w w' := by
  obtain ⟨a, cap, rfl, hcap, hbig, hcell⟩ := hv.open
  have Hcell := Lib.hid hcell
  have HL := Lib.hid hl
  have HF := Lib.hid (fun (x : Ver) (W : World) => placef_any x t W)
  have hpl := place_le l t
  obtain ⟨p, hp⟩ : ∃ p, place l t = p := ⟨_, rfl⟩
  obtain ⟨q, hq⟩ : ∃ q, has l t = q := ⟨_, rfl⟩
  have HP := Lib.hid (fun (h : Nat) (x : Ver) (hx : l[h]? = some x) => (place_lt (t := t) hl hx))
  have HQ := Lib.hid (has_at (t := t) hl)
  rw [hp] at hpl HP HQ ⊢
  rw [hq] at HQ ⊢
  clear hcell hv hl hp hq
  obtain ⟨tw, tt, tm⟩ := t
  unfold Tm.val at HF ⊢
  simp only at HF ⊢
  go_enter Tryz.func219, Tryz.ntmps219
  go_wp2_with fail
  have HX := Lib.hid (Blk.new w #[.int .i64 tw, .int .u32 tt, .int .u32 tm] 44)
  have HB0 := Lib.hid (below_alloc w (.cells #[.int .i64 tw, .int .u32 tt, .int .u32 tm] 44))
  generalize hw5 : w.alloc (.cells #[.int .i64 tw, .int .u32 tt, .int .u32 tm] 44) = w5 at HX HB0 ⊢
  clear hw5
  have HC : Hid (∀ (W : World), Below w5.heap.size w5 W → ∀ (h : Nat) (x : Ver), l[h]? = some x → ∃ b o, a = some ⟨b, o, none⟩ ∧ b < W.heap.size ∧ W.cell? ⟨b, o + h * 6, none⟩ = some (.int .i64 x.at_.wall) ∧ W.cell? ⟨b, o + h * 6 + 1, none⟩ = some (.int .u32 x.at_.tick) ∧ W.cell? ⟨b, o + h * 6 + 2, none⟩ = some (.int .u32 x.at_.mark) ∧ W.cell? ⟨b, o + h * 6 + 3, none⟩ = some (.int .i64 x.kind) ∧ W.cell? ⟨b, o + h * 6 + 4, none⟩ = some (.int .i64 x.num) ∧ W.cell? ⟨b, o + h * 6 + 5, none⟩ = some (.string x.text)) := Lib.hid (by
    intro W hW h x hx
    obtain ⟨b, o, e, lb, c0, c1, c2, c3, c4, c5⟩ := Hcell.out h x hx
    have hb := bel_trans HB0.out hW
    exact ⟨b, o, e, Nat.lt_of_lt_of_le lb hb.size, (hb.cell (p := ⟨b, o + h * 6, none⟩) lb).trans c0, (hb.cell (p := ⟨b, o + h * 6 + 1, none⟩) lb).trans c1, (hb.cell (p := ⟨b, o + h * 6 + 2, none⟩) lb).trans c2, (hb.cell (p := ⟨b, o + h * 6 + 3, none⟩) lb).trans c3, (hb.cell (p := ⟨b, o + h * 6 + 4, none⟩) lb).trans c4, (hb.cell (p := ⟨b, o + h * 6 + 5, none⟩) lb).trans c5⟩)
  clear Hcell
  go_loopw [9, 10, 11] (fun iv jv _ wr => ∃ i j : Nat, i ≤ p ∧ p ≤ j ∧ j ≤ l.length ∧ iv = .int .i64 i ∧ jv = .int .i64 j ∧ Hid (Below w5.heap.size w5 wr)) (fun iv jv _ _ => (intOf jv).toNat - (intOf iv).toNat)
  case atStart => exact ⟨0, l.length, by omega, by omega, by omega, rfl, rfl, Lib.hid (bel_refl w5)⟩
  case round =>
    obtain ⟨i, j, hi, hj, hjl, rfl, rfl, HB⟩ := hrel
    have y0 : ∀ g : GrownOf wr, g.W.cell? ⟨w.heap.size, 0, none⟩ = some (.int .i64 tw) := fun g => (HX.out.next (bel_trans HB.out g.b)).cell 0
    have y1 : ∀ g : GrownOf wr, g.W.cell? ⟨w.heap.size, 1, none⟩ = some (.int .u32 tt) := fun g => (HX.out.next (bel_trans HB.out g.b)).cell 1
    have y2 : ∀ g : GrownOf wr, g.W.cell? ⟨w.heap.size, 2, none⟩ = some (.int .u32 tm) := fun g => (HX.out.next (bel_trans HB.out g.b)).cell 2
    by_cases hlt : i < j
    · go_upto_region 5 with fail
      have e2 : ((i : Int) + (j : Int)) / 2 = (((i + j) / 2 : Nat) : Int) := by omega
      rw [e2]
      have hh1 : i ≤ (i + j) / 2 := by omega
      have hh2 : (i + j) / 2 < j := by omega
      generalize hgh : (i + j) / 2 = h at hh1 hh2 ⊢
      clear e2 hgh
      have hk1 : (0 : Int) ≤ (h : Int) := by omega
      have hk2 : (h : Int) < (l.length : Int) := by omega
      obtain ⟨x, hx⟩ : ∃ x, l[h]? = some x := ⟨l[h], List.getElem?_eq_getElem (by omega)⟩
      obtain ⟨b, o, rfl, -⟩ := HC.out wr HB.out h x hx
      have x0 : ∀ g : GrownOf wr, g.W.cell? ⟨b, o + h * 6, none⟩ = some (.int .i64 x.at_.wall) := fun g => by obtain ⟨_, _, e, _, c0, _⟩ := HC.out g.W (bel_trans HB.out g.b) h x hx; cases e; exact c0
      have x1 : ∀ g : GrownOf wr, g.W.cell? ⟨b, o + h * 6 + 1, none⟩ = some (.int .u32 x.at_.tick) := fun g => by obtain ⟨_, _, e, _, _, c0, _⟩ := HC.out g.W (bel_trans HB.out g.b) h x hx; cases e; exact c0
      have x2 : ∀ g : GrownOf wr, g.W.cell? ⟨b, o + h * 6 + 2, none⟩ = some (.int .u32 x.at_.mark) := fun g => by obtain ⟨_, _, e, _, _, _, c0, _⟩ := HC.out g.W (bel_trans HB.out g.b) h x hx; cases e; exact c0
      have x3 : ∀ g : GrownOf wr, g.W.cell? ⟨b, o + h * 6 + 3, none⟩ = some (.int .i64 x.kind) := fun g => by obtain ⟨_, _, e, _, _, _, _, c0, _⟩ := HC.out g.W (bel_trans HB.out g.b) h x hx; cases e; exact c0
      have x4 : ∀ g : GrownOf wr, g.W.cell? ⟨b, o + h * 6 + 4, none⟩ = some (.int .i64 x.num) := fun g => by obtain ⟨_, _, e, _, _, _, _, _, c0, _⟩ := HC.out g.W (bel_trans HB.out g.b) h x hx; cases e; exact c0
      have x5 : ∀ g : GrownOf wr, g.W.cell? ⟨b, o + h * 6 + 5, none⟩ = some (.string x.text) := fun g => by obtain ⟨_, _, e, _, _, _, _, _, _, c0⟩ := HC.out g.W (bel_trans HB.out g.b) h x hx; cases e; exact c0
      have hz0 : cmpT x.at_ ⟨tw, tt, tm⟩ < 0 ↔ h < p := cmpT_lt.trans (HP.out h x hx)
      have HF1 := Lib.hid (fun W => HF.out x W)
      unfold Ver.val at HF1
      generalize cmpT x.at_ ⟨tw, tt, tm⟩ = z at hz0 HF1
      clear hx
      refine wp_region_grown (by kernel_rfl) (by kernel_rfl) ?_
      repeat (go_big_quiet_step ((go_at_call 220; refine (HF1.out _).mono ?_; rintro e w7 ⟨rfl, hb7⟩; exact ⟨rfl, ⟨w7, bel_trans (GrownOf.b _) hb7⟩, rfl⟩)))
      refine wpQuiet_nil ?_
      rintro _ ⟨⟨w7, hb7⟩, rfl⟩
      have HB7 := Lib.hid (bel_trans HB.out hb7)
      clear hb7 x0 x1 x2 x3 x4 x5 y0 y1 y2
      by_cases hc : z < 0
      · have hlp := hz0.1 hc
        clear hz0
        go_wp2_with fail
        go_roundw
        case rel => exact ⟨h + 1, j, by omega, by omega, by omega, by go_num, rfl, HB7⟩
        case measure => simp [intOf]; omega
      · have hlp : ¬ h < p := fun h => hc (hz0.2 h)
        clear hz0
        go_wp2_with fail
        go_roundw
        case rel => exact ⟨i, h, by omega, by omega, by omega, rfl, rfl, HB7⟩
        case measure => simp [intOf]; omega
    · obtain rfl : i = p := by omega
      obtain rfl : i = j := by omega
      go_upto_region 8 with fail
      by_cases hin : i < l.length
      · have hk1 : (0 : Int) ≤ (i : Int) := by omega
        have hk2 : (i : Int) < (l.length : Int) := by omega
        obtain ⟨x, hx⟩ : ∃ x, l[i]? = some x := ⟨l[i], List.getElem?_eq_getElem (by omega)⟩
        obtain ⟨b, o, rfl, -⟩ := HC.out wr HB.out i x hx
        have x0 : ∀ g : GrownOf wr, g.W.cell? ⟨b, o + i * 6, none⟩ = some (.int .i64 x.at_.wall) := fun g => by obtain ⟨_, _, e, _, c0, _⟩ := HC.out g.W (bel_trans HB.out g.b) i x hx; cases e; exact c0
        have x1 : ∀ g : GrownOf wr, g.W.cell? ⟨b, o + i * 6 + 1, none⟩ = some (.int .u32 x.at_.tick) := fun g => by obtain ⟨_, _, e, _, _, c0, _⟩ := HC.out g.W (bel_trans HB.out g.b) i x hx; cases e; exact c0
        have x2 : ∀ g : GrownOf wr, g.W.cell? ⟨b, o + i * 6 + 2, none⟩ = some (.int .u32 x.at_.mark) := fun g => by obtain ⟨_, _, e, _, _, _, c0, _⟩ := HC.out g.W (bel_trans HB.out g.b) i x hx; cases e; exact c0
        have x3 : ∀ g : GrownOf wr, g.W.cell? ⟨b, o + i * 6 + 3, none⟩ = some (.int .i64 x.kind) := fun g => by obtain ⟨_, _, e, _, _, _, _, c0, _⟩ := HC.out g.W (bel_trans HB.out g.b) i x hx; cases e; exact c0
        have x4 : ∀ g : GrownOf wr, g.W.cell? ⟨b, o + i * 6 + 4, none⟩ = some (.int .i64 x.num) := fun g => by obtain ⟨_, _, e, _, _, _, _, _, c0, _⟩ := HC.out g.W (bel_trans HB.out g.b) i x hx; cases e; exact c0
        have x5 : ∀ g : GrownOf wr, g.W.cell? ⟨b, o + i * 6 + 5, none⟩ = some (.string x.text) := fun g => by obtain ⟨_, _, e, _, _, _, _, _, _, c0⟩ := HC.out g.W (bel_trans HB.out g.b) i x hx; cases e; exact c0
        have HZ : Hid ((cmpT x.at_ ⟨tw, tt, tm⟩ == 0) = q) := Lib.hid (by
          have h1 : q = true ↔ cmpT x.at_ ⟨tw, tt, tm⟩ = 0 := HQ.out.trans ⟨fun ⟨y, hy, e⟩ => by rw [hx] at hy; cases hy; exact cmpT_eq.2 e, fun e => ⟨x, hx, cmpT_eq.1 e⟩⟩
          cases q with
          | true => rw [beq_iff_eq]; exact h1.1 rfl
          | false => rw [beq_eq_false_iff_ne]; exact fun e => by have := h1.2 e; cases this)
        have HF1 := Lib.hid (fun W => HF.out x W)
        unfold Ver.val at HF1
        generalize cmpT x.at_ ⟨tw, tt, tm⟩ = z at HZ HF1
        clear hx
        refine wp_region_grown (by kernel_rfl) (by kernel_rfl) ?_
        repeat (go_big_quiet_step ((go_at_call 220; refine (HF1.out _).mono ?_; rintro e w7 ⟨rfl, hb7⟩; exact ⟨rfl, ⟨w7, bel_trans (GrownOf.b _) hb7⟩, rfl⟩)))
        refine wpQuiet_nil ?_
        rintro _ ⟨⟨w7, hb7⟩, rfl⟩
        have HB7 := Lib.hid (bel_trans HB.out hb7)
        clear hb7 x0 x1 x2 x3 x4 x5 y0 y1 y2
        go_wp2_with fail
        refine bodyPost_ret (v := .tuple #[.int .i64 (i : Int), .bool (z == 0)]) (by simp [results, Tryz.results219, go_sem, *]) rfl ?_
        exact ⟨by rw [HZ.out], bel_trans HB0.out HB7.out⟩
      · have HZ : Hid (q = false) := Lib.hid (by
          cases q with
          | false => rfl
          | true =>
            obtain ⟨y, hy, -⟩ := HQ.out.1 rfl
            have := (List.getElem?_eq_some_iff.1 hy).1
            omega)
        refine wp_region_grown (by kernel_rfl) (by kernel_rfl) ?_
        repeat (go_big_quiet_step (fail))
        refine wpQuiet_nil ?_
        rintro _ ⟨⟨w7, hb7⟩, rfl⟩
        have HB7 := Lib.hid (bel_trans HB.out hb7)
        clear hb7 y0 y1 y2
        go_wp2_with fail
        refine bodyPost_ret (v := .tuple #[.int .i64 (i : Int), .bool false]) (by simp [results, Tryz.results219, go_sem, *]) rfl ?_
        exact ⟨by rw [HZ.out], bel_trans HB0.out HB7.out⟩
end Go.Proofs.YtbaflgddpciadaaGreat
namespace Go.Proofs.YtbaflgddpciadaaGreat
open Go.RowKit Go.Kt Go.Ix Go.Sx
set_option maxRecDepth 100000

set_option maxHeartbeats 1000000 in
theorem place_any (v : Value) (l : List Ver) (t : Tm) (w : World) (hv : RdV w v l) (hl : Chain l) (hn : l.length ≤ 1048576) :
    Calls Tryz.prog 198 #[v, t.val] w fun e w' => e = .returned (.tuple #[.int .i64 (place l t : Int), .bool (has l t)]) ∧ Below w.heap.size w w' := by
  obtain ⟨a, cap, rfl, -⟩ := hv.open
  have HS := Lib.hid (fun (W : World) (hW : Below w.heap.size w W) => search_any (.slice a l.length cap) l t W (hv.below hW) hl hn)
  clear hv hl
  generalize (place l t : Int) = p at HS ⊢
  generalize has l t = q at HS ⊢
  obtain ⟨tw, tt, tm⟩ := t
  unfold Tm.val at HS ⊢
  simp only at HS ⊢
  go_enter Tryz.func198, Tryz.ntmps198
  go_wp2_with (first | (go_at_call 219; refine (HS.out _ (bel_alloc (bel_refl w))).mono ?_; rintro e w1 ⟨rfl, hb1⟩) | fail)
  refine bodyPost_ret (v := .tuple #[.int .i64 p, .bool q]) (by simp [results, Tryz.results198, go_sem, *]) rfl ?_
  exact ⟨rfl, bel_trans (below_alloc _ _) hb1⟩

theorem ok96 : ElemOk Tryz.prog 241 270 (.agg #[.int .i64 0, .int .u32 0, .int .u32 0, .int .i64 0, .int .i64 0, .string ⟨#[]⟩]) 6 48 := ⟨Tryz.underlying241, info_parts (by kernel_rfl), rfl, by decide⟩
def MineV (w0 w : World) (v : Value) (l : List Ver) : Prop := Mine 270 6 w0 w v l.length (flatV l)
theorem MineV.rd {w0 w : World} {v : Value} {l : List Ver} (h : MineV w0 w v l) : RdV w v l := h.1.rd
theorem MineV.bel {w0 w : World} {v : Value} {l : List Ver} (h : MineV w0 w v l) : Below w0.heap.size w0 w := h.2.2
set_option maxRecDepth 8000 in
set_option maxHeartbeats 1000000 in
theorem clonev_any (v : Value) (l : List Ver) (w : World) (hv : RdV w v l) (hlen : l.length ≤ 1048576) :
    Calls Tryz.prog 210 #[v] w fun e w' => ∃ v', e = .returned v' ∧ MineV w w' v' l := by
  have he := fun (a : Option Addr) (n c : Nat) => Lib.run_eql_slice_nil (P := Tryz.prog) w 241 270 a n c 0 0 Tryz.underlying241
  have HV := Lib.hid hv
  obtain ⟨hl, a, cap, rfl, h1, h2, h3, _⟩ := hv
  cases a with
  | none =>
    obtain rfl : cap = 0 := h3 rfl
    obtain hl0 : l = [] := List.eq_nil_of_length_eq_zero (by omega)
    subst hl0
    clear HV
    go_enter Tryz.func210, Tryz.ntmps210
    go_wp2_with fail
    go_ret
    exact ⟨_, rfl, mine_nil 270 6 w⟩
  | some ad =>
    clear hl h3
    go_enter Tryz.func210, Tryz.ntmps210
    go_wp2_with (at_builtin; apply Hold.mk)
    unfold Hold
    refine wpList_app rfl _ _ 241 rfl ok96 (by rfl) (by rfl) (n := 0) (xs := []) (own_lit w 270 6 #[] 0 (Nat.zero_le _) rfl) (HV.out.below (below_alloc w _)) (by exact flatV_one l) (by simp only [maxLen]; omega) (by omega) ?_
    intro v7 w7 ho7 hg7 hn7
    rw [Nat.zero_add, List.nil_append] at ho7
    have HM7 : Hid (MineV w w7 v7 l) := Lib.hid ⟨ho7, fun b hb => by
        rcases hn7 b hb with h | h
        · have h' : w.heap.size = b := by simpa [Value.ownBlock] using h
          omega
        · simp only [World.size_alloc] at h; omega, (bel_alloc (bel_refl w)).grown hg7 (by simp only [World.size_alloc]; omega) (fun k hk => Nat.le_of_eq (by simpa [Value.ownBlock] using hk))⟩
    clear ho7 hg7 hn7
    go_wp2_with fail
    go_ret
    exact ⟨_, rfl, HM7.out⟩
/-- how many don't stand behind -/
theorem upto_place {l : List Ver} {t : Tm} (hl : Chain l) : upto l t = place l t + (if has l t then 1 else 0) := (chain_parts t hl).2.2
def verNil : Ver := ⟨⟨0, 0, 0⟩, 0, 0, ⟨#[]⟩⟩
/-- what Get hands out -/
def getV (l : List Ver) (t : Tm) : Value := match getC l t with
  | some v => .tuple #[v.val, .bool true]
  | none => .tuple #[verNil.val, .bool false]
theorem rdV_cells {w : World} {a : Option Addr} {c : Nat} {l : List Ver} (h : RdV w (.slice a l.length c) l) : ∀ (i : Nat) (x : Ver), l[i]? = some x → ∃ b o, a = some ⟨b, o, none⟩ ∧ b < w.heap.size ∧ w.cell? ⟨b, o + i * 6, none⟩ = some (.int .i64 x.at_.wall) ∧ w.cell? ⟨b, o + i * 6 + 1, none⟩ = some (.int .u32 x.at_.tick) ∧ w.cell? ⟨b, o + i * 6 + 2, none⟩ = some (.int .u32 x.at_.mark) ∧
      w.cell? ⟨b, o + i * 6 + 3, none⟩ = some (.int .i64 x.kind) ∧ w.cell? ⟨b, o + i * 6 + 4, none⟩ = some (.int .i64 x.num) ∧ w.cell? ⟨b, o + i * 6 + 5, none⟩ = some (.string x.text) := by
  obtain ⟨a', c', e, _, _, hc⟩ := h.open
  injection e with e _ _
  subst e
  exact hc
theorem store6 {w0 w1 : World} {g : Nat} {t : TypeId} {b0 b1 b2 b3 b4 b5 : Value} (h : Blk w1 g #[b0, b1, b2, b3, b4, b5] t) (hb : Below w0.heap.size w0 w1) (hg : w0.heap.size ≤ g) (a0 a1 a2 a3 a4 a5 : Value) :
    ∃ W, W = (((((w1.setCell ⟨g, 0, none⟩ a0).setCell ⟨g, 1, none⟩ a1).setCell ⟨g, 2, none⟩ a2).setCell ⟨g, 3, none⟩ a3).setCell ⟨g, 4, none⟩ a4).setCell ⟨g, 5, none⟩ a5 ∧ Blk W g #[a0, a1, a2, a3, a4, a5] t ∧ Below w0.heap.size w0 W :=
  ⟨_, rfl, (((((h.set 0 a0).set 1 a1).set 2 a2).set 3 a3).set 4 a4).set 5 a5, bel_set (bel_set (bel_set (bel_set (bel_set (bel_set hb hg) hg) hg) hg) hg) hg⟩
set_option maxHeartbeats 4000000 in
theorem getc_any (v : Value) (l : List Ver) (t : Tm) (w : World) (hv : RdV w v l) (hl : Chain l) (hn : l.length ≤ 1048576) :
    Calls Tryz.prog 152 #[v, t.val] w fun e w' => e = .returned (getV l t) ∧ Below w.heap.size w w' := by
  have hu := upto_place (t := t) hl
  have hpl := place_le l t
  have hul := upto_le l t
  obtain ⟨a, cap, rfl, -⟩ := hv.open
  have HV := Lib.hid hv
  have HS := Lib.hid (fun (W : World) (hW : Below w.heap.size w W) => place_any (.slice a l.length cap) l t W (hv.below hW) hl hn)
  have HG : Hid (getV l t = match upto l t with
    | 0 => .tuple #[verNil.val, .bool false]
    | i + 1 => match l[i]? with
      | some v => if v.kind = 3 then .tuple #[verNil.val, .bool false] else .tuple #[v.val, .bool true]
      | none => .tuple #[verNil.val, .bool false]) := Lib.hid (by
    unfold getV getC
    cases upto l t with
    | zero => rfl
    | succ i =>
      simp only
      cases l[i]? with
      | none => rfl
      | some v => by_cases h : v.kind = 3 <;> simp [h])
  generalize getV l t = r at HG ⊢
  generalize place l t = p at HS hu hpl
  generalize has l t = q at HS hu
  generalize upto l t = u at HG hu hul
  clear hv hl
  obtain ⟨tw, tt, tm⟩ := t
  unfold Tm.val at HS ⊢
  simp only at HS ⊢
  have HX := Lib.hid (Blk.new (w.alloc (.cells #[.int .i64 tw, .int .u32 tt, .int .u32 tm] 44)) #[.int .i64 0, .int .u32 0, .int .u32 0, .int .i64 0, .int .i64 0, .string ⟨#[]⟩] 270)
  have HB0 := Lib.hid (bel_alloc (o := .cells #[.int .i64 0, .int .u32 0, .int .u32 0, .int .i64 0, .int .i64 0, .string ⟨#[]⟩] 270) (below_alloc w (.cells #[.int .i64 tw, .int .u32 tt, .int .u32 tm] 44)))
  have HSW : Hid (((w.alloc (.cells #[.int .i64 tw, .int .u32 tt, .int .u32 tm] 44)).alloc (.cells #[.int .i64 0, .int .u32 0, .int .u32 0, .int .i64 0, .int .i64 0, .string ⟨#[]⟩] 270)).heap.size = w.heap.size + 2) := Lib.hid (by simp only [World.size_alloc])
  cases q with
  | true =>
    obtain rfl : u = p + 1 := by rw [hu]; rfl
    clear hu
    go_enter Tryz.func152, Tryz.ntmps152
    go_upto_region 4 with (first | (go_at_call 198; refine (HS.out _ (by repeat (first | exact bel_refl _ | apply bel_alloc | apply bel_drew))).mono ?_; rintro e w1 ⟨rfl, hb1⟩; have HB1 := Lib.hid hb1; clear hb1) | fail)
    have HX1 := HX.out.next HB1.out
    rw [World.size_alloc] at HX1
    have HXX := Lib.hid HX1
    have z0 : w1.cell? ⟨w.heap.size + 1, 0, none⟩ = some (.int .i64 0) := HX1.cell 0
    have f0 : w1.frozen? ⟨w.heap.size + 1, 0, none⟩ = false := HX1.free 0
    have z1 : w1.cell? ⟨w.heap.size + 1, 1, none⟩ = some (.int .u32 0) := HX1.cell 1
    have f1 : w1.frozen? ⟨w.heap.size + 1, 1, none⟩ = false := HX1.free 1
    have z2 : w1.cell? ⟨w.heap.size + 1, 2, none⟩ = some (.int .u32 0) := HX1.cell 2
    have f2 : w1.frozen? ⟨w.heap.size + 1, 2, none⟩ = false := HX1.free 2
    have z3 : w1.cell? ⟨w.heap.size + 1, 3, none⟩ = some (.int .i64 0) := HX1.cell 3
    have f3 : w1.frozen? ⟨w.heap.size + 1, 3, none⟩ = false := HX1.free 3
    have z4 : w1.cell? ⟨w.heap.size + 1, 4, none⟩ = some (.int .i64 0) := HX1.cell 4
    have f4 : w1.frozen? ⟨w.heap.size + 1, 4, none⟩ = false := HX1.free 4
    have z5 : w1.cell? ⟨w.heap.size + 1, 5, none⟩ = some (.string ⟨#[]⟩) := HX1.cell 5
    have f5 : w1.frozen? ⟨w.heap.size + 1, 5, none⟩ = false := HX1.free 5
    have HBw := Lib.hid (bel_trans HB0.out HB1.out)
    have Hsz : Hid (w.heap.size + 2 ≤ w1.heap.size) := Lib.hid (by have := HB1.out.size; have := HSW.out; omega)
    clear HX HX1 HB1 HSW
    obtain ⟨x, hx⟩ : ∃ x, l[p]? = some x := ⟨l[p], List.getElem?_eq_getElem (by omega)⟩
    have HR := HG.out
    rw [hx] at HR
    simp only at HR
    obtain ⟨b, o, rfl, lb, c0, c1, c2, c3, c4, c5⟩ := rdV_cells (HV.out.below HBw.out) p x hx
    have hk1 : (0 : Int) ≤ (p : Int) := by omega
    have hk2 : (p : Int) < (l.length : Int) := by omega
    have hne : b ≠ w.heap.size + 1 := by
      obtain ⟨_, _, e, lb0, -⟩ := rdV_cells HV.out p x hx
      cases e
      omega
    clear hx HG
    by_cases h3 : x.kind = 3
    · rw [if_pos h3] at HR
      have e3 : (x.kind == 3) = true := by rw [beq_iff_eq]; exact h3
      clear h3
      go_wp2_with fail
      obtain ⟨W, hW, hB6, hBl⟩ := store6 HXX.out HBw.out (Nat.le_succ _) (.int .i64 0) (.int .u32 0) (.int .u32 0) (.int .i64 0) (.int .i64 0) (.string ⟨#[]⟩)
      rw [← hW]
      clear hW z0 z1 z2 z3 z4 z5 f0 f1 f2 f3 f4 f5
      have z0 := hB6.cell 0
      have z1 := hB6.cell 1
      have z2 := hB6.cell 2
      have z3 := hB6.cell 3
      have z4 := hB6.cell 4
      have z5 := hB6.cell 5
      refine bodyPost_ret (v := .tuple #[verNil.val, .bool false]) (by simp [results, Tryz.results152, go_sem, verNil, Ver.val, z0, z1, z2, z3, z4, z5]) rfl ?_
      exact ⟨by rw [HR], hBl⟩
    · rw [if_neg h3] at HR
      have e3 : (x.kind == 3) = false := bne_of h3
      clear h3
      go_wp2_with fail
      obtain ⟨W, hW, hB6, hBl⟩ := store6 HXX.out HBw.out (Nat.le_succ _) (.int .i64 x.at_.wall) (.int .u32 x.at_.tick) (.int .u32 x.at_.mark) (.int .i64 x.kind) (.int .i64 x.num) (.string x.text)
      rw [← hW]
      clear hW z0 z1 z2 z3 z4 z5 f0 f1 f2 f3 f4 f5
      have z0 := hB6.cell 0
      have z1 := hB6.cell 1
      have z2 := hB6.cell 2
      have z3 := hB6.cell 3
      have z4 := hB6.cell 4
      have z5 := hB6.cell 5
      refine bodyPost_ret (v := .tuple #[x.val, .bool true]) (by simp [results, Tryz.results152, go_sem, verNil, Ver.val, z0, z1, z2, z3, z4, z5]) rfl ?_
      exact ⟨by rw [HR], hBl⟩
  | false =>
    obtain rfl : u = p := by rw [hu]; rfl
    clear hu
    cases u with
    | zero =>
      go_enter Tryz.func152, Tryz.ntmps152
      go_upto_region 4 with (first | (go_at_call 198; refine (HS.out _ (by repeat (first | exact bel_refl _ | apply bel_alloc | apply bel_drew))).mono ?_; rintro e w1 ⟨rfl, hb1⟩; have HB1 := Lib.hid hb1; clear hb1) | fail)
      have HX1 := HX.out.next HB1.out
      rw [World.size_alloc] at HX1
      have HXX := Lib.hid HX1
      have z0 : w1.cell? ⟨w.heap.size + 1, 0, none⟩ = some (.int .i64 0) := HX1.cell 0
      have f0 : w1.frozen? ⟨w.heap.size + 1, 0, none⟩ = false := HX1.free 0
      have z1 : w1.cell? ⟨w.heap.size + 1, 1, none⟩ = some (.int .u32 0) := HX1.cell 1
      have f1 : w1.frozen? ⟨w.heap.size + 1, 1, none⟩ = false := HX1.free 1
      have z2 : w1.cell? ⟨w.heap.size + 1, 2, none⟩ = some (.int .u32 0) := HX1.cell 2
      have f2 : w1.frozen? ⟨w.heap.size + 1, 2, none⟩ = false := HX1.free 2
      have z3 : w1.cell? ⟨w.heap.size + 1, 3, none⟩ = some (.int .i64 0) := HX1.cell 3
      have f3 : w1.frozen? ⟨w.heap.size + 1, 3, none⟩ = false := HX1.free 3
      have z4 : w1.cell? ⟨w.heap.size + 1, 4, none⟩ = some (.int .i64 0) := HX1.cell 4
      have f4 : w1.frozen? ⟨w.heap.size + 1, 4, none⟩ = false := HX1.free 4
      have z5 : w1.cell? ⟨w.heap.size + 1, 5, none⟩ = some (.string ⟨#[]⟩) := HX1.cell 5
      have f5 : w1.frozen? ⟨w.heap.size + 1, 5, none⟩ = false := HX1.free 5
      have HBw := Lib.hid (bel_trans HB0.out HB1.out)
      have Hsz : Hid (w.heap.size + 2 ≤ w1.heap.size) := Lib.hid (by have := HB1.out.size; have := HSW.out; omega)
      clear HX HX1 HB1 HSW
      have HR := HG.out
      clear HG
      go_wp2_with fail
      obtain ⟨W, hW, hB6, hBl⟩ := store6 HXX.out HBw.out (Nat.le_succ _) (.int .i64 0) (.int .u32 0) (.int .u32 0) (.int .i64 0) (.int .i64 0) (.string ⟨#[]⟩)
      rw [← hW]
      clear hW z0 z1 z2 z3 z4 z5 f0 f1 f2 f3 f4 f5
      have z0 := hB6.cell 0
      have z1 := hB6.cell 1
      have z2 := hB6.cell 2
      have z3 := hB6.cell 3
      have z4 := hB6.cell 4
      have z5 := hB6.cell 5
      refine bodyPost_ret (v := .tuple #[verNil.val, .bool false]) (by simp [results, Tryz.results152, go_sem, verNil, Ver.val, z0, z1, z2, z3, z4, z5]) rfl ?_
      exact ⟨by rw [HR], hBl⟩
    | succ i =>
      go_enter Tryz.func152, Tryz.ntmps152
      go_upto_region 4 with (first | (go_at_call 198; refine (HS.out _ (by repeat (first | exact bel_refl _ | apply bel_alloc | apply bel_drew))).mono ?_; rintro e w1 ⟨rfl, hb1⟩; have HB1 := Lib.hid hb1; clear hb1) | fail)
      have HX1 := HX.out.next HB1.out
      rw [World.size_alloc] at HX1
      have HXX := Lib.hid HX1
      have z0 : w1.cell? ⟨w.heap.size + 1, 0, none⟩ = some (.int .i64 0) := HX1.cell 0
      have f0 : w1.frozen? ⟨w.heap.size + 1, 0, none⟩ = false := HX1.free 0
      have z1 : w1.cell? ⟨w.heap.size + 1, 1, none⟩ = some (.int .u32 0) := HX1.cell 1
      have f1 : w1.frozen? ⟨w.heap.size + 1, 1, none⟩ = false := HX1.free 1
      have z2 : w1.cell? ⟨w.heap.size + 1, 2, none⟩ = some (.int .u32 0) := HX1.cell 2
      have f2 : w1.frozen? ⟨w.heap.size + 1, 2, none⟩ = false := HX1.free 2
      have z3 : w1.cell? ⟨w.heap.size + 1, 3, none⟩ = some (.int .i64 0) := HX1.cell 3
      have f3 : w1.frozen? ⟨w.heap.size + 1, 3, none⟩ = false := HX1.free 3
      have z4 : w1.cell? ⟨w.heap.size + 1, 4, none⟩ = some (.int .i64 0) := HX1.cell 4
      have f4 : w1.frozen? ⟨w.heap.size + 1, 4, none⟩ = false := HX1.free 4
      have z5 : w1.cell? ⟨w.heap.size + 1, 5, none⟩ = some (.string ⟨#[]⟩) := HX1.cell 5
      have f5 : w1.frozen? ⟨w.heap.size + 1, 5, none⟩ = false := HX1.free 5
      have HBw := Lib.hid (bel_trans HB0.out HB1.out)
      have Hsz : Hid (w.heap.size + 2 ≤ w1.heap.size) := Lib.hid (by have := HB1.out.size; have := HSW.out; omega)
      clear HX HX1 HB1 HSW
      obtain ⟨x, hx⟩ : ∃ x, l[i]? = some x := ⟨l[i], List.getElem?_eq_getElem (by omega)⟩
      have HR := HG.out
      rw [hx] at HR
      simp only at HR
      obtain ⟨b, o, rfl, lb, c0, c1, c2, c3, c4, c5⟩ := rdV_cells (HV.out.below HBw.out) i x hx
      have hk1 : (0 : Int) ≤ (i : Int) := by omega
      have hk2 : (i : Int) < (l.length : Int) := by omega
      have hne : b ≠ w.heap.size + 1 := by
        obtain ⟨_, _, e, lb0, -⟩ := rdV_cells HV.out i x hx
        cases e
        omega
      clear hx HG
      by_cases h3 : x.kind = 3
      · rw [if_pos h3] at HR
        have e3 : (x.kind == 3) = true := by rw [beq_iff_eq]; exact h3
        clear h3
        go_wp2_with fail
        obtain ⟨W, hW, hB6, hBl⟩ := store6 HXX.out HBw.out (Nat.le_succ _) (.int .i64 0) (.int .u32 0) (.int .u32 0) (.int .i64 0) (.int .i64 0) (.string ⟨#[]⟩)
        rw [← hW]
        clear hW z0 z1 z2 z3 z4 z5 f0 f1 f2 f3 f4 f5
        have z0 := hB6.cell 0
        have z1 := hB6.cell 1
        have z2 := hB6.cell 2
        have z3 := hB6.cell 3
        have z4 := hB6.cell 4
        have z5 := hB6.cell 5
        refine bodyPost_ret (v := .tuple #[verNil.val, .bool false]) (by simp [results, Tryz.results152, go_sem, verNil, Ver.val, z0, z1, z2, z3, z4, z5]) rfl ?_
        exact ⟨by rw [HR], hBl⟩
      · rw [if_neg h3] at HR
        have e3 : (x.kind == 3) = false := bne_of h3
        clear h3
        go_wp2_with fail
        obtain ⟨W, hW, hB6, hBl⟩ := store6 HXX.out HBw.out (Nat.le_succ _) (.int .i64 x.at_.wall) (.int .u32 x.at_.tick) (.int .u32 x.at_.mark) (.int .i64 x.kind) (.int .i64 x.num) (.string x.text)
        rw [← hW]
        clear hW z0 z1 z2 z3 z4 z5 f0 f1 f2 f3 f4 f5
        have z0 := hB6.cell 0
        have z1 := hB6.cell 1
        have z2 := hB6.cell 2
        have z3 := hB6.cell 3
        have z4 := hB6.cell 4
        have z5 := hB6.cell 5
        refine bodyPost_ret (v := .tuple #[x.val, .bool true]) (by simp [results, Tryz.results152, go_sem, verNil, Ver.val, z0, z1, z2, z3, z4, z5]) rfl ?_
        exact ⟨by rw [HR], hBl⟩
end Go.Proofs.YtbaflgddpciadaaGreat
namespace Go.Proofs.YtbaflgddpciadaaGreat
open Go.RowKit Go.Kt Go.Ix Go.Sx
set_option maxRecDepth 100000

set_option maxHeartbeats 4000000 in
theorem cutc_any (v : Value) (l : List Ver) (t : Tm) (w : World) (hv : RdV w v l) (hl : Chain l) (hn : l.length ≤ 1048576) :
    Calls Tryz.prog 187 #[v, t.val] w fun e w' => ∃ v', e = .returned v' ∧ MineV w w' v' (cutC l t) := by
  have hu := upto_place (t := t) hl
  have hpl := place_le l t
  have hul := upto_le l t
  obtain ⟨a, cap, rfl, -⟩ := hv.open
  have HV := Lib.hid hv
  have HS := Lib.hid (fun (W : World) (hW : Below w.heap.size w W) => place_any (.slice a l.length cap) l t W (hv.below hW) hl hn)
  have HG : Hid (cutAt l t = match upto l t with
    | 0 => 0
    | i + 1 => match l[i]? with
      | some v => if v.kind = 3 then i + 1 else i
      | none => 0) := Lib.hid rfl
  have HD : Hid (cutC l t = l.drop (cutAt l t)) := Lib.hid rfl
  generalize cutC l t = r at HD ⊢
  generalize cutAt l t = ca at HG HD
  generalize place l t = p at HS hu hpl
  generalize has l t = q at HS hu
  generalize upto l t = u at HG hu hul
  clear hv hl
  obtain ⟨tw, tt, tm⟩ := t
  unfold Tm.val at HS ⊢
  simp only at HS ⊢
  cases q with
  | true =>
    obtain rfl : u = p + 1 := by rw [hu]; rfl
    clear hu
    go_enter Tryz.func187, Tryz.ntmps187
    go_upto_region 4 with (first | (go_at_call 198; refine (HS.out _ (by repeat (first | exact bel_refl _ | apply bel_alloc | apply bel_drew))).mono ?_; rintro e w1 ⟨rfl, hb1⟩; have HB1 := Lib.hid hb1; clear hb1) | fail)
    have HBw := Lib.hid (bel_trans (below_alloc w (.cells #[.int .i64 tw, .int .u32 tt, .int .u32 tm] 44)) HB1.out)
    obtain ⟨x, hx⟩ : ∃ x, l[p]? = some x := ⟨l[p], List.getElem?_eq_getElem (by omega)⟩
    have HR := HG.out
    rw [hx] at HR
    simp only at HR
    obtain ⟨b, o, rfl, lb, c0, c1, c2, c3, c4, c5⟩ := rdV_cells (HV.out.below HBw.out) p x hx
    have hk1 : (0 : Int) ≤ (p : Int) := by omega
    have hk2 : (p : Int) < (l.length : Int) := by omega
    have hk3 : (0 : Int) < (p : Int) + 1 := by omega
    clear hx HG
    by_cases h3 : x.kind = 3
    · rw [if_pos h3] at HR
      have HC : Hid (l.drop (p + 1) = r) := Lib.hid (by rw [HD.out, HR])
      have e3 : (x.kind == 3) = true := by rw [beq_iff_eq]; exact h3
      clear h3 HR
      go_wp2_with (with_reducible refine hold_slice ?_)
      unfold Hold
      refine wpList_cut_lo (kl := .i64) ok96 (p + 1) (by rfl) (by rfl) (by simp) (HV.out.below HBw.out) (by omega) ?_
      intro v8 hv8
      have HV8 : Hid (RdV w1 v8 (l.drop (p + 1))) := Lib.hid (by unfold RdV; rw [List.length_drop, flatV_drop]; exact hv8)
      clear hv8
      go_wp2_with (first | (go_at_call 210; refine (clonev_any v8 (l.drop (p + 1)) _ HV8.out (by rw [List.length_drop]; omega)).mono ?_; rintro e w9 ⟨v9, rfl, hm9⟩; have HM9 := Lib.hid hm9; clear hm9) | fail)
      go_ret
      exact ⟨_, rfl, HC.out ▸ HM9.out.1, HM9.out.2.1 |> fun h b hb => Nat.le_trans HBw.out.size (h b hb), bel_trans HBw.out HM9.out.2.2⟩
    · rw [if_neg h3] at HR
      have HC : Hid (l.drop p = r) := Lib.hid (by rw [HD.out, HR])
      have e3 : (x.kind == 3) = false := bne_of h3
      clear h3 HR
      go_wp2_with (with_reducible refine hold_slice ?_)
      unfold Hold
      refine wpList_cut_lo (kl := .i64) ok96 (p) (by rfl) (by rfl) (by simp) (HV.out.below HBw.out) (by omega) ?_
      intro v8 hv8
      have HV8 : Hid (RdV w1 v8 (l.drop (p))) := Lib.hid (by unfold RdV; rw [List.length_drop, flatV_drop]; exact hv8)
      clear hv8
      go_wp2_with (first | (go_at_call 210; refine (clonev_any v8 (l.drop (p)) _ HV8.out (by rw [List.length_drop]; omega)).mono ?_; rintro e w9 ⟨v9, rfl, hm9⟩; have HM9 := Lib.hid hm9; clear hm9) | fail)
      go_ret
      exact ⟨_, rfl, HC.out ▸ HM9.out.1, HM9.out.2.1 |> fun h b hb => Nat.le_trans HBw.out.size (h b hb), bel_trans HBw.out HM9.out.2.2⟩
  | false =>
    obtain rfl : u = p := by rw [hu]; rfl
    clear hu
    cases u with
    | zero =>
      go_enter Tryz.func187, Tryz.ntmps187
      go_upto_region 4 with (first | (go_at_call 198; refine (HS.out _ (by repeat (first | exact bel_refl _ | apply bel_alloc | apply bel_drew))).mono ?_; rintro e w1 ⟨rfl, hb1⟩; have HB1 := Lib.hid hb1; clear hb1) | fail)
      have HBw := Lib.hid (bel_trans (below_alloc w (.cells #[.int .i64 tw, .int .u32 tt, .int .u32 tm] 44)) HB1.out)
      have HR := HG.out
      have HC : Hid (l.drop 0 = r) := Lib.hid (by rw [HD.out, HR])
      clear HG HR
      go_wp2_with (with_reducible refine hold_slice ?_)
      unfold Hold
      refine wpList_cut_lo (kl := .i64) ok96 (0) (by rfl) (by rfl) (by simp) (HV.out.below HBw.out) (by omega) ?_
      intro v8 hv8
      have HV8 : Hid (RdV w1 v8 (l.drop (0))) := Lib.hid (by unfold RdV; rw [List.length_drop, flatV_drop]; exact hv8)
      clear hv8
      go_wp2_with (first | (go_at_call 210; refine (clonev_any v8 (l.drop (0)) _ HV8.out (by rw [List.length_drop]; omega)).mono ?_; rintro e w9 ⟨v9, rfl, hm9⟩; have HM9 := Lib.hid hm9; clear hm9) | fail)
      go_ret
      exact ⟨_, rfl, HC.out ▸ HM9.out.1, HM9.out.2.1 |> fun h b hb => Nat.le_trans HBw.out.size (h b hb), bel_trans HBw.out HM9.out.2.2⟩
    | succ i =>
      go_enter Tryz.func187, Tryz.ntmps187
      go_upto_region 4 with (first | (go_at_call 198; refine (HS.out _ (by repeat (first | exact bel_refl _ | apply bel_alloc | apply bel_drew))).mono ?_; rintro e w1 ⟨rfl, hb1⟩; have HB1 := Lib.hid hb1; clear hb1) | fail)
      have HBw := Lib.hid (bel_trans (below_alloc w (.cells #[.int .i64 tw, .int .u32 tt, .int .u32 tm] 44)) HB1.out)
      obtain ⟨x, hx⟩ : ∃ x, l[i]? = some x := ⟨l[i], List.getElem?_eq_getElem (by omega)⟩
      have HR := HG.out
      rw [hx] at HR
      simp only at HR
      obtain ⟨b, o, rfl, lb, c0, c1, c2, c3, c4, c5⟩ := rdV_cells (HV.out.below HBw.out) i x hx
      have hk1 : (0 : Int) ≤ (i : Int) := by omega
      have hk2 : (i : Int) < (l.length : Int) := by omega
      have hk3 : (0 : Int) < (i : Int) + 1 := by omega
      clear hx HG
      by_cases h3 : x.kind = 3
      · rw [if_pos h3] at HR
        have HC : Hid (l.drop (i + 1) = r) := Lib.hid (by rw [HD.out, HR])
        have e3 : (x.kind == 3) = true := by rw [beq_iff_eq]; exact h3
        clear h3 HR
        go_wp2_with (with_reducible refine hold_slice ?_)
        unfold Hold
        refine wpList_cut_lo (kl := .i64) ok96 (i + 1) (by rfl) (by rfl) (by simp) (HV.out.below HBw.out) (by omega) ?_
        intro v8 hv8
        have HV8 : Hid (RdV w1 v8 (l.drop (i + 1))) := Lib.hid (by unfold RdV; rw [List.length_drop, flatV_drop]; exact hv8)
        clear hv8
        go_wp2_with (first | (go_at_call 210; refine (clonev_any v8 (l.drop (i + 1)) _ HV8.out (by rw [List.length_drop]; omega)).mono ?_; rintro e w9 ⟨v9, rfl, hm9⟩; have HM9 := Lib.hid hm9; clear hm9) | fail)
        go_ret
        exact ⟨_, rfl, HC.out ▸ HM9.out.1, HM9.out.2.1 |> fun h b hb => Nat.le_trans HBw.out.size (h b hb), bel_trans HBw.out HM9.out.2.2⟩
      · rw [if_neg h3] at HR
        have HC : Hid (l.drop i = r) := Lib.hid (by rw [HD.out, HR])
        have e3 : (x.kind == 3) = false := bne_of h3
        clear h3 HR
        go_wp2_with (with_reducible refine hold_slice ?_)
        unfold Hold
        refine wpList_cut_lo (kl := .i64) ok96 (i) (by rfl) (by rfl) (by simp) (HV.out.below HBw.out) (by omega) ?_
        intro v8 hv8
        have HV8 : Hid (RdV w1 v8 (l.drop (i))) := Lib.hid (by unfold RdV; rw [List.length_drop, flatV_drop]; exact hv8)
        clear hv8
        go_wp2_with (first | (go_at_call 210; refine (clonev_any v8 (l.drop (i)) _ HV8.out (by rw [List.length_drop]; omega)).mono ?_; rintro e w9 ⟨v9, rfl, hm9⟩; have HM9 := Lib.hid hm9; clear hm9) | fail)
        go_ret
        exact ⟨_, rfl, HC.out ▸ HM9.out.1, HM9.out.2.1 |> fun h b hb => Nat.le_trans HBw.out.size (h b hb), bel_trans HBw.out HM9.out.2.2⟩
end Go.Proofs.YtbaflgddpciadaaGreat
