/- WalPlays: the state between two steps (plain and in memory). -/
import Derived.Test.YtokmiphgalpahaaVM
import Derived.Test.YtokmiphgalpahaaVC
import Derived.Test.YtokmiphgalpahaaVI
import Derived.BigQuiet
import Derived.Deep.QuietTactic
namespace Go.Proofs.Ytokmiphgalpahaa
open Go.RowKit Go.Kt
set_option maxRecDepth 100000
variable {w0 w w' w1 w2 W : World} {d mb m wb rb : Nat} {P Q : Pd} {H H' X X' K K2 : Nat → Prop} {s t B : Int} {bv cv wv rv : Value}

/-- the state between two steps -/
def St (w0 w : World) (d mb m : Nat) (B : Int) (P : Pd) (wv rv : Value) (X : Nat → Prop) : Prop :=
  Nums B P ∧ ((wv = .pointer none ∧ rv = .pointer none ∧ B2 w0 w d mb m P P X ∧ ∀ x, X x → x < w.heap.size) ∨ ∃ wb rb s bv cv, wv = .pointer (some ⟨wb, 0, none⟩) ∧ rv = .pointer (some ⟨rb, 0, none⟩) ∧ 1 ≤ s ∧ s ≤ B ∧ L2 w0 w d mb m P P wb rb s s bv cv X)
theorem St.more {C : Int} (h : St w0 w d mb m B P wv rv X) (hc : B ≤ C) : St w0 w d mb m C P wv rv X := by
  obtain ⟨h1, h2 | ⟨wb, rb, s, bv, cv, e1, e2, h3, h4, h5⟩⟩ := h
  · exact ⟨h1.more hc, .inl h2⟩
  · exact ⟨h1.more hc, .inr ⟨wb, rb, s, bv, cv, e1, e2, h3, by omega, h5⟩⟩
theorem St.next (h : St w0 w d mb m B P wv rv X) (hb : Below w.heap.size w w') (hX : ∀ x, X' x → (X x ∨ w.heap.size ≤ x) ∧ x < w'.heap.size) : St w0 w' d mb m B P wv rv X' := by
  obtain ⟨h1, ⟨e1, e2, h2, h3⟩ | ⟨wb, rb, s, bv, cv, e1, e2, h3, h4, h5⟩⟩ := h
  · exact ⟨h1, .inl ⟨e1, e2, h2.next hb (fun x hx => (hX x hx).1), fun x hx => (hX x hx).2⟩⟩
  · exact ⟨h1, .inr ⟨wb, rb, s, bv, cv, e1, e2, h3, h4, h5.next hb hX⟩⟩
theorem St.b2 (h : St w0 w d mb m B P wv rv X) : B2 w0 w d mb m P P X := by
  obtain ⟨h1, ⟨e1, e2, h2, h3⟩ | ⟨wb, rb, s, bv, cv, e1, e2, h3, h4, h5⟩⟩ := h
  · exact h2
  · exact h5.b.next (bel_refl _) (fun x hx => .inl (.inr hx))
theorem St.lt (h : St w0 w d mb m B P wv rv X) : ∀ x, X x → x < w.heap.size := by
  obtain ⟨h1, ⟨e1, e2, h2, h3⟩ | ⟨wb, rb, s, bv, cv, e1, e2, h3, h4, h5⟩⟩ := h
  · exact h3
  · exact fun x hx => (h5.x x hx).2.2
theorem l2_make {z : Int} (h0 : w0.heap.size ≤ w.heap.size) (hX : ∀ x, X x → x < w.heap.size) (hK : ∀ x, K x → w.heap.size ≤ x ∧ x < w1.heap.size) (hK2 : ∀ x, K2 x → w1.heap.size ≤ x ∧ x < w2.heap.size) (hs : w.heap.size ≤ w1.heap.size) (hT2 : Turn (fun x => w0.heap.size ≤ x ∧ ¬ (K x ∨ X x)) w1 w2)
    (hB : B2 w0 w2 d mb m P Q (fun x => K2 x ∨ (K x ∨ X x))) (hw : K wb) (hW : Blk w1 wb #[.pointer (some ⟨d, 0, none⟩), .int .i64 z] 64) (hr : K2 rb) (hR : Blk w2 rb #[.pointer (some ⟨m, 0, none⟩), .int .i64 z, bv, cv] 52) : L2 w0 w2 d mb m P Q wb rb z z bv cv X := by
  have h1 := hK _ hw
  have h2 := hK2 _ hr
  refine ⟨hB.next (bel_refl _) (fun x hx => .inl ?_), blkT hW hT2 (fun hh => hh.2 (.inl hw)), hR, by omega, by omega, fun x hx => ?_⟩
  · rcases hx with (rfl | rfl) | hx
    · exact .inr (.inl hw)
    · exact .inl hr
    · exact .inr (.inr hx)
  · have := hX x hx
    exact ⟨by omega, by omega, by omega⟩
/-- what Open handed out, value by value -/
def OpenV (K : Nat → Prop) (w : World) (d : Nat) (r : Int × Option Opn × Pd) (wv bv lv : Value) (z : Int) : Prop := match r.2.1 with
  | none => wv = .pointer none ∧ bv = .slice none 0 0 ∧ lv = .slice none 0 0 ∧ z = r.1
  | some o => z = 0 ∧ ∃ wb, wv = .pointer (some ⟨wb, 0, none⟩) ∧ K wb ∧ Blk w wb #[.pointer (some ⟨d, 0, none⟩), .int .i64 o.seg] 64 ∧ In8 K w bv o.base ∧ OwnBs K w lv o.recs
theorem openRet_v {r : Int × Option Opn × Pd} {e : Ending} (h : OpenRet K w d r e) : ∃ wv bv lv z, e = .returned (.tuple #[wv, bv, lv, .int .i64 z]) ∧ OpenV K w d r wv bv lv z := by
  unfold OpenRet at h
  unfold OpenV
  cases ho : r.2.1 with
  | none =>
    rw [ho] at h
    exact ⟨_, _, _, _, h, rfl, rfl, rfl, rfl⟩
  | some o =>
    rw [ho] at h
    obtain ⟨wb, bv, rv, rfl, h1, h2, h3, h4⟩ := h
    exact ⟨_, _, _, _, rfl, rfl, wb, rfl, h1, h2, h3, h4⟩
/-- what the document's Open handed out, value by value -/
def ROpenV (K : Nat → Prop) (w : World) (m : Nat) (r : Int × Option Opn × Pd) (rv : Value) (z : Int) : Prop := match r.2.1 with
  | none => rv = .pointer none ∧ z = r.1
  | some o => z = 0 ∧ ∃ rb bv lv, rv = .pointer (some ⟨rb, 0, none⟩) ∧ K rb ∧ Blk w rb #[.pointer (some ⟨m, 0, none⟩), .int .i64 o.seg, bv, lv] 52 ∧ In8 K w bv o.base ∧ OwnBs K w lv o.recs
theorem ropenRet_v {r : Int × Option Opn × Pd} {e : Ending} (h : ROpenRet K w m r e) : ∃ rv z, e = .returned (.tuple #[rv, .int .i64 z]) ∧ ROpenV K w m r rv z := by
  unfold ROpenRet at h
  unfold ROpenV
  cases ho : r.2.1 with
  | none =>
    rw [ho] at h
    exact ⟨_, _, h, rfl, rfl⟩
  | some o =>
    rw [ho] at h
    obtain ⟨rb, bv, rv, rfl, h1, h2, h3, h4⟩ := h
    exact ⟨_, _, rfl, rfl, rb, bv, rv, rfl, h1, h2, h3, h4⟩
/-- what both handed out is the same -/
def Told (w : World) (m : Nat) (wv bv lv rv : Value) : Prop :=
  (wv = .pointer none ∧ rv = .pointer none) ∨ ∃ wb rb s base recs cv dv, wv = .pointer (some ⟨wb, 0, none⟩) ∧ rv = .pointer (some ⟨rb, 0, none⟩) ∧ Rd8 w bv base ∧ RdBs w lv recs ∧ Blk w rb #[.pointer (some ⟨m, 0, none⟩), .int .i64 s, cv, dv] 52 ∧ Rd8 w cv base ∧ RdBs w dv recs
theorem opened_two {R : Int × Option Opn × Pd} {bv lv : Value} {z z2 : Int} (h0 : w0.heap.size ≤ w.heap.size) (hX : ∀ x, X x → x < w.heap.size) (hK : ∀ x, K x → w.heap.size ≤ x ∧ x < w1.heap.size) (hK2 : ∀ x, K2 x → w1.heap.size ≤ x ∧ x < w2.heap.size) (hs : w.heap.size ≤ w1.heap.size) (hT2 : Turn (fun x => w0.heap.size ≤ x ∧ ¬ (K x ∨ X x)) w1 w2)
    (hB : B2 w0 w2 d mb m R.2.2 R.2.2 (fun x => K2 x ∨ (K x ∨ X x))) (h1 : OpenV K w1 d R wv bv lv z) (h2 : ROpenV K2 w2 m R rv z2) (hN : Nums B R.2.2) (hseg : ∀ o, R.2.1 = some o → 1 ≤ o.seg ∧ o.seg ≤ B) :
    z = z2 ∧ St w0 w2 d mb m B R.2.2 wv rv X ∧ Told w2 m wv bv lv rv := by
  have hs2 := hT2.size
  unfold OpenV at h1
  unfold ROpenV at h2
  cases ho : R.2.1 with
  | none =>
    rw [ho] at h1 h2
    obtain ⟨rfl, rfl, rfl, rfl⟩ := h1
    obtain ⟨rfl, rfl⟩ := h2
    exact ⟨rfl, ⟨hN, .inl ⟨rfl, rfl, hB.next (bel_refl _) (fun x hx => .inl (.inr (.inr hx))), fun x hx => by have := hX x hx; omega⟩⟩, .inl ⟨rfl, rfl⟩⟩
  | some o =>
    rw [ho] at h1 h2
    obtain ⟨rfl, wb, rfl, kw, hW, h8, hbs⟩ := h1
    obtain ⟨rfl, rb, cv, dv, rfl, kr, hR, h8', hbs'⟩ := h2
    obtain ⟨q1, q2⟩ := hseg o ho
    exact ⟨rfl, ⟨hN, .inr ⟨wb, rb, o.seg, cv, dv, rfl, rfl, q1, q2, l2_make h0 hX hK hK2 hs hT2 hB kw hW kr hR⟩⟩, .inr ⟨wb, rb, o.seg, o.base, o.recs, cv, dv, rfl, rfl, (h8.keep hT2 (fun x hx hh => hh.2 (.inl hx))).rd, (hbs.keep hT2 (fun x hx hh => hh.2 (.inl hx))).rd, hR, h8'.rd, hbs'.rd⟩⟩
/-- the worlds in which what lay stands -/
structure GrownOf (w : World) where
  W : World
  b : Below w.heap.size w W
instance (w : World) : Nonempty (GrownOf w) := ⟨⟨w, bel_refl w⟩⟩
/-- a region that draws its order and whose operations and callees leave what lay as it was: one walk in the order of the text -/
theorem wp_region_grown {P : Program} {id : Nat} {Q : Exit → Act → World → Prop} {a : Act} {w : World} {l : List Oper} (hm : P.follows .mixedOrders = true) (hB : Region.lexB .any l.toArray = true)
    (h : wpQuiet P l.toArray (fun w' => ∃ g : GrownOf w, w' = g.W) (fun a' => ∀ w', (∃ g : GrownOf w, w' = g.W) → Q .normal a' w') l a) : (Code.region id l.toArray true).wp P Q a w :=
  wp_region_quiet (C := fun w' => ∃ g : GrownOf w, w' = g.W) hm hB ⟨⟨_, below_drewN w 1⟩, rfl⟩ (by simpa using h)
theorem st_does (h : St w0 w d mb m B P wv rv X) (o : Op) (hk : o.kind = 3 ∨ o.kind = 4) {pv kv : Value} (hop : OpOk w0 o pv kv) (hkl : o.keep.length * 8 ≤ 140737488355328) : Calls Try.prog 14 #[.pointer (some ⟨d, 0, none⟩), .pointer (some ⟨m, 0, none⟩), .agg #[.int .i64 o.kind, .int .i64 o.n, pv, kv]] w fun e w' => e = .returned (.bool true) ∧ St w0 w' d mb m B (P.step o) wv rv X ∧ KeptX X w w' := by
  have hb := h.b2
  have hN : Nums B (P.step o) := by
    unfold Pd.step
    rcases hk with hk | hk
    · rw [if_neg (by omega), if_neg (by omega), if_neg (by omega), if_pos hk]
      exact h.1.setFuse _
    · rw [if_neg (by omega), if_neg (by omega), if_neg (by omega), if_neg (by omega), if_pos hk]
      exact h.1.crash _
  obtain ⟨h1, ⟨e1, e2, h2, h3⟩ | ⟨wb, rb, s, bv, cv, e1, e2, h3, h4, h5⟩⟩ := h
  · refine (does34 h2 h3 o hk hop hkl).mono ?_
    rintro e w1 ⟨rfl, hB, hT⟩
    have hs := hT.size
    exact ⟨rfl, ⟨hN, .inl ⟨e1, e2, hB, fun x hx => by have := h3 x hx; omega⟩⟩, fun g cs ty hg hh => blkT hh hT (fun hf => hf.2 hg)⟩
  · refine (does34 h5.b h5.lt o hk hop hkl).mono ?_
    rintro e w1 ⟨rfl, hB, hT⟩
    have hs := hT.size
    exact ⟨rfl, ⟨hN, .inr ⟨wb, rb, s, bv, cv, e1, e2, h3, h4, hB, blkT h5.kw hT (fun hf => hf.2 (.inl (.inl rfl))), blkT h5.kr hT (fun hf => hf.2 (.inl (.inr rfl))), h5.low, h5.lor, fun x hx => ⟨(h5.x x hx).1, (h5.x x hx).2.1, by have := (h5.x x hx).2.2; omega⟩⟩⟩, fun g cs ty hg hh => blkT hh hT (fun hf => hf.2 (.inr hg))⟩
end Go.Proofs.Ytokmiphgalpahaa
