/- One segment of the document's disk changed. -/
import Derived.Test.YtokmiphgalpahaaWU
namespace Go.Proofs.Ytokmiphgalpahaa
open Go.RowKit Go.Kt
set_option maxRecDepth 100000

theorem own_setCell {e : TypeId} {size n cap g : Nat} {w : World} {xs : List Value} (h : Own e size w (.slice (some ⟨g, 0, none⟩) n cap) n xs) {j : Nat} (hj : j < n * size) (u : Value) : Own e size (w.setCell ⟨g, j, none⟩ u) (.slice (some ⟨g, 0, none⟩) n cap) n (xs.set j u) := by
  refine ⟨by rw [List.length_set]; exact h.1, .inr ?_⟩
  rcases h.2 with ⟨e1, _⟩ | ⟨g', cap', cur, e1, hb, hg, hn, hm, hcs, ht⟩
  · cases e1
  · injection e1 with e2 _ e3
    injection e2 with e2
    injection e2 with e2
    subst e2 e3
    refine ⟨g, cap, cur.setIfInBounds j u, rfl, hb, heap_setCell_same w g j cur e u hg, hn, hm, by rw [Array.size_setIfInBounds]; exact hcs, ?_⟩
    rw [Array.toList_setIfInBounds, List.take_set, ht]
theorem rcells_set : ∀ (rs : List RS) (i : Nat) (r : RS), i < rs.length → rcells (rs.set i r) = ((((rcells rs).set (i * 4) (.int .i64 r.n)).set (i * 4 + 1) r.sv).set (i * 4 + 2) r.lv).set (i * 4 + 3) (.bool r.kept)
  | [], i, r, h => by simp at h
  | t :: ks, 0, r, _ => rfl
  | t :: ks, i + 1, r, h => by
    have ih := rcells_set ks i r (by simpa using h)
    have e : ∀ (t : RS) (X : List RS), rcells (t :: X) = .int .i64 t.n :: t.sv :: t.lv :: .bool t.kept :: rcells X := fun _ _ => rfl
    rw [List.set_cons_succ, e, e, ih, show (i + 1) * 4 = i * 4 + 1 + 1 + 1 + 1 by omega]
    rfl
theorem rcells_set2 : ∀ (rs : List RS) (i : Nat) (r : RS) (v : Value) (b : List UInt8), rs[i]? = some r → rcells (rs.set i { r with lv := v, loose := b }) = (rcells rs).set (i * 4 + 2) v
  | [], i, r, v, b, h => by simp at h
  | t :: ks, 0, r, v, b, h => by
    obtain rfl : t = r := by simpa using h
    rfl
  | t :: ks, i + 1, r, v, b, h => by
    have ih := rcells_set2 ks i r v b (by simpa using h)
    have e : ∀ (t : RS) (X : List RS), rcells (t :: X) = .int .i64 t.n :: t.sv :: t.lv :: .bool t.kept :: rcells X := fun _ _ => rfl
    rw [List.set_cons_succ, e, e, ih, show (i + 1) * 4 + 2 = i * 4 + 2 + 1 + 1 + 1 + 1 by omega]
    rfl
/-- one place changed -/
theorem map_at {f : Pg → Pg} : ∀ (L : List Pg), L.Pairwise (fun a b => a.n < b.n) → ∀ (i : Nat) (p : Pg), L[i]? = some p → L.map (fun q => if q.n = p.n then f q else q) = L.set i (f p)
  | [], _, i, p, h => by simp at h
  | t :: ks, hp, 0, p, h => by
    obtain rfl : t = p := by simpa using h
    obtain ⟨h1, h2⟩ := List.pairwise_cons.1 hp
    rw [List.map_cons, if_pos rfl, List.set_cons_zero]
    congr 1
    conv => rhs; rw [← List.map_id ks]
    exact List.map_congr_left fun q hq => if_neg (by have := h1 q hq; omega)
  | t :: ks, hp, i + 1, p, h => by
    obtain ⟨h1, h2⟩ := List.pairwise_cons.1 hp
    have hk : ks[i]? = some p := by simpa using h
    rw [List.map_cons, if_neg (by have := h1 p (List.mem_of_getElem? hk); omega), map_at ks h2 i p hk, List.set_cons_succ]
variable {F G : Nat → Prop} {w w' w0 : World} {m : Nat} {P : Pd} {lv : Value} {rs : List RS}
/-- the document's disk somewhere -/
def RAt (G : Nat → Prop) (w : World) (m : Nat) (P : Pd) : Prop := ∃ lv rs, RefIs G w m P lv rs
def RDone (G : Nat → Prop) (w : World) (m : Nat) (r : Int × Pd) (e : Ending) (w' : World) : Prop := e = .returned (.int .i64 r.1) ∧ RAt (Plus G w w') w' m r.2 ∧ Turn G w w'
theorem idx_has (h : rs.map RS.pg = P.L) {n : Int} (hn : HasP n P.L) : ∃ (i : Nat) (r : RS), rs[i]? = some r ∧ r.n = n ∧ idxOf n rs = (i : Int) := by
  rw [← h] at hn
  obtain ⟨p, hp, e⟩ := hn
  obtain ⟨r, hr, rfl⟩ := List.mem_map.1 hp
  unfold idxOf
  cases hx : rs.findIdx? (fun r => r.n == n) with
  | none =>
    rw [List.findIdx?_eq_none_iff] at hx
    have := hx r hr
    simp at this
    exact (this e).elim
  | some i =>
    rw [List.findIdx?_eq_some_iff_getElem] at hx
    obtain ⟨hi, h1, _⟩ := hx
    exact ⟨i, rs[i], List.getElem?_eq_getElem hi, by simpa using h1, rfl⟩
theorem idx_no (h : rs.map RS.pg = P.L) {n : Int} (hn : ¬ HasP n P.L) : idxOf n rs = -1 := by
  unfold idxOf
  cases hx : rs.findIdx? (fun r => r.n == n) with
  | none => rfl
  | some i =>
    rw [List.findIdx?_eq_some_iff_getElem] at hx
    obtain ⟨hi, h1, _⟩ := hx
    refine (hn ?_).elim
    rw [← h]
    exact ⟨_, List.mem_map.2 ⟨rs[i], List.getElem_mem hi, rfl⟩, by simpa [RS.pg] using h1⟩
theorem pg_at (h : rs.map RS.pg = P.L) {i : Nat} {r : RS} (hr : rs[i]? = some r) : P.L[i]? = some r.pg := by rw [← h, List.getElem?_map, hr]; rfl
theorem seg_small (h : rs.map RS.pg = P.L) (hok : PdOk P) {i : Nat} {r : RS} (hr : rs[i]? = some r) : r.sure.length + r.loose.length ≤ 67108864 := by
  have h1 := usedP_le rs (i + 1)
  rw [usedP_take rs i r hr, h] at h1
  have := hok.tot
  have := hok.room1
  omega
/-- one segment of the document's disk changed, in a world in which its row is known -/
theorem RefIs.put (h : RefIs G w m P lv rs) {i : Nat} {r r' : RS} {P' : Pd} (hr : rs[i]? = some r) (hb : Blk w' m #[.int .i64 P'.room, lv, .int .i64 P'.fuse, .bool P'.down] 76)
    (ho : Own 80 4 w' lv rs.length (rcells (rs.set i r'))) (hrow : ∀ x ∈ rs, RowOk G w' x) (hr' : RowOk G w' r') (hP : P'.L = P.L.set i r'.pg) : RefIs G w' m P' lv (rs.set i r') := by
  refine ⟨hb, by rw [List.length_set]; exact ho, fun x hx => ?_, ?_, h.Gm, h.Gl⟩
  · rcases List.mem_or_eq_of_mem_set hx with hx | rfl
    · exact hrow x hx
    · exact hr'
  · rw [List.map_set, h.eq, hP]
def set4 (w : World) (g j : Nat) (a b c d : Value) : World := (((w.setCell ⟨g, j, none⟩ a).setCell ⟨g, j + 1, none⟩ b).setCell ⟨g, j + 2, none⟩ c).setCell ⟨g, j + 3, none⟩ d
theorem Turn.set4 {F : Nat → Prop} (h : Turn F w w') {g : Nat} (hg : F g) (j : Nat) (a b c d : Value) : Turn F w (set4 w' g j a b c d) :=
  (((h.set (a := ⟨g, j, none⟩) hg a).set (a := ⟨g, j + 1, none⟩) hg b).set (a := ⟨g, j + 2, none⟩) hg c).set (a := ⟨g, j + 3, none⟩) hg d
/-- a segment stored whole, behind calls that turned nothing -/
theorem ref_store {w1 w3 : World} {P1 P' : Pd} {g cap i : Nat} {r r' : RS} (hT : Turn G w w1) (h : RefIs G w1 m P1 (.slice (some ⟨g, 0, none⟩) rs.length cap) rs) (hb : Below w1.heap.size w1 w3) (hr : rs[i]? = some r)
    (h1 : Mine8 5 w1 w3 r'.sv r'.sure) (h2 : Mine8 5 w1 w3 r'.lv r'.loose) (e1 : P'.room = P1.room) (e2 : P'.fuse = P1.fuse) (e3 : P'.down = P1.down) (hP : P'.L = P1.L.set i r'.pg) :
    RefIs (Plus G w (set4 w3 g (i * 4) (.int .i64 r'.n) r'.sv r'.lv (.bool r'.kept))) (set4 w3 g (i * 4) (.int .i64 r'.n) r'.sv r'.lv (.bool r'.kept)) m P' (.slice (some ⟨g, 0, none⟩) rs.length cap) (rs.set i r') ∧ Turn G w (set4 w3 g (i * 4) (.int .i64 r'.n) r'.sv r'.lv (.bool r'.kept)) := by
  have hil := (List.getElem?_eq_some_iff.1 hr).1
  have h3 := h.next hb
  have hTs : Turn (· = g) w3 (set4 w3 g (i * 4) (.int .i64 r'.n) r'.sv r'.lv (.bool r'.kept)) := (Turn.refl (· = g) w3).set4 rfl _ _ _ _ _
  have hgG : G g := h.Gl g rfl
  have hT4 : Turn G w (set4 w3 g (i * 4) (.int .i64 r'.n) r'.sv r'.lv (.bool r'.kept)) := (hT.trans (Turn.of (F := fun _ => False) hb) (fun _ hx => hx.elim)).trans hTs (fun x hx => .inl (hx ▸ hgG))
  have hs : w.heap.size ≤ w1.heap.size := hT.size
  have hgb : ∀ {v : Value} {b : List UInt8}, Own8 5 w3 v b → Own8 5 (set4 w3 g (i * 4) (.int .i64 r'.n) r'.sv r'.lv (.bool r'.kept)) v b := fun ho => Own.keep ho fun b hbb => hTs.block b (ho.lt b hbb) (fun e => by
    subst e
    rcases h3.own.2 with ⟨e, _⟩ | ⟨g', cap', cur, e, _, hg, _⟩
    · cases e
    · injection e with e _ _
      injection e with e
      injection e with e
      subst e
      exact own_no_blk ho (show Blk w3 _ cur 80 from hg) (by decide) hbb)
  have hmg : m ≠ g := fun e => by
    subst e
    exact own_no_blk h3.own h3.blk (by decide) rfl
  have hup : ∀ {v : Value} {b : List UInt8}, Mine8 5 w1 w3 v b → ∀ x, v.ownBlock = some x → Plus G w (set4 w3 g (i * 4) (.int .i64 r'.n) r'.sv r'.lv (.bool r'.kept)) x := fun hm x hx => .inr ⟨by have := hm.2 x hx; omega, Nat.lt_of_lt_of_le (hm.1.lt x hx) hTs.size⟩
  refine ⟨(h3.more (H := Plus G w (set4 w3 g (i * 4) (.int .i64 r'.n) r'.sv r'.lv (.bool r'.kept))) (fun x hx => .inl hx)).put hr ?_ ?_ (fun x hx => ?_) ⟨hgb h1.1, hgb h2.1, hup h1, hup h2⟩ hP, hT4⟩
  · rw [e1, e2, e3]
    exact (hTs.block m h3.blk.lt hmg).trans h3.blk
  · rw [rcells_set rs i r' hil]
    have o1 := own_setCell h3.own (j := i * 4) (by omega) (.int .i64 r'.n)
    have o2 := own_setCell o1 (j := i * 4 + 1) (by omega) r'.sv
    have o3 := own_setCell o2 (j := i * 4 + 2) (by omega) r'.lv
    exact own_setCell o3 (j := i * 4 + 3) (by omega) (.bool r'.kept)
  · have hx3 := h3.rows x hx
    exact ⟨hgb hx3.1, hgb hx3.2.1, fun y hy => .inl (hx3.2.2.1 y hy), fun y hy => .inl (hx3.2.2.2 y hy)⟩
end Go.Proofs.Ytokmiphgalpahaa
