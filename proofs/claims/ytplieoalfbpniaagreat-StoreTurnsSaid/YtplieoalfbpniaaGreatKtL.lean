/- General facts, over any program: from a contract 'it returns true, and what was there is as it was' to a row's post; what an argument of some type reads as. -/
import Derived.Test.YtplieoalfbpniaaGreatKtA
import Derived.ProofKit
import Derived.OpenShut
import Derived.JoinedCond
import Derived.Carry
import Derived.ChangeSlices
import Derived.Lib.SlBytesConst
set_option linter.unusedVariables false
set_option linter.unusedSimpArgs false
namespace Go.Kt
open Go.RowKit in
/-- a row that was just made reads as its cells, whatever of it is frozen -/
theorem rd8_new {w : World} {e : TypeId} {cs : Array Value} {g n : Nat} {fr : Nat × Nat} (l : List UInt8) (hl : l.length ≤ maxLen) (hn : n = l.length) (hg : g = w.heap.size) (h : cs.toList = l.map by8) :
    Rd8 (w.alloc (.cells cs e fr)) (.slice (some ⟨g, 0, none⟩) n n) l := by
  subst hn; subst hg
  refine ⟨by simp, _, _, rfl, Nat.le_refl _, hl, (fun h => by cases h), fun j u hj => ⟨_, _, rfl, ?_⟩⟩
  rw [Nat.zero_add, cell_of_row _ w.heap.size j cs e fr (heap_alloc_new w _), ← Array.getElem?_toList, h]
  exact hj
open Go.ChangeShapes Go.WideShapes Go.ChangeAt Go.RowKit

/-- one place of a row of the call's own: it can be read and written -/
theorem Mine8.place {e : TypeId} {w0 w : World} {a : Option Addr} {n cap : Nat} {l : List UInt8} (h : Mine8 e w0 w (.slice a n cap) l) (k : Nat) (hk : k < l.length) :
    ∃ g, a = some ⟨g, 0, none⟩ ∧ w0.heap.size ≤ g ∧ w.cell? ⟨g, k, none⟩ = some (.int .u8 (l[k].toNat : Int)) ∧ w.frozen? ⟨g, k, none⟩ = false ∧
      ∀ u : UInt8, Mine8 e w0 (w.setCell ⟨g, k, none⟩ (.int .u8 (u.toNat : Int))) (.slice a n cap) (l.set k u) := by
  obtain ⟨ho, hz⟩ := h
  have ho' := ho
  rcases ho with ⟨hl, ⟨h1, h0⟩ | ⟨g, cap', cur, h1, hb, hg, hn, hm, hcs, ht⟩⟩
  · omega
  · injection h1 with e1 e2 e3
    subst e1; subst e2; subst e3
    have hown : w.ownsRow 0 e 1 (.slice (some ⟨g, 0, none⟩) l.length cap) l.length (l.map by8) := ho'
    refine ⟨g, rfl, hz g rfl, ?_, hown.frozenAt k, fun u => ⟨?_, fun b hb => hz b hb⟩⟩
    · rw [hown.cellAt k (by omega)]
      simp [List.getElem?_eq_getElem hk, by8]
    · have hst := (hown.stored k (by8 u)).1
      unfold Own8 Own
      rw [List.length_set, List.map_set]
      exact hst

section
variable {H : Type} {enc : TypeId × Value → H} {P : Program}

theorem trodAll_below (hl : laidOutB P = true) {W W' : World} (hb : Below W.heap.size W W') : ∀ (ts : List TypeId) (vs : List Value) (ds : List (DataW H)) (ps : List MemPlace),
    (∀ t ∈ ts, P.readableRec t = true ∧ t < P.types.size) → DataW.TrodAll enc P W 0 (fun _ => true) true ts vs ds ps → (∀ x ∈ ps, x.block < W.heap.size) →
    DataW.TrodAll enc P W' 0 (fun b => decide (b < W.heap.size)) true ts vs ds ps
  | [], [], [], _, _, h, _ => h
  | t :: ts, v :: vs, d :: ds, _, hr, h, hlt => by
    obtain ⟨p, q, h1, h2, rfl⟩ := h
    exact ⟨p, q, Below.trod hl (hr t (by simp)).1 (hr t (by simp)).2 h1 hb (fun x hx => hlt x (List.mem_append_left _ hx)),
      trodAll_below hl hb ts vs ds q (fun t ht => hr t (List.mem_cons_of_mem _ ht)) h2 (fun x hx => hlt x (List.mem_append_right _ hx)), rfl⟩
  | [], [], _ :: _, _, _, h, _ => h.elim
  | [], _ :: _, _, _, _, h, _ => h.elim
  | _ :: _, [], _, _, _, h, _ => h.elim
  | _ :: _, _ :: _, [], _, _, h, _ => h.elim

/-- A LAW's POST: true, and nothing that was there has turned. -/
theorem law_post {f : Func} {s : ChangeSpec} {tb : TypeId} {w w' : World} {args : Array Value} {ds gs : List (DataW H)} {before : List MemPlace} (hl : laidOutB P = true)
    (hr : (f.params.toList.all fun t => P.readableRec t && decide (t < P.types.size)) = true) (hv : s.vars = []) (hres : f.resultTypes = #[tb]) (htb : P.underlying tb = some .bool)
    (hfn : s.fn H ds = { results := [.lit (.bool true)], args := ds })
    (hW : DataW.Whole enc P f.params.toList s.vars false w args.toList ds gs before) (hb : Below w.heap.size w w') : s.post enc P f false true false false w args (.bool true) w' := by
  have hlt := hW.lt
  have hW0 := hW
  obtain ⟨p, q, hA, hV, rfl, hfz, hnd⟩ := hW0
  rw [hv] at hV
  obtain ⟨rfl, rfl⟩ : gs = [] ∧ q = [] := by
    cases gs with
    | nil => exact ⟨rfl, hV⟩
    | cons _ _ => exact hV.elim
  have hfn' : s.fn H (ds ++ []) = { results := [.lit (.bool true)], args := ds } := by rw [List.append_nil]; exact hfn
  refine ⟨ds, [], p ++ [], [], p, [], hW, ?_, ?_, ?_, ?_, fun h => by cases h⟩
  · rw [hfn', hres]
    exact ⟨[], [], shut_bool htb true, rfl, rfl⟩
  · rw [hfn']
    exact trodAll_below hl hb _ _ _ _ (fun t ht => by have := List.all_eq_true.1 hr t ht; simpa using this) hA (fun x hx => hlt x (by simpa using hx))
  · rw [hv, hfn']
    rfl
  · exact hb.frame _

/-- what a slice of bytes that came in reads as -/
theorem open_rd8' {t e : TypeId} {w : World} {fuel : Nat} {cs : List Value} {x : DataW H × List MemPlace} (ht : P.underlying t = some (.slice e)) (he : P.underlying e = some (.int .u8)) (hc : P.cellsOf e = 1)
    (h : DataW.trod enc P w 0 (fun _ => true) true fuel t cs = some x) :
    ∃ (v : Value) (l : List UInt8), cs = [v] ∧ Rd8 w v l ∧ (x.1 = .nil ∧ l = [] ∨ ∃ elems spare, x.1 = .slice elems spare ∧ elems.length = l.length) := by
  rcases open_ints ht he hc h with ⟨hcs, hx⟩ | ⟨a, len, cap, zs, hcs, _, hl, hm, hz, hx, hcell, hwz⟩
  · cases hx
    exact ⟨_, [], hcs, ⟨rfl, none, 0, rfl, Nat.le_refl _, by simp [maxLen], fun _ => rfl, fun j u hj => by simp at hj⟩, .inl ⟨rfl, rfl⟩⟩
  · cases hx
    simp only [if_true] at hz
    have hlen : ((zs.take len).map fun z => UInt8.ofNat z.toNat).length = len := by simp; omega
    refine ⟨_, (zs.take len).map fun z => UInt8.ofNat z.toNat, hcs, ⟨by simp, some a, cap, by rw [hlen], by omega, hm, (fun h => by cases h), fun j u hj => ?_⟩, .inr ⟨_, _, rfl, ?_⟩⟩
    · rw [List.map_map, List.getElem?_map] at hj
      have hj' : j < len := by
        rcases Nat.lt_or_ge j len with h | h
        · exact h
        · rw [List.getElem?_take, if_neg (by omega)] at hj; simp at hj
      have hjz : j < zs.length := by omega
      rw [List.getElem?_take, if_pos hj', List.getElem?_eq_getElem hjz] at hj
      simp only [Option.map_some, Option.some.injEq, Function.comp] at hj
      have hw := hwz zs[j] (List.getElem_mem hjz)
      have hb : 0 ≤ zs[j] ∧ zs[j] ≤ 255 := by simpa [Lit.wf, IntKind.min, IntKind.max, IntKind.signed, IntKind.bits] using hw
      have hcj := hcell j hjz
      have e1 : zs.getD j 0 = zs[j] := by simp [List.getD, List.getElem?_eq_getElem hjz]
      rw [e1] at hcj
      have e2 : u = .int .u8 zs[j] := by
        rw [← hj]
        unfold by8
        congr 1
        rw [UInt8.toNat_ofNat', Nat.mod_eq_of_lt (by omega)]
        omega
      obtain ⟨b, o, s⟩ := a
      have hs : s = none := by
        have h0 := hcell 0 (by omega)
        unfold Addr.add at h0
        simp only [if_true] at h0
        cases s with
        | none => rfl
        | some x =>
          simp [World.cell?] at h0
          split at h0 <;> simp at h0
      subst hs
      refine ⟨b, o, rfl, ?_⟩
      rw [e2, ← hcj, Addr.add_lit]
    · simp [lits]

theorem open_rd8 {t e : TypeId} {w : World} {base : Nat} {v : Value} {d : DataW H} {ps : List MemPlace} (ht : P.underlying t = some (.slice e)) (he : P.underlying e = some (.int .u8)) (hc : P.cellsOf e = 1)
    (hval : Value.okWide P w .any base t v) (h : DataW.Trod enc P w 0 (fun _ => true) true t v d ps) :
    ∃ l : List UInt8, Rd8 w v l ∧ (d = .nil ∧ l = [] ∨ ∃ elems spare, d = .slice elems spare ∧ elems.length = l.length) := by
  obtain ⟨a0, len0, cap0, rfl⟩ := okWide_slice ht hval
  obtain ⟨fuel, hf⟩ := h
  obtain ⟨v, l, hv, h1, h2⟩ := open_rd8' ht he hc hf
  simp [Value.cells] at hv
  subst hv
  exact ⟨l, h1, h2⟩

theorem flatten_get {α : Type} (size : Nat) (hs : 0 < size) : ∀ (css : List (List α)), (∀ c ∈ css, c.length = size) → ∀ j, css.flatten[j]? = (css[j / size]?).bind (·[j % size]?)
  | [], _, j => by simp
  | c :: css, h, j => by
    have hc := h c (by simp)
    rw [List.flatten_cons, List.getElem?_append]
    by_cases hj : j < c.length
    · rw [if_pos hj]
      have h0 : j / size = 0 := Nat.div_eq_of_lt (by omega)
      have h1 : j % size = j := Nat.mod_eq_of_lt (by omega)
      rw [h0, h1]; simp
    · rw [if_neg hj, flatten_get size hs css (fun c hc => h c (by simp [hc])) (j - c.length), hc]
      have h0 : j / size = (j - size) / size + 1 := by
        rw [Nat.div_eq_sub_div hs (by omega)]
      have h1 : j % size = (j - size) % size := by
        rw [Nat.mod_eq_sub_mod (by omega)]
      rw [h0, h1]; simp

/-- what a slice that came in reads as: its elements' cells, and of each what these read as -/
theorem open_row {t e : TypeId} {w : World} {fuel : Nat} {cs : List Value} {x : DataW H × List MemPlace} (ht : P.underlying t = some (.slice e)) (hsz : 0 < P.cellsOf e)
    (h : DataW.trod enc P w 0 (fun _ => true) true fuel t cs = some x) :
    ∃ (v : Value) (css : List (List Value)) (xs : List (DataW H × List MemPlace)), cs = [v] ∧ RdRow (P.cellsOf e) w v css.length css.flatten ∧ (∀ c ∈ css, c.length = P.cellsOf e) ∧ xs.length = css.length ∧
      (∀ (i : Nat) (c : List Value) (y : DataW H × List MemPlace), css[i]? = some c → xs[i]? = some y → ∃ n, DataW.trod enc P w 0 (fun _ => true) true n e c = some y) ∧
      (x.1 = .nil ∧ css = [] ∨ ∃ spare, x.1 = .slice (xs.map (·.1)) spare) := by
  rcases DataW.trod_slice ht h with ⟨rfl, rfl⟩ | ⟨a, len, cap, elems, rest, n, rfl, rfl, rfl, hb, hl, hm, hlen, hel, hsp, hns⟩
  · exact ⟨_, [], [], rfl, ⟨by simp, none, 0, rfl, Nat.le_refl _, by simp [maxLen], fun _ => rfl, fun j u hj => by simp at hj⟩, by simp, rfl, by simp, .inl ⟨rfl, rfl⟩⟩
  · -- each element's cells
    have each : ∀ i, i < len → ∃ c, w.cells? 0 (a.add (i * P.cellsOf e)) (P.cellsOf e) = some c ∧ ∃ y, elems[i]? = some y ∧ DataW.trod enc P w 0 (fun _ => true) true n e c = some y := by
      intro i hi
      have h1 := hel i hi
      rw [List.getElem?_eq_getElem (by omega)] at h1
      obtain ⟨c, hc, hy⟩ := Option.bind_eq_some_iff.1 h1
      exact ⟨c, hc, _, List.getElem?_eq_getElem (by omega), hy⟩
    have hspot : 0 < len → a.spot = none := by
      intro h0
      obtain ⟨c, hc, _⟩ := each 0 h0
      obtain ⟨_, hcl, hcc⟩ := World.cells?_some hc
      have h1 := hcc 0 hsz
      rw [List.getElem?_eq_getElem (by omega)] at h1
      obtain ⟨b, o, s⟩ := a
      cases s with
      | none => rfl
      | some s =>
        simp [Addr.add, World.cell?] at h1
        split at h1 <;> simp at h1
    let css : List (List Value) := (List.range len).map fun i => (w.cells? 0 (a.add (i * P.cellsOf e)) (P.cellsOf e)).getD []
    have hcl : css.length = len := by simp [css]
    have hcget : ∀ (i : Nat) (c : List Value), css[i]? = some c → i < len ∧ w.cells? 0 (a.add (i * P.cellsOf e)) (P.cellsOf e) = some c := by
      intro i c hic
      have hi : i < len := by
        have := (List.getElem?_eq_some_iff.1 hic).1
        omega
      obtain ⟨c', hc', _⟩ := each i hi
      have : css[i]? = some c' := by simp [css, hi, hc']
      rw [hic] at this
      cases this
      exact ⟨hi, hc'⟩
    have hcs : ∀ c ∈ css, c.length = P.cellsOf e := by
      intro c hc
      obtain ⟨i, hi⟩ := List.mem_iff_getElem?.1 hc
      exact (World.cells?_some (hcget i c hi).2).2.1
    refine ⟨_, css, elems, rfl, ⟨?_, some a, cap, by rw [hcl], by omega, hm, (fun h => by cases h), fun j u hj => ?_⟩, hcs, by rw [hcl, hlen], fun i c y hc hy => ?_, .inr ⟨_, rfl⟩⟩
    · have : ∀ (l : List (List Value)), (∀ c ∈ l, c.length = P.cellsOf e) → l.flatten.length = l.length * P.cellsOf e := by
        intro l
        induction l with
        | nil => intro _; simp
        | cons c l ih => intro hl; rw [List.flatten_cons, List.length_append, ih (fun c hc => hl c (by simp [hc])), hl c (by simp), List.length_cons, Nat.add_mul, Nat.one_mul, Nat.add_comm]
      exact this css hcs
    · rw [flatten_get _ hsz css hcs] at hj
      obtain ⟨c, hc, hu⟩ := Option.bind_eq_some_iff.1 hj
      obtain ⟨hi, hcc⟩ := hcget _ c hc
      obtain ⟨_, _, hcell⟩ := World.cells?_some hcc
      have h1 := hcell (j % P.cellsOf e) (Nat.mod_lt _ hsz)
      rw [hu] at h1
      have hs := hspot (Nat.lt_of_le_of_lt (Nat.zero_le _) hi)
      obtain ⟨b, o, s⟩ := a
      simp only at hs
      subst hs
      refine ⟨b, o, rfl, ?_⟩
      rw [Addr.add_lit, Addr.add_lit, Nat.add_assoc, Nat.mul_comm, Nat.div_add_mod] at h1
      exact h1
    · obtain ⟨hi, hcc⟩ := hcget i c hc
      obtain ⟨c', hc', y', hy', ht'⟩ := each i hi
      rw [hcc] at hc'
      cases hc'
      rw [hy] at hy'
      cases hy'
      exact ⟨n, ht'⟩

end

end Go.Kt
