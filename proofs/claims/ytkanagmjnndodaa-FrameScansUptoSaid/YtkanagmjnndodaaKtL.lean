/- General facts, over any program: from a contract 'it returns true, and what was there is as it was' to a row's post; what an argument of some type reads as. -/
import Derived.Test.YtkanagmjnndodaaKtA
import Derived.ProofKit
import Derived.OpenShut
import Derived.JoinedCond
import Derived.Carry
import Derived.ChangeSlices
import Derived.Lib.SlBytesConst
namespace Go.Kt
open Go.RowKit in
/-- a row that was just made reads as its cells, whatever of it is frozen -/
theorem rd8_new {w : World} {e : TypeId} {cs : Array Value} {g n : Nat} {fr : Nat × Nat} (l : List UInt8) (hl : l.length ≤ maxLen) (hn : n = l.length) (hg : g = w.heap.size) (h : cs.toList = l.map by8) :
    Rd8 (w.alloc (.cells cs e fr)) (.slice (some ⟨g, 0, none⟩) n n) l := by
  subst hn; subst hg
  refine ⟨by simp, _, _, rfl, Nat.le_refl _, hl, (fun h => by cases h), fun j u hj => ⟨_, _, rfl, ?_⟩⟩
  rw [Nat.zero_add, cell_of_row _ w.heap.size j cs e fr (heap_alloc_new w _), ← Array.getElem?_toList, h]
  exact hj
open Go.ChangeShapes Go.WideShapes Go.ChangeAt Go.RowKit

/-- one place of a row of the call's own: it can be read and written -/
theorem Mine8.place {e : TypeId} {w0 w : World} {a : Option Addr} {n cap : Nat} {l : List UInt8} (h : Mine8 e w0 w (.slice a n cap) l) (k : Nat) (hk : k < l.length) :
    ∃ g, a = some ⟨g, 0, none⟩ ∧ w0.heap.size ≤ g ∧ w.cell? ⟨g, k, none⟩ = some (.int .u8 (l[k].toNat : Int)) ∧ w.frozen? ⟨g, k, none⟩ = false ∧
      ∀ u : UInt8, Mine8 e w0 (w.setCell ⟨g, k, none⟩ (.int .u8 (u.toNat : Int))) (.slice a n cap) (l.set k u) := by
  obtain ⟨ho, hz⟩ := h
  have ho' := ho
  rcases ho with ⟨hl, ⟨h1, h0⟩ | ⟨g, cap', cur, h1, hb, hg, hn, hm, hcs, ht⟩⟩
  · omega
  · injection h1 with e1 e2 e3
    subst e1; subst e2; subst e3
    have hown : w.ownsRow 0 e 1 (.slice (some ⟨g, 0, none⟩) l.length cap) l.length (l.map by8) := ho'
    refine ⟨g, rfl, hz g rfl, ?_, hown.frozenAt k, fun u => ⟨?_, fun b hb => hz b hb⟩⟩
    · rw [hown.cellAt k (by omega)]
      simp [List.getElem?_eq_getElem hk, by8]
    · have hst := (hown.stored k (by8 u)).1
      unfold Own8 Own
      rw [List.length_set, List.map_set]
      exact hst

section
variable {H : Type} {enc : TypeId × Value → H} {P : Program}

theorem trodAll_below (hl : laidOutB P = true) {W W' : World} (hb : Below W.heap.size W W') : ∀ (ts : List TypeId) (vs : List Value) (ds : List (DataW H)) (ps : List MemPlace),
    (∀ t ∈ ts, P.readableRec t = true ∧ t < P.types.size) → DataW.TrodAll enc P W 0 (fun _ => true) true ts vs ds ps → (∀ x ∈ ps, x.block < W.heap.size) →
    DataW.TrodAll enc P W' 0 (fun b => decide (b < W.heap.size)) true ts vs ds ps
  | [], [], [], _, _, h, _ => h
  | t :: ts, v :: vs, d :: ds, _, hr, h, hlt => by
    obtain ⟨p, q, h1, h2, rfl⟩ := h
    exact ⟨p, q, Below.trod hl (hr t (by simp)).1 (hr t (by simp)).2 h1 hb (fun x hx => hlt x (List.mem_append_left _ hx)),
      trodAll_below hl hb ts vs ds q (fun t ht => hr t (List.mem_cons_of_mem _ ht)) h2 (fun x hx => hlt x (List.mem_append_right _ hx)), rfl⟩
  | [], [], _ :: _, _, _, h, _ => h.elim
  | [], _ :: _, _, _, _, h, _ => h.elim
  | _ :: _, [], _, _, _, h, _ => h.elim
  | _ :: _, _ :: _, [], _, _, h, _ => h.elim

/-- A LAW's POST: true, and nothing that was there has turned. -/
theorem law_post {f : Func} {s : ChangeSpec} {tb : TypeId} {w w' : World} {args : Array Value} {ds gs : List (DataW H)} {before : List MemPlace} (hl : laidOutB P = true)
    (hr : (f.params.toList.all fun t => P.readableRec t && decide (t < P.types.size)) = true) (hv : s.vars = []) (hres : f.resultTypes = #[tb]) (htb : P.underlying tb = some .bool)
    (hfn : s.fn H ds = { results := [.lit (.bool true)], args := ds })
    (hW : DataW.Whole enc P f.params.toList s.vars false w args.toList ds gs before) (hb : Below w.heap.size w w') : s.post enc P f false true false false w args (.bool true) w' := by
  have hlt := hW.lt
  have hW0 := hW
  obtain ⟨p, q, hA, hV, rfl, hfz, hnd⟩ := hW0
  rw [hv] at hV
  obtain ⟨rfl, rfl⟩ : gs = [] ∧ q = [] := by
    cases gs with
    | nil => exact ⟨rfl, hV⟩
    | cons _ _ => exact hV.elim
  have hfn' : s.fn H (ds ++ []) = { results := [.lit (.bool true)], args := ds } := by rw [List.append_nil]; exact hfn
  refine ⟨ds, [], p ++ [], [], p, [], hW, ?_, ?_, ?_, ?_, fun h => by cases h⟩
  · rw [hfn', hres]
    exact ⟨[], [], shut_bool htb true, rfl, rfl⟩
  · rw [hfn']
    exact trodAll_below hl hb _ _ _ _ (fun t ht => by have := List.all_eq_true.1 hr t ht; simpa using this) hA (fun x hx => hlt x (by simpa using hx))
  · rw [hv, hfn']
    rfl
  · exact hb.frame _

/-- what a slice of bytes that came in reads as -/
theorem open_rd8 {t e : TypeId} {w : World} {base : Nat} {v : Value} {d : DataW H} {ps : List MemPlace} (ht : P.underlying t = some (.slice e)) (he : P.underlying e = some (.int .u8)) (hc : P.cellsOf e = 1)
    (hval : Value.okWide P w .any base t v) (h : DataW.Trod enc P w 0 (fun _ => true) true t v d ps) :
    ∃ l : List UInt8, Rd8 w v l ∧ (d = .nil ∧ l = [] ∨ ∃ elems spare, d = .slice elems spare ∧ elems.length = l.length) := by
  obtain ⟨a0, len0, cap0, rfl⟩ := okWide_slice ht hval
  obtain ⟨fuel, hf⟩ := h
  rcases open_ints ht he hc hf with ⟨hcs, hx⟩ | ⟨a, len, cap, zs, hcs, _, hl, hm, hz, hx, hcell, hwz⟩
  · simp [Value.cells] at hcs
    obtain ⟨rfl, rfl, rfl⟩ := hcs
    cases hx
    exact ⟨[], ⟨rfl, none, 0, rfl, Nat.le_refl _, by simp [maxLen], fun _ => rfl, fun j u hj => by simp at hj⟩, .inl ⟨rfl, rfl⟩⟩
  · simp [Value.cells] at hcs
    obtain ⟨rfl, rfl, rfl⟩ := hcs
    cases hx
    simp only [if_true] at hz
    have hlen : ((zs.take len0).map fun z => UInt8.ofNat z.toNat).length = len0 := by simp; omega
    refine ⟨(zs.take len0).map fun z => UInt8.ofNat z.toNat, ⟨by simp, some a, cap0, by rw [hlen], by omega, hm, (fun h => by cases h), fun j u hj => ?_⟩, .inr ⟨_, _, rfl, ?_⟩⟩
    · rw [List.map_map, List.getElem?_map] at hj
      have hj' : j < len0 := by
        rcases Nat.lt_or_ge j len0 with h | h
        · exact h
        · rw [List.getElem?_take, if_neg (by omega)] at hj; simp at hj
      have hjz : j < zs.length := by omega
      rw [List.getElem?_take, if_pos hj', List.getElem?_eq_getElem hjz] at hj
      simp only [Option.map_some, Option.some.injEq, Function.comp] at hj
      have hw := hwz zs[j] (List.getElem_mem hjz)
      have hb : 0 ≤ zs[j] ∧ zs[j] ≤ 255 := by simpa [Lit.wf, IntKind.min, IntKind.max, IntKind.signed, IntKind.bits] using hw
      have hcj := hcell j hjz
      have e1 : zs.getD j 0 = zs[j] := by simp [List.getD, List.getElem?_eq_getElem hjz]
      rw [e1] at hcj
      have e2 : u = .int .u8 zs[j] := by
        rw [← hj]
        unfold by8
        congr 1
        rw [UInt8.toNat_ofNat', Nat.mod_eq_of_lt (by omega)]
        omega
      obtain ⟨b, o, s⟩ := a
      have hs : s = none := by
        have h0 := hcell 0 (by omega)
        unfold Addr.add at h0
        simp only [if_true] at h0
        cases s with
        | none => rfl
        | some x =>
          simp [World.cell?] at h0
          split at h0 <;> simp at h0
      subst hs
      refine ⟨b, o, rfl, ?_⟩
      rw [e2, ← hcj, Addr.add_lit]
    · simp [lits]
end

end Go.Kt
