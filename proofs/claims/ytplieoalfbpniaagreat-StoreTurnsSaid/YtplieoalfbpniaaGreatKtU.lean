/- General facts, over any program: a store at a key that is there, inside a range over the same map. -/
import Derived.Test.YtplieoalfbpniaaGreatKtM
import Derived.Maps.Range
import Derived.Maps.RangeWalk
set_option linter.unusedVariables false
set_option linter.unusedSimpArgs false
namespace Go.Kt
open Go.ChangeMaps Go.MapKept Go.WideShapes Go.RowKit
open Go.WideElems (Fit rd rg pl rd_key rd_val rd_mk rg_of other_key)
open Go.Maps (Keyed)
variable {H : Type} {P : Program} {k : TypeId} {R : Value → Option (DataW H × List MemPlace)} {w : World} {b r n : Nat} {D : DataW H} {left : Lit → Bool} {cnt : Nat}

theorem left_size (a : Array MapEntry) (seen : Array Nat) : (leftOf a seen).size = ((a.toList.map (·.born)).filter fun x => !seen.contains x).length := by
  unfold leftOf
  rw [← Array.length_toList, Array.toList_filter, List.filter_map, List.length_map]
  rfl
/-- 'm[k] = v' in the round, where the key is there: the range goes on as it was -/
theorem ranges_store {t e : TypeId} (h : w.ranges P k R b r n D left cnt) (K : Keyed P k) (ht : P.underlying t = some (.map k e)) (hn : n < maxLen) {key val : Value} {kl : Lit} {d : DataW H} {ps : List MemPlace} (hkey : keyOf P k key = some kl) (hv : R val = some (d, ps)) (hhas : Maps.has D kl = true) :
    ∃ w', (Instr.mapUpdate t (.map (some b)) key val).run P w = .ok () w' ∧ w'.ranges P k R b r n (D.put kl d) left cnt ∧ w.grownBy w' (some b) := by
  have hne := h.ne
  obtain ⟨es, clock, since, seen, c0, hb, F, hs, rfl, hr, hold, rfl, hl1, hl2, hsc, hsk⟩ := h
  obtain ⟨es', clock', hrun, F', hput, _⟩ := Maps.fit_store (R' := R) K ht hb F (Nat.lt_of_le_of_lt hs hn) (fun _ _ _ _ hz => hz) hkey hv
  rcases K.find w hkey es.toList F.keys with ⟨h1, h2⟩ | ⟨j, e0, h1, h2, h3⟩
  · exfalso
    rw [Maps.has, List.any_eq_true] at hhas
    obtain ⟨p, hp, hsame⟩ := hhas
    obtain ⟨x, hx, rfl⟩ := List.mem_map.1 (mem_sorted.1 hp)
    obtain ⟨y, hy⟩ := F.reads x hx
    have e1 := WideAt.sameKey_eq hsame
    rw [rg_of hy] at e1
    exact h2 x hx (K.inj (e1 ▸ rd_key hy) hkey)
  · have hj : es[j]? = some e0 := by simpa using h2
    have hjl : j < es.toList.length := (List.getElem?_eq_some_iff.1 h2).1
    have hlist : (es.modify j (fun e' => { e' with key := key, val := val })).toList = es.toList.set j { e0 with key := key, val := val } := by rw [Array.toList_modify, modify_eq_set _ _ _ _ h2]
    have hrun2 : (Instr.mapUpdate t (.map (some b)) key val).run P w = .ok () (setBlock w b (.map (es.modify j (fun e' => { e' with key := key, val := val })) clock)) := by
      simp [Instr.mapUpdate, run_underlying ht, MapKept.run_getObj_map hb, K.check w false hkey, h1, hj, h3, K.stays w hkey, MapKept.run_setObj_map _ hb, Result.andThen, setBlock]
    rw [hrun2] at hrun
    have hw : (setBlock w b (.map (es.modify j (fun e' => { e' with key := key, val := val })) clock)).heap[b]? = (setBlock w b (.map es' clock')).heap[b]? := by injection hrun with _ hrun; rw [hrun]
    rw [heap_setBlock_same hb _, heap_setBlock_same hb _] at hw
    injection hw with hw
    injection hw with hw1 hw2
    subst hw1 hw2
    have hborn : (es.modify j (fun e' => { e' with key := key, val := val })).toList.map (·.born) = es.toList.map (·.born) := by
      rw [hlist, List.map_set]
      apply List.ext_getElem?
      intro i
      by_cases hij : j = i
      · subst hij
        rw [List.getElem?_set_self (by simpa using hjl), List.getElem?_map, h2]
        rfl
      · rw [List.getElem?_set_ne hij]
    have hkn : (rg P k R { e0 with key := key, val := val }).1 = kl := by rw [rg_of (rd_mk hkey hv)]
    have he0 : e0 ∈ es.toList := List.mem_of_getElem? h2
    have hk0 : (rg P k R e0).1 = kl := by
      obtain ⟨y, hy⟩ := F.reads e0 he0
      have := rd_key hy
      rw [h3, hkey] at this
      rw [rg_of hy]
      exact (Option.some.inj this).symm
    refine ⟨_, hrun2, ⟨_, clock, since, seen, c0, heap_setBlock_same hb _, F', by simpa using hs, by rw [DataW.put_eq, hput], (heap_setBlock_other hb _ hne).trans hr, fun x hx => ?_, ?_, fun x hx => ?_, fun kl' hkl' => ?_, hsc, hsk⟩, ⟨rfl, rfl, rfl, by simp [setBlock], fun i _ hi => heap_setBlock_other hb _ (fun e => hi (by rw [e]))⟩⟩
    · have : x.born ∈ (es.modify j (fun e' => { e' with key := key, val := val })).toList.map (·.born) := List.mem_map.2 ⟨x, hx, rfl⟩
      rw [hborn] at this
      obtain ⟨y, hy, e⟩ := List.mem_map.1 this
      rw [← e]
      exact hold y hy
    · rw [left_size, left_size, hborn]
    · rw [hlist] at hx
      rcases List.mem_or_eq_of_mem_set hx with hx | rfl
      · exact hl1 x hx
      · rw [hkn, ← hk0]
        exact hl1 e0 he0
    · obtain ⟨x, hx, rfl⟩ := hl2 kl' hkl'
      rw [hlist]
      obtain ⟨i, hi, rfl⟩ := List.getElem_of_mem hx
      by_cases hij : j = i
      · subst hij
        refine ⟨_, List.mem_set hjl _, ?_⟩
        rw [hkn]
        obtain ⟨_, e⟩ := List.getElem?_eq_some_iff.1 h2
        rw [e]
        exact hk0.symm
      · refine ⟨es.toList[i], ?_, rfl⟩
        have : (es.toList.set j { e0 with key := key, val := val })[i]? = some es.toList[i] := by rw [List.getElem?_set_ne hij, List.getElem?_eq_getElem hi]
        exact List.mem_of_getElem? this
end Go.Kt
