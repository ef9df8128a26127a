/- The series of a store in a row, in some order: maps.Values (58, 81), slices.Collect (79, 102). -/
import Derived.Test.YtplieoalfbpniaaGreatSG
import Derived.Test.YtplieoalfbpniaaGreatKtT
import Derived.Shelf.SlIter.AllValues
namespace Go.Proofs.YtplieoalfbpniaaGreat
open Go.RowKit Go.Kt Go.Ix Go.Sx Go.Maps Go.Sort Go.Shelf Go.Proofs
set_option maxRecDepth 100000

/-- a pointer to a block -/
def pv (b : Nat) : Value := .pointer (some ⟨b, 0, none⟩)
theorem key_str {key : Value} {k : Lit} (h : keyOf Tryz.prog 9 key = some k) : ∃ s : ByteArray, key = .string s ∧ k = kl s := by
  obtain ⟨s, rfl⟩ := Maps.keyOf_string_inv Tryz.underlying9 h
  refine ⟨s, rfl, ?_⟩
  simp [keyOf, Tryz.underlying9, mapKey] at h
  rw [← h.2]
  rfl
theorem entry_any {f : Lit → Option Value} {Dm : DataW Value} (hcf : ∀ kl, (f kl = none → Maps.has Dm kl = false) ∧ ∀ v, f kl = some v → Maps.has Dm kl = true ∧ ∀ z, Dm.atKey kl z = .held v)
    {kl : Lit} {c0 : Value} {y : DataW Value × List MemPlace} (hd : Maps.has Dm kl = true) (hR : anyElem c0 = some y) (hat : ∀ zd, Dm.atKey kl zd = y.1) : f kl = some c0 := by
  cases hf : f kl with
  | none => rw [(hcf kl).1 hf] at hd; cases hd
  | some v =>
    have h1 := ((hcf kl).2 v hf).2 (.held v)
    rw [hat] at h1
    unfold anyElem at hR
    injection hR with hR
    rw [← hR] at h1
    simp only at h1
    injection h1 with h1
    rw [h1]
/-- the blocks of a map's values, of each key once -/
def ValsOf (f : Lit → Option Value) (xf : Lit → Nat) (ss : List Nat) : Prop := ∃ ks : List Lit, ks.Nodup ∧ (∀ k, k ∈ ks ↔ (f k).isSome = true) ∧ ss = ks.map xf

theorem values_call (mb : Option Nat) (W : World) : Calls Tryz.prog 58 #[.map mb] W fun e w' => e = .returned (.func (.func 81) #[] #[.pointer (some ⟨W.heap.size, 0, none⟩)]) ∧ w' = W.alloc (.cells #[.map mb] 102) := by
  go_enter Tryz.func58, Tryz.ntmps58
  go_wp2
  go_ret
  exact ⟨rfl, rfl⟩

set_option maxHeartbeats 2000000 in
theorem vals_in (n : Nat) (hn : 1 ≤ n) (l Bm b nn : Nat) (f : Lit → Option Value) (xf : Lit → Nat) (Dm : DataW Value) (hcf : ∀ kl, (f kl = none → Maps.has Dm kl = false) ∧ ∀ v, f kl = some v → Maps.has Dm kl = true ∧ ∀ z, Dm.atKey kl z = .held v)
    (hx : ∀ k u, f k = some u → u = pv (xf k)) (J : List Nat → World → Prop)
    (hY : ∀ pre x W, J pre W → pre.length < Maps.size Dm → YieldAt Fence.wide (n - 1) Tryz.prog l #[pv x] W fun e W' => e = .returned (.bool true) ∧ J (pre ++ [x]) W' ∧ KeepsWalks W W')
    (W : World) (hJ : AbidesFrom W.heap.size J) (hm : W.cell? ⟨Bm, 0, none⟩ = some (.map (some b))) (hown : W.ownsMap Tryz.prog 9 anyElem b nn Dm) (h0 : J [] W) :
    CallsIn Fence.wide n Tryz.prog 81 #[.func (.yield l) #[] #[], .pointer (some ⟨Bm, 0, none⟩)] W fun e W' => (∃ v, e = .returned v) ∧ ∃ ss, (ValsOf f xf ss ∧ ss.length ≤ Maps.size Dm) ∧ J ss W' := by
  refine callsIn_of_wp Tryz.func81 rfl trivial ?_ rfl
  simp only [Tryz.ntmps81, List.size_toArray, List.length_cons, List.length_nil, Nat.reduceAdd, Nat.reduceSub, Array.replicate_succ, Array.replicate_zero, List.push_toArray, List.append_toArray, List.nil_append, List.cons_append]
  gi_wp2_with (first
    | (gi_at_range; refine wpListIn_range_own _ rfl _ 102 rfl 9 86 key9 Tryz.underlying102 _ b nn _ rfl hown ?_; intro w0 hrg0 hg0 hs0)
    | gi_in)
  go_frame
  gi_loopw [4] (fun _ wr => ∃ (left : Lit → Bool) (cnt : Nat) (ks : List Lit), wr.ranges Tryz.prog 9 anyElem b W.heap.size nn Dm left cnt ∧ ks.length + cnt ≤ Maps.size Dm ∧ Hid (ks.Nodup ∧ ∀ k, k ∈ ks ↔ Maps.has Dm k = true ∧ left k = false) ∧ Hid (∀ k, left k = true → Maps.has Dm k = true) ∧ J (ks.map xf) wr)
    (fun _ wr => wr.rangeLeft b W.heap.size)
  case atStart =>
    exact ⟨_, _, [], hrg0, by simp, Lib.hid ⟨List.nodup_nil, fun k => by simp⟩, Lib.hid (fun _ h => h), hJ [] W w0 none h0 hg0 (fun r e => by cases e)⟩
  case round =>
    obtain ⟨left, cnt, ks, hrg, hcs, HK, HH, hJs⟩ := hrel
    gi_wp2_with (first
      | (gi_at_next; refine wpListIn_next_ranges _ rfl _ rfl 9 key9 anyElem Value.string (fun v : Value => v) (fun key kl h => by obtain ⟨x, e, _⟩ := key_str h; exact ⟨x, e⟩) (fun v y h => ⟨v, rfl⟩) b W.heap.size nn _ _ _ rfl hrg ?_ ?_)
      | gi_in)
    · intro hc0 hl0
      gi_wp2
      go_end0
      refine ⟨⟨_, rfl⟩, _, ⟨⟨ks, HK.out.1, fun k => ?_, rfl⟩, by rw [List.length_map]; omega⟩, hJs⟩
      rw [HK.out.2 k]
      constructor
      · rintro ⟨h1, _⟩
        cases hf : f k with
        | none => rw [(hcf k).1 hf] at h1; cases h1
        | some u => rfl
      · intro h1
        obtain ⟨u, hu⟩ := Option.isSome_iff_exists.1 h1
        exact ⟨((hcf k).2 u hu).1, hl0 k⟩
    · intro x c k yd yp w2 cnt2 hkey hlk hv hat hrg2 hlt hg2 hs2 hen
      obtain ⟨x', ex, rfl⟩ := key_str hkey
      cases ex
      have hd := HH.out _ hlk
      have hfk := entry_any hcf hd hv hat
      have hcx := hx _ _ hfk
      subst hcx
      have hJ2 : J (ks.map xf) w2 := hJ _ wr w2 (some W.heap.size) hJs hg2 (fun r e => by cases e; exact ⟨Nat.le_refl _, hrg.iter_walk⟩)
      obtain ⟨fn, tmps, assign, body, hy, hR⟩ := hY (ks.map xf) (xf (kl x)) w2 hJ2 (by simp; omega)
      have HK2 : Hid ((ks ++ [kl x]).Nodup ∧ ∀ k, k ∈ ks ++ [kl x] ↔ Maps.has Dm k = true ∧ (left k && !k.sameKey (kl x)) = false) := Lib.hid ⟨List.nodup_append.2 ⟨HK.out.1, by simp, fun a ha b hb e => by
          rw [List.mem_singleton.1 hb] at e
          subst e
          have := ((HK.out.2 _).1 ha).2
          rw [hlk] at this
          cases this⟩, fun k => by
        rw [List.mem_append, List.mem_singleton, HK.out.2 k]
        cases hs : k.sameKey (kl x) with
        | true =>
          have e : k = kl x := WideAt.sameKey_eq hs
          subst e
          simp [hd]
        | false =>
          have : ¬ k = kl x := fun e => by subst e; rw [WideAt.sameKey_self (show WideAt.IsKeyLit (kl x) from trivial)] at hs; cases hs
          simp [this]⟩
      have HH2 : Hid (∀ k, (left k && !k.sameKey (kl x)) = true → Maps.has Dm k = true) := Lib.hid (fun k hk => HH.out k (by simp at hk; exact hk.1))
      clear hs2 hkey hv hat hfk HK HH hd
      gi_wp2
      refine hR.mono ?_
      rintro e W3 ⟨rfl, hJ3, hk3⟩
      gi_wp2
      have hrg3 := hrg2.of_walks hk3
      go_roundw
      case rel => exact ⟨_, cnt2, ks ++ [kl x], hrg3, by simp; omega, HK2, HH2, by simpa using hJ3⟩
      case measure => rw [hrg3.left_eq, hrg.left_eq]; exact hlt
/-- maps.Values hands back an iterator over the map's values -/
theorem vals_gives (n : Nat) (hn : 1 ≤ n) (Bm b nn : Nat) (f : Lit → Option Value) (xf : Lit → Nat) (Dm : DataW Value) (hcf : ∀ kl, (f kl = none → Maps.has Dm kl = false) ∧ ∀ v, f kl = some v → Maps.has Dm kl = true ∧ ∀ z, Dm.atKey kl z = .held v)
    (hx : ∀ k u, f k = some u → u = pv (xf k)) (w : World) (hBm : Bm < w.heap.size) (hm : w.cell? ⟨Bm, 0, none⟩ = some (.map (some b))) (hown : w.ownsMap Tryz.prog 9 anyElem b nn Dm) :
    SeqGives Fence.wide n Tryz.prog 81 #[.pointer (some ⟨Bm, 0, none⟩)] pv (fun ss => ValsOf f xf ss ∧ ss.length ≤ Maps.size Dm) (Maps.size Dm) w := fun l J W hW hJ hY h0 => by
  have hown' : W.ownsMap Tryz.prog 9 anyElem b nn Dm := by
    have hbl := hown.lt
    obtain ⟨es, clock, hb, Ft, hs, hD⟩ := hown
    exact ⟨es, clock, (hW.block b hbl).trans hb, Ft, hs, hD⟩
  exact vals_in n hn l Bm b nn f xf Dm hcf hx J hY W hJ ((hW.cell (p := ⟨Bm, 0, none⟩) hBm).trans hm) hown' h0
end Go.Proofs.YtplieoalfbpniaaGreat
