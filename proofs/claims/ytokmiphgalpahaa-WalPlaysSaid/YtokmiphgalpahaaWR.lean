/- DiskFuses (5). -/
import Derived.Test.YtokmiphgalpahaaWQ
namespace Go.Proofs.Ytokmiphgalpahaa
open Go.RowKit Go.Kt
set_option maxRecDepth 100000
/-- with a fuse: what is known of the disk after k steps -/
structure FInv (P : Pd) (left k : Nat) : Prop where
  room : P.room = 1048576
  len : P.L.length ≤ k
  st : (P.down = false ∧ P.fuse = left) ∨ (P.down = true ∧ left = 0)
/-- what a step does to it -/
def Stepped (r : Int × Pd) (left k : Nat) : Prop :=
  (r.1 = 0 ∧ 0 < left ∧ FInv r.2 (left - 1) (k + 1) ∧ r.2.down = false) ∨ (r.1 = 5 ∧ left = 0 ∧ r.2.down = true ∧ FInv r.2 left (k + 1)) ∨ (r.1 ≠ 0 ∧ r.1 ≠ 5 ∧ FInv r.2 left (k + 1))
theorem insP_len (q : Pg) : ∀ L, (insP q L).length = L.length + 1
  | [] => rfl
  | t :: ks => by
    unfold insP
    split
    · rw [List.length_cons, insP_len q ks, List.length_cons]
    · rfl
theorem appP_len (n : Int) (pl : List UInt8) (L : List Pg) : (appP n pl L).length ≤ L.length + 1 := by
  unfold appP
  split
  · rw [List.length_map]; omega
  · rw [insP_len]; exact Nat.le_refl _
theorem dropP_len (n : Int) (L : List Pg) : (dropP n L).length ≤ L.length := List.length_filter_le _ _
theorem crashP_len (keep : List Int) : ∀ (i : Nat) (L : List Pg), (crashP keep i L).length ≤ L.length
  | _, [] => Nat.le_refl _
  | i, p :: t => by
    have ih := crashP_len keep (i + 1) t
    unfold crashP
    split
    · rw [List.length_cons]; omega
    · rw [List.length_cons, List.length_cons]; omega
theorem fstep {P : Pd} {left k : Nat} (h : FInv P left k) (hd : P.down = false) {L : List Pg} (hL : L.length ≤ k + 1) :
    Stepped (if P.fuse = 0 then (5, { P with down := true }) else (0, { P with fuse := powF P.fuse, L := L })) left k := by
  have hf : P.fuse = left := by
    rcases h.st with h | h
    · exact h.2
    · rw [hd] at h; cases h.1
  split
  · rename_i h0
    exact .inr (.inl ⟨rfl, by omega, rfl, h.room, by have := h.len; show P.L.length ≤ _; omega, .inr ⟨rfl, by omega⟩⟩)
  · rename_i h0
    refine .inl ⟨rfl, by omega, ⟨h.room, hL, .inl ⟨hd, ?_⟩⟩, hd⟩
    show powF P.fuse = _
    unfold powF
    rw [if_pos (by omega)]
    omega
theorem FInv.more {P : Pd} {left k : Nat} (h : FInv P left k) : FInv P left (k + 1) := ⟨h.room, by have := h.len; omega, h.st⟩
theorem fdown {P : Pd} {left k : Nat} (h : FInv P left k) (hd : P.down = true) : Stepped (5, P) left k := by
  have hf : left = 0 := by
    rcases h.st with h | h
    · rw [hd] at h; cases h.1
    · exact h.2
  exact .inr (.inl ⟨rfl, hf, hd, h.more⟩)
theorem app_step {P : Pd} {left k : Nat} (h : FInv P left k) (n : Int) (pl : List UInt8) : Stepped (P.app n pl) left k := by
  unfold Pd.app
  split
  · rename_i hd
    exact fdown h hd
  rename_i hd
  split
  · exact .inr (.inr ⟨by simp, by simp, h.more⟩)
  split
  · exact .inr (.inr ⟨by simp, by simp, h.more⟩)
  exact fstep h (by simpa using hd) (Nat.le_trans (appP_len _ _ _) (by have := h.len; omega))
theorem sync_step {P : Pd} {left k : Nat} (h : FInv P left k) (n : Int) : Stepped (P.sync n) left k := by
  unfold Pd.sync
  split
  · rename_i hd
    exact fdown h hd
  rename_i hd
  split
  · exact .inr (.inr ⟨by simp, by simp, h.more⟩)
  exact fstep h (by simpa using hd) (by rw [List.length_map]; have := h.len; omega)
theorem drop_step {P : Pd} {left k : Nat} (h : FInv P left k) (n : Int) : Stepped (P.drop n) left k := by
  unfold Pd.drop
  split
  · rename_i hd
    exact fdown h hd
  rename_i hd
  split
  · exact .inr (.inr ⟨by simp, by simp, h.more⟩)
  exact fstep h (by simpa using hd) (Nat.le_trans (dropP_len _ _) (by have := h.len; omega))
theorem DAt.tot {F : Nat → Prop} {w : World} {d mb : Nat} {P : Pd} (h : DAt F w d mb P) : (usedP P.L : Int) ≤ P.room := by
  obtain ⟨l, h1, h2⟩ := h
  rw [← h2, ← used_pg]
  exact h1.tot
theorem rd_lt {size : Nat} {w : World} {v : Value} {n : Nat} {xs : List Value} (h : RdRow size w v n xs) (hn : xs ≠ []) : ∀ x, v.ownBlock = some x → x < w.heap.size := by
  obtain ⟨hl, a, cap, rfl, _, _, _, h5⟩ := h
  obtain ⟨u, us, rfl⟩ := List.exists_cons_of_ne_nil hn
  obtain ⟨b, o, rfl, hc⟩ := h5 0 u rfl
  intro x hx
  cases hx
  exact World.block_lt_of_cell? w _ hc
theorem aside_arg8 {w0 w W : World} {v : Value} {pl : List UInt8} (h : Rd8 w0 v pl) (hb : w0.heap.size ≤ W.heap.size) : Aside w0 w W v pl := fun x hx hp => by
  have := rd_lt h (by simpa using hp) x hx
  exact ⟨.inl this, by omega⟩
theorem aside_argz {w0 w W : World} {v : Value} {pl : List Int} (h : RdZ w0 v pl) (hb : w0.heap.size ≤ W.heap.size) : Aside w0 w W v pl := fun x hx hp => by
  have := rd_lt h (by simpa using hp) x hx
  exact ⟨.inl this, by omega⟩
theorem u8_wf {a : Int} (h : (Lit.int .u8 a).wf = true) : 0 ≤ a ∧ a ≤ 255 := by
  simpa [Lit.wf, IntKind.min, IntKind.max, IntKind.signed, IntKind.bits] using h
end Go.Proofs.Ytokmiphgalpahaa
