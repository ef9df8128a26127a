/- A text in quotes: label.Quote (49), the document's (51). -/
import Derived.Test.YtplieoalfbpniaaGreatI3
import Derived.Test.YtplieoalfbpniaaGreatKtS
namespace Go.Proofs.YtplieoalfbpniaaGreat
open Go.RowKit Go.Kt Go.Ix
set_option maxRecDepth 100000

def Bld (w0 w : World) (b : Nat) (l : List UInt8) : Prop := Lib.IsBuilderF 176 5 w0.heap.size b (Lib.byteCells l) w ∧ Below w0.heap.size w0 w
theorem bld_new (w : World) : Bld w (w.alloc (.cells #[.pointer none, .slice none 0 0] 176)) w.heap.size [] := by
  refine ⟨.inl ⟨Nat.le_refl _, .slice none 0 0, heap_alloc_new w _, ?_, by simp [Value.ownBlock]⟩, bel_alloc (bel_refl w)⟩
  exact ⟨rfl, .inl ⟨rfl, rfl⟩⟩
theorem byteCells_snoc (l : List UInt8) (c : UInt8) : Lib.byteCells (l ++ [c]) = Lib.byteCells l ++ [.int .u8 (c.toNat : Int)] := by simp [Lib.byteCells]
theorem byteCells_len (l : List UInt8) : (Lib.byteCells l).length = l.length := by simp [Lib.byteCells]
theorem bld_byte {w0 w : World} {b : Nat} {l : List UInt8} (h : Bld w0 w b l) (c : UInt8) (hl : l.length + 1 ≤ 140737488355328) :
    Calls Tryz.prog 94 #[.pointer (some ⟨b, 0, none⟩), .int .u8 (c.toNat : Int)] w fun e w' => e = .returned .nilIface ∧ Bld w0 w' b (l ++ [c]) := by
  refine (Tryz.Builder_WriteByte_k w0.heap.size b (Lib.byteCells l) (c.toNat : Int) w h.1 (by rw [byteCells_len]; exact hl) h.2.size).mono ?_
  rintro e w' ⟨rfl, h1, h2, _⟩
  exact ⟨rfl, .inr (by rw [byteCells_snoc]; exact h1), h.2.trans h2⟩
theorem bld_sign {w0 w : World} {b : Nat} {l : List UInt8} (h : Bld w0 w b l) (c : UInt8) (n : Int) (hn : (c.toNat : Int) = n) (hl : l.length + 1 ≤ 140737488355328) :
    Calls Tryz.prog 94 #[.pointer (some ⟨b, 0, none⟩), .int .u8 n] w fun e w' => e = .returned .nilIface ∧ Bld w0 w' b (l ++ [c]) := hn ▸ bld_byte h c hl
theorem bld_string {w0 w : World} {b : Nat} {l : List UInt8} (h : Bld w0 w b l) :
    Calls Tryz.prog 95 #[.pointer (some ⟨b, 0, none⟩)] w fun e w' => e = .returned (.string ⟨l.toArray⟩) ∧ Below w0.heap.size w0 w' := by
  refine (Tryz.Builder_String_any_k w0.heap.size b l w h.1 h.2.size).mono ?_
  rintro e w' ⟨rfl, _, h2, _⟩
  exact ⟨rfl, h.2.trans h2⟩

theorem escL_take (l : List UInt8) (k : Nat) (c : UInt8) (h : l[k]? = some c) : escL (l.take (k + 1)) = escL (l.take k) ++ esc c := by
  obtain ⟨hk, rfl⟩ := List.getElem?_eq_some_iff.1 h
  rw [List.take_succ_eq_append_getElem hk]
  unfold escL
  rw [List.flatMap_append]
  simp [List.flatMap]
theorem escL_take_le (l : List UInt8) (k : Nat) : (escL (l.take k)).length ≤ (escL l).length := by
  have h : (escL l).length = (escL (l.take k)).length + (escL (l.drop k)).length := by
    rw [← List.length_append]
    congr 1
    unfold escL
    rw [← List.flatMap_append, List.take_append_drop]
  omega
def quoteTo (l : List UInt8) (k : Nat) : List UInt8 := 34 :: escL (l.take k)
theorem quoteTo_zero (l : List UInt8) : quoteTo l 0 = [34] := by simp [quoteTo, escL]
theorem quoteTo_len (l : List UInt8) (k : Nat) : (quoteTo l k).length + 1 ≤ (quoteL l).length := by
  have := escL_take_le l k
  simp only [quoteTo, quoteL, List.length_cons, List.length_append, List.length_nil]; omega
theorem quoteTo_two {l : List UInt8} {k : Nat} {c : UInt8} (h : l[k]? = some c) (hc : c = 34 ∨ c = 92) : quoteTo l k ++ [92] ++ [c] = quoteTo l (k + 1) := by
  unfold quoteTo; rw [escL_take l k c h]; simp [esc, hc]
theorem quoteTo_one {l : List UInt8} {k : Nat} {c : UInt8} (h : l[k]? = some c) (hc : ¬ (c = 34 ∨ c = 92)) : quoteTo l k ++ [c] = quoteTo l (k + 1) := by
  unfold quoteTo; rw [escL_take l k c h]; simp [esc, hc]
theorem quoteTo_end (l : List UInt8) : quoteTo l l.length ++ [34] = quoteL l := by simp [quoteTo, quoteL]
theorem sign_of (c : UInt8) : (c = 34 ∧ (c.toNat : Int) = 34) ∨ (c = 92 ∧ ((c.toNat : Int) == 34) = false ∧ (c.toNat : Int) = 92) ∨ (¬ (c = 34 ∨ c = 92) ∧ ((c.toNat : Int) == 34) = false ∧ ((c.toNat : Int) == 92) = false) := by
  have h34 : c = 34 ↔ c.toNat = 34 := ⟨fun h => by rw [h]; rfl, fun h => UInt8.toNat_inj.1 (by rw [h]; rfl)⟩
  have h92 : c = 92 ↔ c.toNat = 92 := ⟨fun h => by rw [h]; rfl, fun h => UInt8.toNat_inj.1 (by rw [h]; rfl)⟩
  rw [h34, h92]
  simp only [beq_eq_false_iff_ne, ne_eq]
  omega

theorem quote_size (s : ByteArray) (hq : (quoteL (bl s)).length ≤ 140737488355328) : s.size ≤ 140737488355328 := by
  have h1 : ∀ l : List UInt8, l.length ≤ (escL l).length := by
    intro l
    induction l with
    | nil => simp [escL]
    | cons c l ih =>
      simp only [escL, List.flatMap_cons, List.length_append, List.length_cons] at ih ⊢
      have : 1 ≤ (esc c).length := by unfold esc; split <;> simp
      omega
  have h2 := h1 (bl s)
  rw [bl_len] at h2
  simp only [quoteL, List.length_cons, List.length_append] at hq
  omega

set_option maxHeartbeats 1000000 in
theorem quote_any (s : ByteArray) (w : World) (hq : (quoteL (bl s)).length ≤ 140737488355328) :
    Calls Tryz.prog 66 #[.string s] w fun e w' => e = .returned (.string ⟨(quoteL (bl s)).toArray⟩) ∧ Below w.heap.size w w' := by
  have hsz : s.size ≤ 140737488355328 := quote_size s hq
  have HQ := Lib.hid hq
  clear hq
  go_enter Tryz.func66, Tryz.ntmps66
  have HB := Lib.hid (bld_new w)
  go_wp2_with (first | (go_at_call 94; refine (bld_sign HB.out 34 34 rfl (by decide)).mono ?_; rintro e w2 ⟨rfl, hb2⟩) | fail)
  clear HB
  replace hb2 := Lib.hid hb2
  go_loopw [4, 8] (fun _ i wr => ∃ k : Nat, k ≤ s.size ∧ i = .int .i64 k ∧ Hid (Bld w wr w.heap.size (quoteTo (bl s) k))) (fun _ i _ => s.size - (intOf i).toNat)
  case atStart => exact ⟨0, by omega, rfl, Lib.hid (by rw [quoteTo_zero]; exact hb2.out)⟩
  case round =>
    obtain ⟨k, hk, rfl, HB⟩ := hrel
    clear hb2
    by_cases hlt : k < s.size
    · have hx := (s[k]'hlt).toNat_lt
      have HG : Hid ((bl s)[k]? = some (s[k]'hlt)) := Lib.hid (List.getElem?_eq_getElem (by rw [bl_len]; exact hlt))
      have HL := Lib.hid (quoteTo_len (bl s) k)
      have HL1 := Lib.hid (quoteTo_len (bl s) (k + 1))
      generalize hxx : (s[k]'hlt) = x at hx HG
      have hk1 : (0 : Int) ≤ (k : Int) := by omega
      rcases sign_of x with ⟨hc, c1⟩ | ⟨hc, c1, c2⟩ | ⟨hc, c1, c2⟩
      · have HC := Lib.hid (quoteTo_two HG.out (.inl hc))
        clear hc
        go_wp2_with (first | (go_at_call 94; refine (bld_sign hb2.out x 34 c1 (by have := HQ.out; have := HL1.out; rw [← HC.out] at this; simp only [List.length_append, List.length_cons, List.length_nil] at this ⊢; omega)).mono ?_; rintro e w3 ⟨rfl, hb3⟩; replace hb3 := Lib.hid hb3; clear hb2) | (go_at_call 94; refine (bld_sign HB.out 92 92 rfl (by have := HQ.out; have := HL.out; omega)).mono ?_; rintro e w2 ⟨rfl, hb2⟩; clear HB; replace hb2 := Lib.hid hb2) | fail)
        go_roundw
        case rel => exact ⟨k + 1, by omega, by go_num, Lib.hid (by rw [← HC.out]; exact hb3.out)⟩
        case measure => simp [intOf]; omega
      · have HC := Lib.hid (quoteTo_two HG.out (.inr hc))
        clear hc
        go_wp2_with (first | (go_at_call 94; refine (bld_sign hb2.out x 92 c2 (by have := HQ.out; have := HL1.out; rw [← HC.out] at this; simp only [List.length_append, List.length_cons, List.length_nil] at this ⊢; omega)).mono ?_; rintro e w3 ⟨rfl, hb3⟩; replace hb3 := Lib.hid hb3; clear hb2) | (go_at_call 94; refine (bld_sign HB.out 92 92 rfl (by have := HQ.out; have := HL.out; omega)).mono ?_; rintro e w2 ⟨rfl, hb2⟩; clear HB; replace hb2 := Lib.hid hb2) | fail)
        go_roundw
        case rel => exact ⟨k + 1, by omega, by go_num, Lib.hid (by rw [← HC.out]; exact hb3.out)⟩
        case measure => simp [intOf]; omega
      · have HC := Lib.hid (quoteTo_one HG.out hc)
        clear hc
        go_wp2_with (first | (go_at_call 94; refine (bld_byte HB.out x (by have := HQ.out; have := HL.out; omega)).mono ?_; rintro e w2 ⟨rfl, hb2⟩) | fail)
        go_roundw
        case rel => exact ⟨k + 1, by omega, by go_num, Lib.hid (by rw [← HC.out]; exact hb2)⟩
        case measure => simp [intOf]; omega
    · obtain rfl : k = s.size := by omega
      have HL := Lib.hid (quoteTo_len (bl s) s.size)
      have HC : Hid (quoteTo (bl s) s.size ++ [34] = quoteL (bl s)) := Lib.hid (by have := quoteTo_end (bl s); rw [bl_len] at this; exact this)
      go_wp2_with (first | (go_at_call 94; refine (bld_sign HB.out 34 34 rfl (by have := HQ.out; have := HL.out; omega)).mono ?_; rintro e w2 ⟨rfl, hb2⟩) | fail)
      clear HB
      rw [HC.out] at hb2
      replace hb2 := Lib.hid hb2
      go_wp2_with (first | (go_at_call 95; refine (bld_string hb2.out).mono ?_; rintro e w3 ⟨rfl, hb3⟩) | fail)
      go_ret
      exact ⟨rfl, hb3⟩

end Go.Proofs.YtplieoalfbpniaaGreat
