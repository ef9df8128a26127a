/- CellFull (7). -/
import Derived.Test.YtbaflgddpciadaaGreatPX
import Derived.Test.YtbaflgddpciadaaGreatEQ
set_option linter.unusedVariables false
set_option linter.unusedSimpArgs false
namespace Go.Proofs.YtbaflgddpciadaaGreat
open Go.RowKit Go.Kt Go.Ix Go.Sx Go.Cx
set_option maxRecDepth 100000
variable {S : Nat → Prop} {w wr w' : World} {c N bv : Nat} {C : Cl}
def fwx : Wr := ⟨[], 0, 3, 0, ⟨#[]⟩, .slice none 0 0⟩
/-- the cell, and the row of the one write -/
structure Fl (w wr : World) (S : Nat → Prop) (c : Nat) (C : Cl) (N bv : Nat) : Prop where
  cel : Cel S wr c C N
  ge : ∀ x, S x → w.heap.size ≤ x
  row : Kt.Own 87 5 wr (.slice (some ⟨bv, 0, none⟩) 1 1) 1 (flatW [fwx])
  far : ¬ S bv
  bel : Below w.heap.size w wr
theorem Fl.next (h : Fl w wr S c C N bv) (hb : Below wr.heap.size wr w') : Fl w w' S c C N bv := ⟨h.cel.next hb, h.ge, h.row.below' hb, h.far, bel_trans h.bel hb⟩
theorem Fl.more {N' : Nat} (h : Fl w wr S c C N bv) (hn : N ≤ N') : Fl w wr S c C N' bv := ⟨h.cel.more hn, h.ge, h.row, h.far, h.bel⟩
theorem Fl.do (h : Fl w wr S c C N bv) {m : Cmd} {r : Rep} {C' : Cl} (hz : doC C m = (r, C')) {v : Value} {T : List Wr} (hm : CmdR wr m v T) (hN : N + 64 ≤ 1000000) (ht : C.ticks ≤ 999999) (hid : -9223372036854775808 ≤ m.id ∧ m.id ≤ 9223372036854775807) :
    Calls Tryz.prog 17 #[.pointer (some ⟨c, 0, none⟩), cmdV m v] wr fun e w' => e = .returned (replyV r) ∧ ∃ S', Fl w w' S' c C' (N + 64) bv ∧ (∀ x, S' x → S x ∨ wr.heap.size ≤ x) ∧ Turn S wr w' := by
  refine (do_any m v T wr h.cel hm hN ht hid).mono ?_
  rintro e w' ⟨he, S', hc, hS, hT⟩
  rw [hz] at he hc
  have hlt := h.row.lt bv rfl
  refine ⟨he, S', ⟨hc, fun x hx => ?_, own_keep hT h.row (fun b e hs => ?_), fun hs => ?_, ?_⟩, hS, hT⟩
  · rcases hS x hx with h1 | h1
    · exact h.ge x h1
    · exact Nat.le_trans h.bel.size h1
  · have e2 : bv = b := (by simpa [Value.ownBlock] using e)
    exact h.far (e2 ▸ hs)
  · rcases hS _ hs with h1 | h1
    · exact h.far h1
    · omega
  · have hT' : Turn (fun x => w.heap.size ≤ x) w w' := (Turn.of h.bel).trans hT (fun x hx => .inl (h.ge x hx))
    exact hT'.bel (Nat.le_refl _) (fun x hx => hx)
/-- a reply that was laid down -/
def Kp (wr : World) (S : Nat → Prop) (g : Nat) (cs : Array Value) : Prop := Blk wr g cs 46 ∧ ¬ S g
theorem Kp.next {g : Nat} {cs : Array Value} (h : Kp wr S g cs) (hb : Below wr.heap.size wr w') : Kp w' S g cs := ⟨h.1.next hb, h.2⟩
theorem Kp.do {g : Nat} {cs : Array Value} {S' : Nat → Prop} (h : Kp wr S g cs) (hS : ∀ x, S' x → S x ∨ wr.heap.size ≤ x) (hT : Turn S wr w') : Kp w' S' g cs := ⟨blk_keep hT h.1 h.2, fun e => by
  rcases hS _ e with h1 | h1
  · exact h.2 h1
  · have := h.1.lt; omega⟩
theorem Fl.kp (h : Fl w wr S c C N bv) (cs : Array Value) : Kp (wr.alloc (.cells cs 46)) S wr.heap.size cs := ⟨Blk.new _ _ _, fun e => by have := h.cel.lt _ e; omega⟩
theorem Fl.cmd (h : Fl w wr S c C N bv) {m : Cmd} (hw : m.ws = [fw]) (ht : m.token.size ≤ maxLen) (hk : CmdOk m) : CmdR wr m (.slice (some ⟨bv, 0, none⟩) 1 1) [fwx] :=
  ⟨⟨h.row.rd, fun m hm => by rw [List.mem_singleton.1 hm]; exact rdp_nil wr⟩, by rw [hw]; rfl, by decide, fun x hx => by rw [List.mem_singleton.1 hx]; exact ⟨fun q hq => by simp [fwx] at hq, by decide⟩, fun x hx => by rw [List.mem_singleton.1 hx]; decide, ht, hk⟩
theorem field46 (a b c d e f : Int) (w : World) : (Instr.field 46 (.agg #[.int .i64 a, .int .u32 b, .int .i64 c, .int .i64 d, .int .u32 e, .int .u32 f]) 2).run Tryz.prog w = .ok (.int .i64 c) w := by kernel_rfl
theorem ftok_str (k : Nat) (hk : k < 1024) (w : World) : (convert 88 9 (.slice (some ⟨w.heap.size, 0, none⟩) 2 2)).run Tryz.prog (w.alloc (.cells #[.int .u8 (65 + (k : Int) / 64), .int .u8 (48 + (k : Int) % 64)] 5)) = .ok (.string (ftok k)) (w.alloc (.cells #[.int .u8 (65 + (k : Int) / 64), .int .u8 (48 + (k : Int) % 64)] 5)) := by
  rw [show (65 + (k : Int) / 64) = ((65 + k / 64 : Nat) : Int) by omega, show (48 + (k : Int) % 64) = ((48 + k % 64 : Nat) : Int) by omega]
  have h := run_str8 (P := Tryz.prog) (w := w.alloc (.cells #[.int .u8 ((65 + k / 64 : Nat) : Int), .int .u8 ((48 + k % 64 : Nat) : Int)] 5)) (src := 88) (dst := 9) (e := 5) (v := .slice (some ⟨w.heap.size, 0, none⟩) 2 2) (l := [UInt8.ofNat (65 + k / 64), UInt8.ofNat (48 + k % 64)]) Tryz.underlying88 Tryz.underlying5 Tryz.underlying9
    (own8_at (w := w) (e := 5) [UInt8.ofNat (65 + k / 64), UInt8.ofNat (48 + k % 64)] (by show 2 ≤ maxLen; decide) rfl rfl (by rw [List.map_cons, List.map_cons, List.map_nil, by8_ofNat (65 + k / 64) (by omega), by8_ofNat (48 + k % 64) (by omega)])).rd
  exact h
set_option maxHeartbeats 8000000 in
theorem full_any (w : World) (hg : Glob w) : Calls Tryz.prog 7 #[] w fun e w' => e = .returned (.bool true) ∧ Below w.heap.size w w' := by
  have HG := Lib.hid hg
  clear hg
  go_enter Tryz.func7, Tryz.ntmps7
  have HNw := Lib.hid (new_cel 1 ⟨by decide, by decide⟩ w)
  go_upto_region 4 with (first
    | (go_at_call 14; refine HNw.out.mono ?_; rintro e w1 ⟨c, S0, rfl, hc, hS, hb⟩; have HC0 := Lib.hid hc; have HS0 := Lib.hid hS; have HB1 := Lib.hid hb; clear hc hS hb)
    | (go_at_call 15; refine (awake_any _ (HG.out.below HB1.out)).mono ?_; rintro e w2 ⟨rfl, hb2⟩; have HB2 := Lib.hid hb2; clear hb2)
    | fail)
  go_upto_region 5 with fail
  have HF0 : Hid (Fl w (w2.alloc (.cells #[.slice none 0 0, .int .i64 0, .int .i64 3, .int .i64 0, .string ⟨#[]⟩] 87)) S0 c (fullC 0) 0 w2.heap.size) := Lib.hid ⟨(HC0.out.next HB2.out).next (below_alloc _ _), HS0.out, own_lit w2 87 5 #[.slice none 0 0, .int .i64 0, .int .i64 3, .int .i64 0, .string ⟨#[]⟩] 1 (by decide) rfl, fun e => by have := (HC0.out.next HB2.out).lt _ e; omega, bel_trans (bel_trans HB1.out HB2.out) (below_alloc _ _)⟩
  generalize w2.alloc (.cells #[.slice none 0 0, .int .i64 0, .int .i64 3, .int .i64 0, .string ⟨#[]⟩] 87) = w3 at HF0 ⊢
  generalize w2.heap.size = bv at HF0 ⊢
  go_upto_region 6 with fail
  go_loopw [23] (fun iv wr => ∃ (k : Nat) (S : Nat → Prop), k ≤ 1024 ∧ iv = .int .i64 k ∧ Hid (Fl w wr S c (fullC k) (128 * k) bv)) (fun iv _ => 1024 - (intOf iv).toNat)
  case atStart => exact ⟨0, _, by omega, rfl, HF0⟩
  case round =>
    clear HF0
    obtain ⟨k, S, hk, rfl, HF⟩ := hrel
    by_cases hlt : k < 1024
    · have Hlt := Lib.hid hlt
      have hk2 : (k : Int) < 1024 := by omega
      have hst := ftok_str k hlt wr
      go_upto_region 9 with fail
      clear hst
      have HF3 := Lib.hid (HF.out.next (below_alloc _ (.cells #[.int .u8 (65 + (k : Int) / 64), .int .u8 (48 + (k : Int) % 64)] 5)))
      generalize wr.alloc (.cells #[.int .u8 (65 + (k : Int) / 64), .int .u8 (48 + (k : Int) % 64)] 5) = w3 at HF3 ⊢
      have Hk : Hid (k < 1024) := Lib.hid hlt
      clear hlt
      have HD1 : Hid (Calls Tryz.prog 17 #[.pointer (some ⟨c, 0, none⟩), .agg #[.int .i64 1, .int .u32 0, .int .i64 0, .int .u32 0, .int .u32 0, .bool false, .string (ftok k), .int .i64 0, .int .i64 0, .slice (some ⟨bv, 0, none⟩) 1 1]] w3 fun e w' => e = .returned (.agg #[.int .i64 0, .int .u32 (4 * (k : Int) + 2), .int .i64 1, .int .i64 0, .int .u32 0, .int .u32 0]) ∧ ∃ S', Fl w w' S' c (halfC k) (128 * k + 64) bv ∧ (∀ x, S' x → S x ∨ w3.heap.size ≤ x) ∧ Turn S w3 w') := Lib.hid (HF3.out.do (m := fbegin (ftok k)) (r := ⟨0, 4 * (k : Int) + 2, 1, t0⟩) (by rw [full_begin k Hk.out, show (k : Int) * 4 + 1 + 1 = 4 * (k : Int) + 2 by omega]) (HF3.out.cmd rfl (by first | decide | (simp [fbegin, fresolve, fprepare, fullC, halfC, newC, t0, ftok, maxLen, ByteArray.size]; done) | (simp [fbegin, fresolve, fprepare, fullC, halfC, newC, t0]; omega)) (aw_ok _ (by first | decide | (simp [fbegin, fresolve, fprepare, fullC, halfC, newC, t0, ftok, maxLen, ByteArray.size]; done) | (simp [fbegin, fresolve, fprepare, fullC, halfC, newC, t0]; omega)))) (by have := Hk.out; omega) (by first | decide | (simp [fbegin, fresolve, fprepare, fullC, halfC, newC, t0, ftok, maxLen, ByteArray.size]; done) | (simp [fbegin, fresolve, fprepare, fullC, halfC, newC, t0]; omega)) ⟨(by first | decide | (simp [fbegin, fresolve, fprepare, fullC, halfC, newC, t0, ftok, maxLen, ByteArray.size]; done) | (simp [fbegin, fresolve, fprepare, fullC, halfC, newC, t0]; omega)), (by first | decide | (simp [fbegin, fresolve, fprepare, fullC, halfC, newC, t0, ftok, maxLen, ByteArray.size]; done) | (simp [fbegin, fresolve, fprepare, fullC, halfC, newC, t0]; omega))⟩)
      go_upto_region 10 with (first
        | (go_at_call 17; refine (HD1.out).mono ?_; rintro e w4 ⟨rfl, AS, hF, hSs, hTt⟩; have HF4 := Lib.hid hF; have HF4s := Lib.hid hSs; have HF4t := Lib.hid hTt; clear hF hSs hTt)
        | fail)
      have HY5 := Lib.hid (Blk.new w4 #[.int .i64 0, .int .u32 (4 * (k : Int) + 2), .int .i64 1, .int .i64 0, .int .u32 0, .int .u32 0] 46)
      have HF5 := Lib.hid (HF4.out.next (below_alloc _ (.cells #[.int .i64 0, .int .u32 (4 * (k : Int) + 2), .int .i64 1, .int .i64 0, .int .u32 0, .int .u32 0] 46)))
      generalize w4.alloc (.cells #[.int .i64 0, .int .u32 (4 * (k : Int) + 2), .int .i64 1, .int .i64 0, .int .u32 0, .int .u32 0] 46) = w5 at HY5 HF5 ⊢
      generalize w4.heap.size = gr at HY5 ⊢
      have y0 : w5.cell? ⟨gr, 0, none⟩ = some (.int .i64 0) := HY5.out.cell 0
      have y1 : w5.cell? ⟨gr, 1, none⟩ = some (.int .u32 (4 * (k : Int) + 2)) := HY5.out.cell 1
      have hk1024 : (k : Int) < 1024 := by have := Hk.out; omega
      have hfd := field46
      have HD2 : Hid (Calls Tryz.prog 17 #[.pointer (some ⟨c, 0, none⟩), .agg #[.int .i64 4, .int .u32 ((k : Int) + 1), .int .i64 0, .int .u32 0, .int .u32 0, .bool false, .string ⟨#[]⟩, .int .i64 0, .int .i64 0, .slice none 0 0]] w5 fun e w' => e = .returned (.agg #[.int .i64 0, .int .u32 ((k : Int) + 1), .int .i64 3, .int .i64 0, .int .u32 0, .int .u32 0]) ∧ ∃ S', Fl w w' S' c (fullC (k + 1)) ((128 * k + 64) + 64) bv ∧ (∀ x, S' x → AS x ∨ w5.heap.size ≤ x) ∧ Turn AS w5 w') := Lib.hid (HF5.out.do (m := fresolve ((k : Int) + 1)) (r := ⟨0, (k : Int) + 1, 3, t0⟩) (full_resolve k Hk.out) (cmdr_nil rfl (by first | decide | (simp [fbegin, fresolve, fprepare, fullC, halfC, newC, t0, ftok, maxLen, ByteArray.size]; done) | (simp [fbegin, fresolve, fprepare, fullC, halfC, newC, t0]; omega)) (aw_ok _ (by first | decide | (simp [fbegin, fresolve, fprepare, fullC, halfC, newC, t0, ftok, maxLen, ByteArray.size]; done) | (simp [fbegin, fresolve, fprepare, fullC, halfC, newC, t0]; omega)))) (by have := Hk.out; omega) (by first | decide | (simp [fbegin, fresolve, fprepare, fullC, halfC, newC, t0, ftok, maxLen, ByteArray.size]; done) | (simp [fbegin, fresolve, fprepare, fullC, halfC, newC, t0]; omega)) ⟨(by first | decide | (simp [fbegin, fresolve, fprepare, fullC, halfC, newC, t0, ftok, maxLen, ByteArray.size]; done) | (simp [fbegin, fresolve, fprepare, fullC, halfC, newC, t0]; omega)), (by first | decide | (simp [fbegin, fresolve, fprepare, fullC, halfC, newC, t0, ftok, maxLen, ByteArray.size]; done) | (simp [fbegin, fresolve, fprepare, fullC, halfC, newC, t0]; omega))⟩)
      go_wp2_with (first
        | (go_at_call 17; refine (HD2.out).mono ?_; rintro e w6 ⟨rfl, BS, hF, hSs, hTt⟩; have HF6 := Lib.hid hF; have HF6s := Lib.hid hSs; have HF6t := Lib.hid hTt; clear hF hSs hTt)
        | fail)
      go_roundw
      case rel => exact ⟨k + 1, _, by have := Hk.out; omega, by go_num, Lib.hid (by have h := HF6.out; rw [show 128 * (k + 1) = 128 * k + 64 + 64 by omega]; exact h)⟩
      case measure => have := Hk.out; simp [intOf]; omega
    · have Hk : Hid (k = 1024) := Lib.hid (by omega)
      have e1 : decide ((k : Int) < 1024) = false := by simp; omega
      have HFa := HF
      clear hlt hk
      go_upto_region 13 with fail
      clear e1
      obtain ⟨wa, rfl⟩ : ∃ wa, wa = wr := ⟨_, rfl⟩
      have HD0 : Hid (Calls Tryz.prog 17 #[.pointer (some ⟨c, 0, none⟩), .agg #[.int .i64 1, .int .u32 0, .int .i64 0, .int .u32 0, .int .u32 0, .bool false, .string ⟨#[122, 122]⟩, .int .i64 0, .int .i64 0, .slice (some ⟨bv, 0, none⟩) 1 1]] wa fun e w' => e = .returned (.agg #[.int .i64 4, .int .u32 0, .int .i64 0, .int .i64 0, .int .u32 0, .int .u32 0]) ∧ ∃ S', Fl w w' S' c (fullC k) ((128 * k) + 64) bv ∧ (∀ x, S' x → S x ∨ wa.heap.size ≤ x) ∧ Turn S wa w') := Lib.hid (HFa.out.do (m := fbegin ⟨#[122, 122]⟩) (r := bad 4) (full_a (n := k) Hk.out) (HFa.out.cmd rfl (by first | decide | (simp [fbegin, fresolve, fprepare, fullC, halfC, newC, t0, ftok, maxLen, ByteArray.size]; done) | (simp [fbegin, fresolve, fprepare, fullC, halfC, newC, t0]; omega)) (aw_ok _ (by first | decide | (simp [fbegin, fresolve, fprepare, fullC, halfC, newC, t0, ftok, maxLen, ByteArray.size]; done) | (simp [fbegin, fresolve, fprepare, fullC, halfC, newC, t0]; omega)))) (by have := Hk.out; omega) (by first | decide | (simp [fbegin, fresolve, fprepare, fullC, halfC, newC, t0, ftok, maxLen, ByteArray.size]; done) | (simp [fbegin, fresolve, fprepare, fullC, halfC, newC, t0]; omega)) ⟨(by first | decide | (simp [fbegin, fresolve, fprepare, fullC, halfC, newC, t0, ftok, maxLen, ByteArray.size]; done) | (simp [fbegin, fresolve, fprepare, fullC, halfC, newC, t0]; omega)), (by first | decide | (simp [fbegin, fresolve, fprepare, fullC, halfC, newC, t0, ftok, maxLen, ByteArray.size]; done) | (simp [fbegin, fresolve, fprepare, fullC, halfC, newC, t0]; omega))⟩)
      go_upto_region 14 with (first
        | (go_at_call 17; refine (HD0.out).mono ?_; rintro e wb0 ⟨rfl, T0S, hF, hSs, hTt⟩; have HFb0 := Lib.hid hF; have HFb0s := Lib.hid hSs; have HFb0t := Lib.hid hTt; clear hF hSs hTt)
        | fail)
      have K0 := Lib.hid (HFb0.out.kp #[.int .i64 4, .int .u32 0, .int .i64 0, .int .i64 0, .int .u32 0, .int .u32 0])
      have HFc0 := Lib.hid (HFb0.out.next (below_alloc _ (.cells #[.int .i64 4, .int .u32 0, .int .i64 0, .int .i64 0, .int .u32 0, .int .u32 0] 46)))
      generalize wb0.alloc (.cells #[.int .i64 4, .int .u32 0, .int .i64 0, .int .i64 0, .int .u32 0, .int .u32 0] 46) = wc0 at K0 HFc0  ⊢
      generalize wb0.heap.size = gg0 at K0 ⊢
      have HD1 : Hid (Calls Tryz.prog 17 #[.pointer (some ⟨c, 0, none⟩), .agg #[.int .i64 4, .int .u32 5000, .int .i64 0, .int .u32 0, .int .u32 0, .bool false, .string ⟨#[]⟩, .int .i64 0, .int .i64 0, .slice none 0 0]] wc0 fun e w' => e = .returned (.agg #[.int .i64 4, .int .u32 0, .int .i64 0, .int .i64 0, .int .u32 0, .int .u32 0]) ∧ ∃ S', Fl w w' S' c (fullC k) (((128 * k) + 64) + 64) bv ∧ (∀ x, S' x → T0S x ∨ wc0.heap.size ≤ x) ∧ Turn T0S wc0 w') := Lib.hid (HFc0.out.do (m := fresolve 5000) (r := bad 4) (full_b (n := k) Hk.out) (cmdr_nil rfl (by first | decide | (simp [fbegin, fresolve, fprepare, fullC, halfC, newC, t0, ftok, maxLen, ByteArray.size]; done) | (simp [fbegin, fresolve, fprepare, fullC, halfC, newC, t0]; omega)) (aw_ok _ (by first | decide | (simp [fbegin, fresolve, fprepare, fullC, halfC, newC, t0, ftok, maxLen, ByteArray.size]; done) | (simp [fbegin, fresolve, fprepare, fullC, halfC, newC, t0]; omega)))) (by have := Hk.out; omega) (by first | decide | (simp [fbegin, fresolve, fprepare, fullC, halfC, newC, t0, ftok, maxLen, ByteArray.size]; done) | (simp [fbegin, fresolve, fprepare, fullC, halfC, newC, t0]; omega)) ⟨(by first | decide | (simp [fbegin, fresolve, fprepare, fullC, halfC, newC, t0, ftok, maxLen, ByteArray.size]; done) | (simp [fbegin, fresolve, fprepare, fullC, halfC, newC, t0]; omega)), (by first | decide | (simp [fbegin, fresolve, fprepare, fullC, halfC, newC, t0, ftok, maxLen, ByteArray.size]; done) | (simp [fbegin, fresolve, fprepare, fullC, halfC, newC, t0]; omega))⟩)
      go_upto_region 15 with (first
        | (go_at_call 17; refine (HD1.out).mono ?_; rintro e wb1 ⟨rfl, T1S, hF, hSs, hTt⟩; have HFb1 := Lib.hid hF; have HFb1s := Lib.hid hSs; have HFb1t := Lib.hid hTt; clear hF hSs hTt)
        | fail)
      have K0_1 := Lib.hid (K0.out.do HFb1s.out HFb1t.out)
      have K1 := Lib.hid (HFb1.out.kp #[.int .i64 4, .int .u32 0, .int .i64 0, .int .i64 0, .int .u32 0, .int .u32 0])
      have HFc1 := Lib.hid (HFb1.out.next (below_alloc _ (.cells #[.int .i64 4, .int .u32 0, .int .i64 0, .int .i64 0, .int .u32 0, .int .u32 0] 46)))
      have K0_1n := Lib.hid (K0_1.out.next (below_alloc _ (.cells #[.int .i64 4, .int .u32 0, .int .i64 0, .int .i64 0, .int .u32 0, .int .u32 0] 46)))
      generalize wb1.alloc (.cells #[.int .i64 4, .int .u32 0, .int .i64 0, .int .i64 0, .int .u32 0, .int .u32 0] 46) = wc1 at K1 HFc1 K0_1n ⊢
      generalize wb1.heap.size = gg1 at K1 ⊢
      have HD2 : Hid (Calls Tryz.prog 17 #[.pointer (some ⟨c, 0, none⟩), .agg #[.int .i64 3, .int .u32 5000, .int .i64 0, .int .u32 0, .int .u32 0, .bool false, .string ⟨#[]⟩, .int .i64 0, .int .i64 0, .slice (some ⟨bv, 0, none⟩) 1 1]] wc1 fun e w' => e = .returned (.agg #[.int .i64 4, .int .u32 0, .int .i64 0, .int .i64 0, .int .u32 0, .int .u32 0]) ∧ ∃ S', Fl w w' S' c (fullC k) ((((128 * k) + 64) + 64) + 64) bv ∧ (∀ x, S' x → T1S x ∨ wc1.heap.size ≤ x) ∧ Turn T1S wc1 w') := Lib.hid (HFc1.out.do (m := fprepare 5000) (r := bad 4) (full_d (n := k) Hk.out) (HFc1.out.cmd rfl (by first | decide | (simp [fbegin, fresolve, fprepare, fullC, halfC, newC, t0, ftok, maxLen, ByteArray.size]; done) | (simp [fbegin, fresolve, fprepare, fullC, halfC, newC, t0]; omega)) (aw_ok _ (by first | decide | (simp [fbegin, fresolve, fprepare, fullC, halfC, newC, t0, ftok, maxLen, ByteArray.size]; done) | (simp [fbegin, fresolve, fprepare, fullC, halfC, newC, t0]; omega)))) (by have := Hk.out; omega) (by first | decide | (simp [fbegin, fresolve, fprepare, fullC, halfC, newC, t0, ftok, maxLen, ByteArray.size]; done) | (simp [fbegin, fresolve, fprepare, fullC, halfC, newC, t0]; omega)) ⟨(by first | decide | (simp [fbegin, fresolve, fprepare, fullC, halfC, newC, t0, ftok, maxLen, ByteArray.size]; done) | (simp [fbegin, fresolve, fprepare, fullC, halfC, newC, t0]; omega)), (by first | decide | (simp [fbegin, fresolve, fprepare, fullC, halfC, newC, t0, ftok, maxLen, ByteArray.size]; done) | (simp [fbegin, fresolve, fprepare, fullC, halfC, newC, t0]; omega))⟩)
      go_upto_region 16 with (first
        | (go_at_call 17; refine (HD2.out).mono ?_; rintro e wb2 ⟨rfl, T2S, hF, hSs, hTt⟩; have HFb2 := Lib.hid hF; have HFb2s := Lib.hid hSs; have HFb2t := Lib.hid hTt; clear hF hSs hTt)
        | fail)
      have K0_2 := Lib.hid (K0_1n.out.do HFb2s.out HFb2t.out)
      have K1_2 := Lib.hid (K1.out.do HFb2s.out HFb2t.out)
      have K2 := Lib.hid (HFb2.out.kp #[.int .i64 4, .int .u32 0, .int .i64 0, .int .i64 0, .int .u32 0, .int .u32 0])
      have HFc2 := Lib.hid (HFb2.out.next (below_alloc _ (.cells #[.int .i64 4, .int .u32 0, .int .i64 0, .int .i64 0, .int .u32 0, .int .u32 0] 46)))
      have K0_2n := Lib.hid (K0_2.out.next (below_alloc _ (.cells #[.int .i64 4, .int .u32 0, .int .i64 0, .int .i64 0, .int .u32 0, .int .u32 0] 46)))
      have K1_2n := Lib.hid (K1_2.out.next (below_alloc _ (.cells #[.int .i64 4, .int .u32 0, .int .i64 0, .int .i64 0, .int .u32 0, .int .u32 0] 46)))
      generalize wb2.alloc (.cells #[.int .i64 4, .int .u32 0, .int .i64 0, .int .i64 0, .int .u32 0, .int .u32 0] 46) = wc2 at K2 HFc2 K0_2n K1_2n ⊢
      generalize wb2.heap.size = gg2 at K2 ⊢
      have HD3 : Hid (Calls Tryz.prog 17 #[.pointer (some ⟨c, 0, none⟩), .agg #[.int .i64 1, .int .u32 0, .int .i64 0, .int .u32 0, .int .u32 0, .bool false, .string ⟨#[65, 48]⟩, .int .i64 0, .int .i64 0, .slice (some ⟨bv, 0, none⟩) 1 1]] wc2 fun e w' => e = .returned (.agg #[.int .i64 0, .int .u32 2, .int .i64 1, .int .i64 0, .int .u32 0, .int .u32 0]) ∧ ∃ S', Fl w w' S' c (fullC k) (((((128 * k) + 64) + 64) + 64) + 64) bv ∧ (∀ x, S' x → T2S x ∨ wc2.heap.size ≤ x) ∧ Turn T2S wc2 w') := Lib.hid (HFc2.out.do (m := fbegin ⟨#[65, 48]⟩) (r := ⟨0, 2, 1, t0⟩) (full_e (n := k) Hk.out) (HFc2.out.cmd rfl (by first | decide | (simp [fbegin, fresolve, fprepare, fullC, halfC, newC, t0, ftok, maxLen, ByteArray.size]; done) | (simp [fbegin, fresolve, fprepare, fullC, halfC, newC, t0]; omega)) (aw_ok _ (by first | decide | (simp [fbegin, fresolve, fprepare, fullC, halfC, newC, t0, ftok, maxLen, ByteArray.size]; done) | (simp [fbegin, fresolve, fprepare, fullC, halfC, newC, t0]; omega)))) (by have := Hk.out; omega) (by first | decide | (simp [fbegin, fresolve, fprepare, fullC, halfC, newC, t0, ftok, maxLen, ByteArray.size]; done) | (simp [fbegin, fresolve, fprepare, fullC, halfC, newC, t0]; omega)) ⟨(by first | decide | (simp [fbegin, fresolve, fprepare, fullC, halfC, newC, t0, ftok, maxLen, ByteArray.size]; done) | (simp [fbegin, fresolve, fprepare, fullC, halfC, newC, t0]; omega)), (by first | decide | (simp [fbegin, fresolve, fprepare, fullC, halfC, newC, t0, ftok, maxLen, ByteArray.size]; done) | (simp [fbegin, fresolve, fprepare, fullC, halfC, newC, t0]; omega))⟩)
      go_upto_region 17 with (first
        | (go_at_call 17; refine (HD3.out).mono ?_; rintro e wb3 ⟨rfl, T3S, hF, hSs, hTt⟩; have HFb3 := Lib.hid hF; have HFb3s := Lib.hid hSs; have HFb3t := Lib.hid hTt; clear hF hSs hTt)
        | fail)
      have K0_3 := Lib.hid (K0_2n.out.do HFb3s.out HFb3t.out)
      have K1_3 := Lib.hid (K1_2n.out.do HFb3s.out HFb3t.out)
      have K2_3 := Lib.hid (K2.out.do HFb3s.out HFb3t.out)
      have K3 := Lib.hid (HFb3.out.kp #[.int .i64 0, .int .u32 2, .int .i64 1, .int .i64 0, .int .u32 0, .int .u32 0])
      have HFc3 := Lib.hid (HFb3.out.next (below_alloc _ (.cells #[.int .i64 0, .int .u32 2, .int .i64 1, .int .i64 0, .int .u32 0, .int .u32 0] 46)))
      have K0_3n := Lib.hid (K0_3.out.next (below_alloc _ (.cells #[.int .i64 0, .int .u32 2, .int .i64 1, .int .i64 0, .int .u32 0, .int .u32 0] 46)))
      have K1_3n := Lib.hid (K1_3.out.next (below_alloc _ (.cells #[.int .i64 0, .int .u32 2, .int .i64 1, .int .i64 0, .int .u32 0, .int .u32 0] 46)))
      have K2_3n := Lib.hid (K2_3.out.next (below_alloc _ (.cells #[.int .i64 0, .int .u32 2, .int .i64 1, .int .i64 0, .int .u32 0, .int .u32 0] 46)))
      generalize wb3.alloc (.cells #[.int .i64 0, .int .u32 2, .int .i64 1, .int .i64 0, .int .u32 0, .int .u32 0] 46) = wc3 at K3 HFc3 K0_3n K1_3n K2_3n ⊢
      generalize wb3.heap.size = gg3 at K3 ⊢
      have m0 : wc3.cell? ⟨gg0, 0, none⟩ = some (.int .i64 4) := K0_3n.out.1.cell 0
      have m1 : wc3.cell? ⟨gg1, 0, none⟩ = some (.int .i64 4) := K1_3n.out.1.cell 0
      have m2 : wc3.cell? ⟨gg2, 0, none⟩ = some (.int .i64 4) := K2_3n.out.1.cell 0
      have m3 : wc3.cell? ⟨gg3, 1, none⟩ = some (.int .u32 2) := K3.out.1.cell 1
      go_wp2_with fail
      go_ret
      exact ⟨rfl, HFc3.out.bel⟩
end Go.Proofs.YtbaflgddpciadaaGreat
