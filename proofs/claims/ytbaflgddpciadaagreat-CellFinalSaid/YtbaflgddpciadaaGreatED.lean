/- entry.told (128), begin (51). -/
import Derived.Test.YtbaflgddpciadaaGreatE4
import Derived.Test.YtbaflgddpciadaaGreatE0
set_option linter.unusedVariables false
set_option linter.unusedSimpArgs false
namespace Go.Proofs.YtbaflgddpciadaaGreat
open Go.RowKit Go.Kt Go.Ix Go.Sx Go.Cx
set_option maxRecDepth 100000
variable {F : Nat → Prop} {w w' : World} {c N : Nat} {C : Cl} {p : Cp}
def eval1 (x : En) (sl : Value) : Value := .agg #[.string x.token, .int .u32 x.deed, .int .i64 x.state, .int .i64 x.at_.wall, .int .u32 x.at_.tick, .int .u32 x.at_.mark, sl]
set_option maxHeartbeats 1000000 in
theorem told_any (x : En) (a : Option Addr) (n cap : Nat) (w : World) : Calls Tryz.prog 128 #[eval1 x (.slice a n cap)] w fun e w' => e = .returned (replyV x.told) ∧ Below w.heap.size w w' := by
  obtain ⟨tk, dd, st, ⟨aw, at1, am⟩, ws⟩ := x
  unfold eval1
  simp only
  go_enter Tryz.func128, Tryz.ntmps128
  go_upto_region 1 with fail
  have HX := Lib.hid ((Blk.new w #[.string tk, .int .u32 dd, .int .i64 st, .int .i64 aw, .int .u32 at1, .int .u32 am, .slice a n cap] 178).next (below_alloc _ (.cells #[.int .i64 0, .int .u32 0, .int .i64 0, .int .i64 0, .int .u32 0, .int .u32 0] 46)))
  have HY := Lib.hid (Blk.new (w.alloc (.cells #[.string tk, .int .u32 dd, .int .i64 st, .int .i64 aw, .int .u32 at1, .int .u32 am, .slice a n cap] 178)) #[.int .i64 0, .int .u32 0, .int .i64 0, .int .i64 0, .int .u32 0, .int .u32 0] 46)
  have HB1 := Lib.hid (bel_alloc (o := .cells #[.int .i64 0, .int .u32 0, .int .i64 0, .int .i64 0, .int .u32 0, .int .u32 0] 46) (below_alloc w (.cells #[.string tk, .int .u32 dd, .int .i64 st, .int .i64 aw, .int .u32 at1, .int .u32 am, .slice a n cap] 178)))
  rw [World.size_alloc] at HY
  generalize (w.alloc (.cells #[.string tk, .int .u32 dd, .int .i64 st, .int .i64 aw, .int .u32 at1, .int .u32 am, .slice a n cap] 178)).alloc (.cells #[.int .i64 0, .int .u32 0, .int .i64 0, .int .i64 0, .int .u32 0, .int .u32 0] 46) = w1 at HX HY HB1 ⊢
  generalize hg : w.heap.size = g at HX HY ⊢
  have x1 : w1.cell? ⟨g, 1, none⟩ = some (.int .u32 dd) := HX.out.cell 1
  have x2 : w1.cell? ⟨g, 2, none⟩ = some (.int .i64 st) := HX.out.cell 2
  have x3 : w1.cell? ⟨g, 3, none⟩ = some (.int .i64 aw) := HX.out.cell 3
  have x4 : w1.cell? ⟨g, 4, none⟩ = some (.int .u32 at1) := HX.out.cell 4
  have x5 : w1.cell? ⟨g, 5, none⟩ = some (.int .u32 am) := HX.out.cell 5
  have y0 : w1.cell? ⟨g + 1, 0, none⟩ = some (.int .i64 0) := HY.out.cell 0
  have f0 : w1.frozen? ⟨g + 1, 0, none⟩ = false := HY.out.free 0
  have y1 : w1.cell? ⟨g + 1, 1, none⟩ = some (.int .u32 0) := HY.out.cell 1
  have f1 : w1.frozen? ⟨g + 1, 1, none⟩ = false := HY.out.free 1
  have y2 : w1.cell? ⟨g + 1, 2, none⟩ = some (.int .i64 0) := HY.out.cell 2
  have f2 : w1.frozen? ⟨g + 1, 2, none⟩ = false := HY.out.free 2
  have y3 : w1.cell? ⟨g + 1, 3, none⟩ = some (.int .i64 0) := HY.out.cell 3
  have f3 : w1.frozen? ⟨g + 1, 3, none⟩ = false := HY.out.free 3
  have y4 : w1.cell? ⟨g + 1, 4, none⟩ = some (.int .u32 0) := HY.out.cell 4
  have f4 : w1.frozen? ⟨g + 1, 4, none⟩ = false := HY.out.free 4
  have y5 : w1.cell? ⟨g + 1, 5, none⟩ = some (.int .u32 0) := HY.out.cell 5
  have f5 : w1.frozen? ⟨g + 1, 5, none⟩ = false := HY.out.free 5
  go_wp2_with fail
  have hY := set6 HY.out (.int .i64 0) (.int .u32 dd) (.int .i64 st) (.int .i64 aw) (.int .u32 at1) (.int .u32 am)
  have z0 : ((((((w1.setCell ⟨g + 1, 0, none⟩ (.int .i64 0)).setCell ⟨g + 1, 1, none⟩ (.int .u32 dd)).setCell ⟨g + 1, 2, none⟩ (.int .i64 st)).setCell ⟨g + 1, 3, none⟩ (.int .i64 aw)).setCell ⟨g + 1, 4, none⟩ (.int .u32 at1)).setCell ⟨g + 1, 5, none⟩ (.int .u32 am)).cell? ⟨g + 1, 0, none⟩ = some (.int .i64 0) := hY.cell 0
  have z1 : ((((((w1.setCell ⟨g + 1, 0, none⟩ (.int .i64 0)).setCell ⟨g + 1, 1, none⟩ (.int .u32 dd)).setCell ⟨g + 1, 2, none⟩ (.int .i64 st)).setCell ⟨g + 1, 3, none⟩ (.int .i64 aw)).setCell ⟨g + 1, 4, none⟩ (.int .u32 at1)).setCell ⟨g + 1, 5, none⟩ (.int .u32 am)).cell? ⟨g + 1, 1, none⟩ = some (.int .u32 dd) := hY.cell 1
  have z2 : ((((((w1.setCell ⟨g + 1, 0, none⟩ (.int .i64 0)).setCell ⟨g + 1, 1, none⟩ (.int .u32 dd)).setCell ⟨g + 1, 2, none⟩ (.int .i64 st)).setCell ⟨g + 1, 3, none⟩ (.int .i64 aw)).setCell ⟨g + 1, 4, none⟩ (.int .u32 at1)).setCell ⟨g + 1, 5, none⟩ (.int .u32 am)).cell? ⟨g + 1, 2, none⟩ = some (.int .i64 st) := hY.cell 2
  have z3 : ((((((w1.setCell ⟨g + 1, 0, none⟩ (.int .i64 0)).setCell ⟨g + 1, 1, none⟩ (.int .u32 dd)).setCell ⟨g + 1, 2, none⟩ (.int .i64 st)).setCell ⟨g + 1, 3, none⟩ (.int .i64 aw)).setCell ⟨g + 1, 4, none⟩ (.int .u32 at1)).setCell ⟨g + 1, 5, none⟩ (.int .u32 am)).cell? ⟨g + 1, 3, none⟩ = some (.int .i64 aw) := hY.cell 3
  have z4 : ((((((w1.setCell ⟨g + 1, 0, none⟩ (.int .i64 0)).setCell ⟨g + 1, 1, none⟩ (.int .u32 dd)).setCell ⟨g + 1, 2, none⟩ (.int .i64 st)).setCell ⟨g + 1, 3, none⟩ (.int .i64 aw)).setCell ⟨g + 1, 4, none⟩ (.int .u32 at1)).setCell ⟨g + 1, 5, none⟩ (.int .u32 am)).cell? ⟨g + 1, 4, none⟩ = some (.int .u32 at1) := hY.cell 4
  have z5 : ((((((w1.setCell ⟨g + 1, 0, none⟩ (.int .i64 0)).setCell ⟨g + 1, 1, none⟩ (.int .u32 dd)).setCell ⟨g + 1, 2, none⟩ (.int .i64 st)).setCell ⟨g + 1, 3, none⟩ (.int .i64 aw)).setCell ⟨g + 1, 4, none⟩ (.int .u32 at1)).setCell ⟨g + 1, 5, none⟩ (.int .u32 am)).cell? ⟨g + 1, 5, none⟩ = some (.int .u32 am) := hY.cell 5
  refine bodyPost_ret (v := .agg #[.int .i64 0, .int .u32 dd, .int .i64 st, .int .i64 aw, .int .u32 at1, .int .u32 am]) (by simp [results, Tryz.results128, go_sem, z0, z1, z2, z3, z4, z5]) rfl ?_
  exact ⟨rfl, by rw [← hg]; exact bel6 rfl HB1.out⟩
theorem set7 {w : World} {g : Nat} {c0 c1 c2 c3 c4 c5 c6 : Value} {t : TypeId} (h : Blk w g #[c0, c1, c2, c3, c4, c5, c6] t) (d0 d1 d2 d3 d4 d5 d6 : Value) :
    Blk (((((((w.setCell ⟨g, 0, none⟩ d0).setCell ⟨g, 1, none⟩ d1).setCell ⟨g, 2, none⟩ d2).setCell ⟨g, 3, none⟩ d3).setCell ⟨g, 4, none⟩ d4).setCell ⟨g, 5, none⟩ d5).setCell ⟨g, 6, none⟩ d6) g #[d0, d1, d2, d3, d4, d5, d6] t := by
  have := ((((((h.set 0 d0).set 1 d1).set 2 d2).set 3 d3).set 4 d4).set 5 d5).set 6 d6
  simpa using this
theorem made_first {F : Nat → Prop} {W0 w5 : World} {v5 : Value} {T5 : List Wr} {n : Nat} {cs : Array Value} {t : TypeId} (h0 : Blk W0 n cs t) (hm : Wrs 87 104 W0 w5 v5 T5) (hF : ∀ x, F x → x < n) : Blk w5 n cs t ∧ RdB (fun x => F x ∨ x = n) w5 v5 (T5.map Wr.pl) :=
  ⟨h0.next hm.bel, wrs_rdb hm (fun x hx => by
    rcases hx with hx | rfl
    · exact Nat.lt_trans (hF x hx) h0.lt
    · exact h0.lt)⟩
theorem four {wd W w7 : World} {r : Option Nat} {P Q : Prop} (hg : W.grownBy w7 r) (hP : P) (hn : Q) (hb : Below wd.heap.size wd W) : Below wd.heap.size wd W ∧ P ∧ W.grownBy w7 r ∧ Q := ⟨hb, hP, hg, hn⟩
theorem ok138 : ElemOk Tryz.prog 138 178 (.agg #[.string ⟨#[]⟩, .int .u32 0, .int .i64 0, .int .i64 0, .int .u32 0, .int .u32 0, .slice none 0 0]) 7 72 := ⟨Tryz.underlying138, info_parts (by kernel_rfl), rfl, by decide⟩
theorem en_one (a0 : ByteArray) (a1 a2 a3 a4 a5 : Int) (a : Option Addr) (n cap : Nat) : ∀ u ∈ (#[.string a0, .int .u32 a1, .int .i64 a2, .int .i64 a3, .int .u32 a4, .int .u32 a5, .slice a n cap] : Array Value).toList, u.oneCell' = true := by
  intro u h
  simp only [List.mem_cons, List.not_mem_nil, or_false] at h
  rcases h with rfl | rfl | rfl | rfl | rfl | rfl | rfl <;> rfl
theorem begin_bad {m : Cmd} (h : ¬ (Token m.token ∧ Batch m.ws)) : beginC C m = (bad 1, C) := by unfold beginC; rw [if_pos h]
theorem book_inj {B : List En} (h : B.Pairwise fun a b => a.token ≠ b.token) {a b : En} (ha : a ∈ B) (hb : b ∈ B) (e : a.token = b.token) : a = b := by
  obtain ⟨i, hi, rfl⟩ := List.getElem_of_mem ha
  obtain ⟨j, hj, rfl⟩ := List.getElem_of_mem hb
  have hp := List.pairwise_iff_getElem.1 h
  rcases Nat.lt_trichotomy i j with h1 | h1 | h1
  · exact absurd e (hp i j hi hj h1)
  · subst h1; rfl
  · exact absurd e.symm (hp j i hj hi h1)
theorem book_find {B : List En} (h : B.Pairwise fun a b => a.token ≠ b.token) {x : En} (hx : x ∈ B) : B.find? (fun y => decide (y.token = x.token)) = some x := by
  cases hf : B.find? (fun y => decide (y.token = x.token)) with
  | none => exact absurd (List.find?_eq_none.1 hf x hx) (by simp)
  | some y => rw [book_inj h (List.mem_of_find?_eq_some hf) hx (by simpa using List.find?_some hf)]
theorem begin_same {m : Cmd} (h : Token m.token ∧ Batch m.ws) (hi : CInv C) {x : En} (hx : x ∈ C.book) (ht : x.token = m.token) (hw : x.ws = m.ws) : beginC C m = (x.told, C) := by
  unfold beginC; rw [if_neg (fun h' => h' h), ← ht, book_find hi.tokens hx]; exact if_pos hw
theorem begin_clash {m : Cmd} (h : Token m.token ∧ Batch m.ws) (hi : CInv C) {x : En} (hx : x ∈ C.book) (ht : x.token = m.token) (hw : ¬ x.ws = m.ws) : beginC C m = (bad 120, C) := by
  unfold beginC; rw [if_neg (fun h' => h' h), ← ht, book_find hi.tokens hx]; exact if_neg hw
theorem begin_full {m : Cmd} (h : Token m.token ∧ Batch m.ws) (hn : ∀ x ∈ C.book, x.token ≠ m.token) (hl : 1024 ≤ C.book.length) : beginC C m = (bad 4, C) := by
  unfold beginC; rw [if_neg (fun h' => h' h), List.find?_eq_none.2 (fun x hx => by simpa using hn x hx)]; exact if_pos hl
theorem begin_new {m : Cmd} (h : Token m.token ∧ Batch m.ws) (hn : ∀ x ∈ C.book, x.token ≠ m.token) (hl : ¬ 1024 ≤ C.book.length) : beginC C m = ((⟨m.token, C.book.length * 4 + C.id + 1, 1, t0, m.ws⟩ : En).told, { C with book := C.book ++ [⟨m.token, C.book.length * 4 + C.id + 1, 1, t0, m.ws⟩] }) := by
  unfold beginC; rw [if_neg (fun h' => h' h), List.find?_eq_none.2 (fun x hx => by simpa using hn x hx)]; exact if_neg hl
set_option maxHeartbeats 8000000 in
theorem beginc_any (m : Cmd) (v : Value) (T : List Wr) (w : World) (h : CeAt F w c C N p) (hm : CmdR w m v T) (hi : CInv (beginC C m).2) :
    Calls Tryz.prog 51 #[.pointer (some ⟨c, 0, none⟩), cmdV m v] w fun e w' => DoPost F w c p (beginC C m) N e w' := by
  obtain ⟨kd, dd, ⟨aw, at1, am⟩, ys, tk, nn, id, ws⟩ := m
  obtain ⟨va, vc, hve, -⟩ := hm.rd.open
  subst hve
  have H := Lib.hid h
  have HM := Lib.hid hm
  have HX := Lib.hid ((Blk.new w #[.int .i64 kd, .int .u32 dd, .int .i64 aw, .int .u32 at1, .int .u32 am, .bool ys, .string tk, .int .i64 nn, .int .i64 id, .slice va T.length vc] 50).next (below_alloc _ (.cells #[.int .i64 0, .int .u32 0, .int .i64 0, .int .i64 0, .int .u32 0, .int .u32 0] 46)))
  have HY := Lib.hid (Blk.new (w.alloc (.cells #[.int .i64 kd, .int .u32 dd, .int .i64 aw, .int .u32 at1, .int .u32 am, .bool ys, .string tk, .int .i64 nn, .int .i64 id, .slice va T.length vc] 50)) #[.int .i64 0, .int .u32 0, .int .i64 0, .int .i64 0, .int .u32 0, .int .u32 0] 46)
  have HB1 := Lib.hid (bel_alloc (o := .cells #[.int .i64 0, .int .u32 0, .int .i64 0, .int .i64 0, .int .u32 0, .int .u32 0] 46) (below_alloc w (.cells #[.int .i64 kd, .int .u32 dd, .int .i64 aw, .int .u32 at1, .int .u32 am, .bool ys, .string tk, .int .i64 nn, .int .i64 id, .slice va T.length vc] 50)))
  rw [World.size_alloc] at HY
  unfold cmdV
  simp only
  clear h hm
  go_enter Tryz.func51, Tryz.ntmps51
  go_upto_region 1 with fail
  generalize (w.alloc (.cells #[.int .i64 kd, .int .u32 dd, .int .i64 aw, .int .u32 at1, .int .u32 am, .bool ys, .string tk, .int .i64 nn, .int .i64 id, .slice va T.length vc] 50)).alloc (.cells #[.int .i64 0, .int .u32 0, .int .i64 0, .int .i64 0, .int .u32 0, .int .u32 0] 46) = w1 at HX HY HB1 ⊢
  have HBr : Hid (∀ W, Below w1.heap.size w1 W → Below w.heap.size w W) := Lib.hid (fun W hW => bel_trans HB1.out hW)
  have HG : Hid (w.heap.size < w1.heap.size) := Lib.hid HX.out.lt
  generalize hg : w.heap.size = g at HX HY ⊢
  have x6 : w1.cell? ⟨g, 6, none⟩ = some (.string tk) := (HX.out.next (bel_refl w1)).cell 6
  have x9 : w1.cell? ⟨g, 9, none⟩ = some (.slice va T.length vc) := (HX.out.next (bel_refl w1)).cell 9
  have HYf : Hid (∀ W, Below w1.heap.size w1 W → W.cell? ⟨g + 1, 0, none⟩ = some (.int .i64 0) ∧ W.frozen? ⟨g + 1, 0, none⟩ = false ∧ W.cell? ⟨g + 1, 1, none⟩ = some (.int .u32 0) ∧ W.frozen? ⟨g + 1, 1, none⟩ = false ∧ W.cell? ⟨g + 1, 2, none⟩ = some (.int .i64 0) ∧ W.frozen? ⟨g + 1, 2, none⟩ = false ∧ W.cell? ⟨g + 1, 3, none⟩ = some (.int .i64 0) ∧ W.frozen? ⟨g + 1, 3, none⟩ = false ∧ W.cell? ⟨g + 1, 4, none⟩ = some (.int .u32 0) ∧ W.frozen? ⟨g + 1, 4, none⟩ = false ∧ W.cell? ⟨g + 1, 5, none⟩ = some (.int .u32 0) ∧ W.frozen? ⟨g + 1, 5, none⟩ = false) := Lib.hid (fun W hW => ⟨(HY.out.next hW).cell 0, (HY.out.next hW).free 0, (HY.out.next hW).cell 1, (HY.out.next hW).free 1, (HY.out.next hW).cell 2, (HY.out.next hW).free 2, (HY.out.next hW).cell 3, (HY.out.next hW).free 3, (HY.out.next hW).cell 4, (HY.out.next hW).free 4, (HY.out.next hW).cell 5, (HY.out.next hW).free 5⟩)
  have HTo := Lib.hid (fun W => isToken_any tk W HM.out.tok)
  have HBa := Lib.hid (fun W hW => rightBatch_any (.slice va T.length vc) T W (HM.out.rd.below (w' := W) hW) HM.out.fit)
  have HBt : Hid (BatchW T ↔ Batch ws) := Lib.hid (batch_pl HM.out.pl)
  by_cases htk : Token tk
  · by_cases hba : Batch ws
    · skip
      obtain ⟨ba, bc, hbv, hb1, hb2, hbcell⟩ := H.out.book.cells
      have HCell := Lib.hid hbcell
      have HBv := Lib.hid hbv
      have HBl : Hid (p.B.length ≤ bc ∧ bc ≤ 9223372036854775807 ∧ p.B.length = C.book.length ∧ p.B.length ≤ 1024) := Lib.hid ⟨hb1, hb2, by rw [← H.out.told, List.length_map], by rw [← List.length_map (f := Prod.fst), H.out.told]; exact H.out.inv.nbook⟩
      clear hbcell hbv hb1 hb2
      have HC4 : Hid (∀ W, Below w1.heap.size w1 W → W.cell? ⟨c, 4, none⟩ = some (.slice ba p.B.length bc)) := Lib.hid (fun W hW => by rw [← HBv.out]; exact (H.out.next (HBr.out _ hW)).blk.cell 4)
      go_upto_region 3 with (first
        | (go_at_call 29; refine (HTo.out _).mono ?_; rintro e w2 ⟨hs2, hw2⟩; obtain ⟨z, rfl, hz⟩ := says_out hs2; obtain rfl : z = true := hz.2 htk; subst hw2; clear hs2 hz)
        | (go_at_call 27; refine (HBa.out _ (HBr.out _ (bel_refl _))).mono ?_; rintro e w3 ⟨hs3, hb3⟩; obtain ⟨z, rfl, hz⟩ := says_out hs3; obtain rfl : z = true := hz.2 (HBt.out.2 hba); have HB3 := Lib.hid hb3; clear hs3 hz hb3)
        | fail)
      have HTB : Hid (Token tk ∧ Batch ws) := Lib.hid ⟨htk, hba⟩
      clear x6 x9 htk hba
      have c4 := HC4.out w3 HB3.out
      go_upto_region 4 with fail
      clear c4
      have HN0 : Hid (∀ (j : Nat) y, j < 0 → p.B[j]? = some y → y.1.token ≠ tk) := Lib.hid (fun j y h => by omega)
      go_loopw [24] (fun i wr => ∃ k : Nat, k ≤ p.B.length ∧ i = .int .i64 k ∧ Hid (∀ (j : Nat) y, j < k → p.B[j]? = some y → y.1.token ≠ tk) ∧ Hid (Below w1.heap.size w1 wr)) (fun i _ => p.B.length - (intOf i).toNat)
      case atStart => exact ⟨0, by omega, rfl, HN0, HB3⟩
      case round =>
        clear HN0 HB3
        obtain ⟨k, hk, rfl, HN, HB⟩ := hrel
        by_cases hlt : k < p.B.length
        · obtain ⟨q, hq⟩ : ∃ q, p.B[k]? = some q := ⟨p.B[k], List.getElem?_eq_getElem hlt⟩
          obtain ⟨b, rfl, hbl, c0, c1, c2, c3, c40, c5, c6⟩ := HCell.out k q hq
          have hrd : RdB F wr q.2 q.1.ws := ((H.out.next (HBr.out _ HB.out)).book.ws q (List.mem_of_getElem? hq))
          have Hmem : Hid (q.1 ∈ C.book) := Lib.hid (by rw [← H.out.told]; exact List.mem_map_of_mem (List.mem_of_getElem? hq))
          have Hq := Lib.hid hq
          obtain ⟨⟨etk, edd, est, ⟨ew, et, em⟩, ews⟩, sl⟩ := q
          obtain ⟨T2, hT2, hT3⟩ := hrd
          obtain ⟨sa, sc, hsl, -⟩ := hT2.rd.open
          simp only at c0 c1 c2 c3 c40 c5 c6 hsl hT3 hT2
          subst hsl
          have hB := HBr.out _ HB.out
          have d0 : wr.cell? ⟨b, k * 7, none⟩ = some (.string etk) := (hB.cell (p := ⟨b, _, none⟩) hbl).trans c0
          have d1 : wr.cell? ⟨b, k * 7 + 1, none⟩ = some (.int .u32 edd) := (hB.cell (p := ⟨b, _, none⟩) hbl).trans c1
          have d2 : wr.cell? ⟨b, k * 7 + 2, none⟩ = some (.int .i64 est) := (hB.cell (p := ⟨b, _, none⟩) hbl).trans c2
          have d3 : wr.cell? ⟨b, k * 7 + 3, none⟩ = some (.int .i64 ew) := (hB.cell (p := ⟨b, _, none⟩) hbl).trans c3
          have d4 : wr.cell? ⟨b, k * 7 + 4, none⟩ = some (.int .u32 et) := (hB.cell (p := ⟨b, _, none⟩) hbl).trans c40
          have d5 : wr.cell? ⟨b, k * 7 + 5, none⟩ = some (.int .u32 em) := (hB.cell (p := ⟨b, _, none⟩) hbl).trans c5
          have d6 : wr.cell? ⟨b, k * 7 + 6, none⟩ = some (.slice sa T2.length sc) := (hB.cell (p := ⟨b, _, none⟩) hbl).trans c6
          have hk1 : (0 : Int) ≤ (k : Int) := by omega
          have hk2 : (k : Int) < (p.B.length : Int) := by omega
          have HX5 := Lib.hid (Blk.new wr #[.string etk, .int .u32 edd, .int .i64 est, .int .i64 ew, .int .u32 et, .int .u32 em, .slice sa T2.length sc] 178)
          have HBa5 := Lib.hid (below_alloc wr (.cells #[.string etk, .int .u32 edd, .int .i64 est, .int .i64 ew, .int .u32 et, .int .u32 em, .slice sa T2.length sc] 178))
          have HT2 := Lib.hid hT2
          have HT3 := Lib.hid hT3
          have Hlt := Lib.hid hlt
          clear c0 c1 c2 c3 c40 c5 c6 hB hq hT2 hT3
          go_upto_region 6 with fail
          clear d0 d1 d2 d3 d4 d5 d6
          generalize wr.alloc (.cells #[.string etk, .int .u32 edd, .int .i64 est, .int .i64 ew, .int .u32 et, .int .u32 em, .slice sa T2.length sc] 178) = w5 at HX5 HBa5 ⊢
          obtain ⟨g5, hg5⟩ : ∃ g, wr.heap.size = g := ⟨_, rfl⟩
          rw [hg5] at HX5 ⊢
          have HB5 := Lib.hid (bel_trans HB.out HBa5.out)
          have e0 : w5.cell? ⟨g5, 0, none⟩ = some (.string etk) := HX5.out.cell 0
          have x6 : w5.cell? ⟨g, 6, none⟩ = some (.string tk) := (HX.out.next HB5.out).cell 6
          by_cases ht : etk = tk
          · subst ht
            have x9 : w5.cell? ⟨g, 9, none⟩ = some (.slice va T.length vc) := (HX.out.next HB5.out).cell 9
            have e6 : w5.cell? ⟨g5, 6, none⟩ = some (.slice sa T2.length sc) := HX5.out.cell 6
            have HL2 : Hid (T2.length ≤ 1048576 ∧ ∀ m ∈ T2, m.st.length ≤ 4398046511104) := Lib.hid (by
              obtain ⟨i, hi⟩ := List.getElem?_of_mem Hmem.out
              have hbt := (H.out.inv.entry i _ hi).2.2.1
              obtain ⟨h1, h2, h3, -⟩ := hbt
              simp only at h1 h2 h3
              have hlen : T2.length = ews.length := by rw [← HT3.out, List.length_map]
              refine ⟨by omega, fun m hm => ?_⟩
              have hr := h3 m.pl (by rw [← HT3.out]; exact List.mem_map_of_mem hm)
              exact right_len hr.1)
            have HSm := Lib.hid (fun W (hW : Below w5.heap.size w5 W) => same_any (.slice sa T2.length sc) (.slice va T.length vc) T2 T W ((HT2.out.rd.below HBa5.out).below hW) (HM.out.rd.below (bel_trans (HBr.out _ HB5.out) hW)) HL2.out.1 HL2.out.2)
            have HEq : Hid (T2.map Wr.bare = T.map Wr.bare ↔ ews = ws) := Lib.hid (by rw [pl_bares, HT3.out, HM.out.pl])
            by_cases hsame : ews = ws
            · have HE := Lib.hid (begin_same (m := ⟨kd, dd, ⟨aw, at1, am⟩, ys, etk, nn, id, ws⟩) HTB.out H.out.inv Hmem.out rfl hsame)
              have HTl := Lib.hid (fun W => told_any ⟨etk, edd, est, ⟨ew, et, em⟩, ews⟩ sa T2.length sc W)
              unfold replyV replyA eval1 En.told at HTl
              simp only at HTl
              clear hi
              go_upto_region 9 with (first
                | (go_at_call 127; refine (HSm.out _ (bel_refl _)).mono ?_; rintro e w7 ⟨hs7, hb7⟩; obtain ⟨z, rfl, hz⟩ := says_out hs7; obtain rfl : z = true := hz.2 (HEq.out.2 hsame); have HB57 := Lib.hid hb7; have HB7 := Lib.hid (bel_trans HB5.out hb7); clear hs7 hz hb7)
                | fail)
              clear e0 e6 x6 x9
              have HX7 := Lib.hid (HX5.out.next HB57.out)
              have e0 : w7.cell? ⟨g5, 0, none⟩ = some (.string etk) := HX7.out.cell 0
              have e1 : w7.cell? ⟨g5, 1, none⟩ = some (.int .u32 edd) := HX7.out.cell 1
              have e2 : w7.cell? ⟨g5, 2, none⟩ = some (.int .i64 est) := HX7.out.cell 2
              have e3 : w7.cell? ⟨g5, 3, none⟩ = some (.int .i64 ew) := HX7.out.cell 3
              have e4 : w7.cell? ⟨g5, 4, none⟩ = some (.int .u32 et) := HX7.out.cell 4
              have e5 : w7.cell? ⟨g5, 5, none⟩ = some (.int .u32 em) := HX7.out.cell 5
              have e6 : w7.cell? ⟨g5, 6, none⟩ = some (.slice sa T2.length sc) := HX7.out.cell 6
              go_wp2_with (first
                | (go_at_call 128; refine (HTl.out _).mono ?_; rintro e w8 ⟨rfl, hb8⟩; have HB8 := Lib.hid (bel_trans HB7.out hb8); clear hb8; obtain ⟨y0, f0, y1, f1, y2, f2, y3, f3, y4, f4, y5, f5⟩ := HYf.out w8 HB8.out)
                | fail)
              have hY := set6 (HY.out.next HB8.out) (.int .i64 0) (.int .u32 edd) (.int .i64 est) (.int .i64 ew) (.int .u32 et) (.int .u32 em)
              have z0 : ((((((w8.setCell ⟨g + 1, 0, none⟩ (.int .i64 0)).setCell ⟨g + 1, 1, none⟩ (.int .u32 edd)).setCell ⟨g + 1, 2, none⟩ (.int .i64 est)).setCell ⟨g + 1, 3, none⟩ (.int .i64 ew)).setCell ⟨g + 1, 4, none⟩ (.int .u32 et)).setCell ⟨g + 1, 5, none⟩ (.int .u32 em)).cell? ⟨g + 1, 0, none⟩ = some (.int .i64 0) := hY.cell 0
              have z1 : ((((((w8.setCell ⟨g + 1, 0, none⟩ (.int .i64 0)).setCell ⟨g + 1, 1, none⟩ (.int .u32 edd)).setCell ⟨g + 1, 2, none⟩ (.int .i64 est)).setCell ⟨g + 1, 3, none⟩ (.int .i64 ew)).setCell ⟨g + 1, 4, none⟩ (.int .u32 et)).setCell ⟨g + 1, 5, none⟩ (.int .u32 em)).cell? ⟨g + 1, 1, none⟩ = some (.int .u32 edd) := hY.cell 1
              have z2 : ((((((w8.setCell ⟨g + 1, 0, none⟩ (.int .i64 0)).setCell ⟨g + 1, 1, none⟩ (.int .u32 edd)).setCell ⟨g + 1, 2, none⟩ (.int .i64 est)).setCell ⟨g + 1, 3, none⟩ (.int .i64 ew)).setCell ⟨g + 1, 4, none⟩ (.int .u32 et)).setCell ⟨g + 1, 5, none⟩ (.int .u32 em)).cell? ⟨g + 1, 2, none⟩ = some (.int .i64 est) := hY.cell 2
              have z3 : ((((((w8.setCell ⟨g + 1, 0, none⟩ (.int .i64 0)).setCell ⟨g + 1, 1, none⟩ (.int .u32 edd)).setCell ⟨g + 1, 2, none⟩ (.int .i64 est)).setCell ⟨g + 1, 3, none⟩ (.int .i64 ew)).setCell ⟨g + 1, 4, none⟩ (.int .u32 et)).setCell ⟨g + 1, 5, none⟩ (.int .u32 em)).cell? ⟨g + 1, 3, none⟩ = some (.int .i64 ew) := hY.cell 3
              have z4 : ((((((w8.setCell ⟨g + 1, 0, none⟩ (.int .i64 0)).setCell ⟨g + 1, 1, none⟩ (.int .u32 edd)).setCell ⟨g + 1, 2, none⟩ (.int .i64 est)).setCell ⟨g + 1, 3, none⟩ (.int .i64 ew)).setCell ⟨g + 1, 4, none⟩ (.int .u32 et)).setCell ⟨g + 1, 5, none⟩ (.int .u32 em)).cell? ⟨g + 1, 4, none⟩ = some (.int .u32 et) := hY.cell 4
              have z5 : ((((((w8.setCell ⟨g + 1, 0, none⟩ (.int .i64 0)).setCell ⟨g + 1, 1, none⟩ (.int .u32 edd)).setCell ⟨g + 1, 2, none⟩ (.int .i64 est)).setCell ⟨g + 1, 3, none⟩ (.int .i64 ew)).setCell ⟨g + 1, 4, none⟩ (.int .u32 et)).setCell ⟨g + 1, 5, none⟩ (.int .u32 em)).cell? ⟨g + 1, 5, none⟩ = some (.int .u32 em) := hY.cell 5
              refine bodyPost_ret (v := .agg #[.int .i64 0, .int .u32 edd, .int .i64 est, .int .i64 ew, .int .u32 et, .int .u32 em]) (by simp [results, Tryz.results51, go_sem, z0, z1, z2, z3, z4, z5]) rfl ?_
              exact post_same H.out (by rw [HE.out]; rfl) (by rw [HE.out]) (bel6 hg (HBr.out _ HB8.out))
            · have HE := Lib.hid (begin_clash (m := ⟨kd, dd, ⟨aw, at1, am⟩, ys, etk, nn, id, ws⟩) HTB.out H.out.inv Hmem.out rfl hsame)
              clear hi
              go_upto_region 8 with (first
                | (go_at_call 127; refine (HSm.out _ (bel_refl _)).mono ?_; rintro e w7 ⟨hs7, hb7⟩; obtain ⟨z, rfl, hz⟩ := says_out hs7; have hzf : z = false := (by cases z with | false => rfl | true => exact absurd (HEq.out.1 (hz.1 rfl)) hsame); subst hzf; have HB7 := Lib.hid (bel_trans HB5.out hb7); clear hs7 hz hb7)
                | fail)
              clear e0 e6 x6 x9
              have y0 : w7.cell? ⟨g + 1, 0, none⟩ = some (.int .i64 0) := (HY.out.next HB7.out).cell 0
              have f0 : w7.frozen? ⟨g + 1, 0, none⟩ = false := (HY.out.next HB7.out).free 0
              have y1 : w7.cell? ⟨g + 1, 1, none⟩ = some (.int .u32 0) := (HY.out.next HB7.out).cell 1
              have f1 : w7.frozen? ⟨g + 1, 1, none⟩ = false := (HY.out.next HB7.out).free 1
              have y2 : w7.cell? ⟨g + 1, 2, none⟩ = some (.int .i64 0) := (HY.out.next HB7.out).cell 2
              have f2 : w7.frozen? ⟨g + 1, 2, none⟩ = false := (HY.out.next HB7.out).free 2
              have y3 : w7.cell? ⟨g + 1, 3, none⟩ = some (.int .i64 0) := (HY.out.next HB7.out).cell 3
              have f3 : w7.frozen? ⟨g + 1, 3, none⟩ = false := (HY.out.next HB7.out).free 3
              have y4 : w7.cell? ⟨g + 1, 4, none⟩ = some (.int .u32 0) := (HY.out.next HB7.out).cell 4
              have f4 : w7.frozen? ⟨g + 1, 4, none⟩ = false := (HY.out.next HB7.out).free 4
              have y5 : w7.cell? ⟨g + 1, 5, none⟩ = some (.int .u32 0) := (HY.out.next HB7.out).cell 5
              have f5 : w7.frozen? ⟨g + 1, 5, none⟩ = false := (HY.out.next HB7.out).free 5
              go_wp2_with fail
              have hY := set6 (HY.out.next HB7.out) (.int .i64 120) (.int .u32 0) (.int .i64 0) (.int .i64 0) (.int .u32 0) (.int .u32 0)
              have z0 : ((((((w7.setCell ⟨g + 1, 0, none⟩ (.int .i64 120)).setCell ⟨g + 1, 1, none⟩ (.int .u32 0)).setCell ⟨g + 1, 2, none⟩ (.int .i64 0)).setCell ⟨g + 1, 3, none⟩ (.int .i64 0)).setCell ⟨g + 1, 4, none⟩ (.int .u32 0)).setCell ⟨g + 1, 5, none⟩ (.int .u32 0)).cell? ⟨g + 1, 0, none⟩ = some (.int .i64 120) := hY.cell 0
              have z1 : ((((((w7.setCell ⟨g + 1, 0, none⟩ (.int .i64 120)).setCell ⟨g + 1, 1, none⟩ (.int .u32 0)).setCell ⟨g + 1, 2, none⟩ (.int .i64 0)).setCell ⟨g + 1, 3, none⟩ (.int .i64 0)).setCell ⟨g + 1, 4, none⟩ (.int .u32 0)).setCell ⟨g + 1, 5, none⟩ (.int .u32 0)).cell? ⟨g + 1, 1, none⟩ = some (.int .u32 0) := hY.cell 1
              have z2 : ((((((w7.setCell ⟨g + 1, 0, none⟩ (.int .i64 120)).setCell ⟨g + 1, 1, none⟩ (.int .u32 0)).setCell ⟨g + 1, 2, none⟩ (.int .i64 0)).setCell ⟨g + 1, 3, none⟩ (.int .i64 0)).setCell ⟨g + 1, 4, none⟩ (.int .u32 0)).setCell ⟨g + 1, 5, none⟩ (.int .u32 0)).cell? ⟨g + 1, 2, none⟩ = some (.int .i64 0) := hY.cell 2
              have z3 : ((((((w7.setCell ⟨g + 1, 0, none⟩ (.int .i64 120)).setCell ⟨g + 1, 1, none⟩ (.int .u32 0)).setCell ⟨g + 1, 2, none⟩ (.int .i64 0)).setCell ⟨g + 1, 3, none⟩ (.int .i64 0)).setCell ⟨g + 1, 4, none⟩ (.int .u32 0)).setCell ⟨g + 1, 5, none⟩ (.int .u32 0)).cell? ⟨g + 1, 3, none⟩ = some (.int .i64 0) := hY.cell 3
              have z4 : ((((((w7.setCell ⟨g + 1, 0, none⟩ (.int .i64 120)).setCell ⟨g + 1, 1, none⟩ (.int .u32 0)).setCell ⟨g + 1, 2, none⟩ (.int .i64 0)).setCell ⟨g + 1, 3, none⟩ (.int .i64 0)).setCell ⟨g + 1, 4, none⟩ (.int .u32 0)).setCell ⟨g + 1, 5, none⟩ (.int .u32 0)).cell? ⟨g + 1, 4, none⟩ = some (.int .u32 0) := hY.cell 4
              have z5 : ((((((w7.setCell ⟨g + 1, 0, none⟩ (.int .i64 120)).setCell ⟨g + 1, 1, none⟩ (.int .u32 0)).setCell ⟨g + 1, 2, none⟩ (.int .i64 0)).setCell ⟨g + 1, 3, none⟩ (.int .i64 0)).setCell ⟨g + 1, 4, none⟩ (.int .u32 0)).setCell ⟨g + 1, 5, none⟩ (.int .u32 0)).cell? ⟨g + 1, 5, none⟩ = some (.int .u32 0) := hY.cell 5
              refine bodyPost_ret (v := .agg #[.int .i64 120, .int .u32 0, .int .i64 0, .int .i64 0, .int .u32 0, .int .u32 0]) (by simp [results, Tryz.results51, go_sem, z0, z1, z2, z3, z4, z5]) rfl ?_
              exact post_same H.out (by rw [HE.out]; rfl) (by rw [HE.out]) (bel6 hg (HBr.out _ HB7.out))
          · have h1 := str_ne ht
            have HNn : Hid (∀ (j : Nat) y, j < k + 1 → p.B[j]? = some y → y.1.token ≠ tk) := Lib.hid (fun j y hj hy => by
              by_cases e : j = k
              · subst e
                rw [Hq.out] at hy
                injection hy with hy
                subst hy
                exact ht
              · exact HN.out j y (by omega) hy)
            clear ht
            go_wp2_with fail
            go_roundw
            case rel => exact ⟨k + 1, Hlt.out, by have h1 := Hlt.out; have h2 := HBl.out; rw [IntWalk.wrap64_in _ ⟨by omega, by omega⟩]; rfl, HNn, HB5⟩
            case measure => have h1 := Hlt.out; have h2 := HBl.out; rw [IntWalk.wrap64_in _ ⟨by omega, by omega⟩]; simp [intOf]; omega
        · obtain rfl : k = p.B.length := by omega
          have HNo : Hid (∀ x ∈ C.book, x.token ≠ tk) := Lib.hid (fun x hx => by
            rw [← H.out.told] at hx
            obtain ⟨y, hy, rfl⟩ := List.mem_map.1 hx
            obtain ⟨j, hj⟩ := List.getElem?_of_mem hy
            exact HN.out j y (List.getElem?_eq_some_iff.1 hj).1 hj)
          have c4 := HC4.out wr HB.out
          by_cases hfl : 1024 ≤ C.book.length
          · have HE := Lib.hid (begin_full (m := ⟨kd, dd, ⟨aw, at1, am⟩, ys, tk, nn, id, ws⟩) HTB.out HNo.out hfl)
            have e1 : decide ((1024 : Int) ≤ (p.B.length : Int)) = true := by have := HBl.out; simp; omega
            clear hi hfl
            go_upto_region 12 with fail
            clear c4 e1
            have y0 : wr.cell? ⟨g + 1, 0, none⟩ = some (.int .i64 0) := (HY.out.next HB.out).cell 0
            have f0 : wr.frozen? ⟨g + 1, 0, none⟩ = false := (HY.out.next HB.out).free 0
            have y1 : wr.cell? ⟨g + 1, 1, none⟩ = some (.int .u32 0) := (HY.out.next HB.out).cell 1
            have f1 : wr.frozen? ⟨g + 1, 1, none⟩ = false := (HY.out.next HB.out).free 1
            have y2 : wr.cell? ⟨g + 1, 2, none⟩ = some (.int .i64 0) := (HY.out.next HB.out).cell 2
            have f2 : wr.frozen? ⟨g + 1, 2, none⟩ = false := (HY.out.next HB.out).free 2
            have y3 : wr.cell? ⟨g + 1, 3, none⟩ = some (.int .i64 0) := (HY.out.next HB.out).cell 3
            have f3 : wr.frozen? ⟨g + 1, 3, none⟩ = false := (HY.out.next HB.out).free 3
            have y4 : wr.cell? ⟨g + 1, 4, none⟩ = some (.int .u32 0) := (HY.out.next HB.out).cell 4
            have f4 : wr.frozen? ⟨g + 1, 4, none⟩ = false := (HY.out.next HB.out).free 4
            have y5 : wr.cell? ⟨g + 1, 5, none⟩ = some (.int .u32 0) := (HY.out.next HB.out).cell 5
            have f5 : wr.frozen? ⟨g + 1, 5, none⟩ = false := (HY.out.next HB.out).free 5
            go_wp2_with fail
            have hY := set6 (HY.out.next HB.out) (.int .i64 4) (.int .u32 0) (.int .i64 0) (.int .i64 0) (.int .u32 0) (.int .u32 0)
            have z0 : ((((((wr.setCell ⟨g + 1, 0, none⟩ (.int .i64 4)).setCell ⟨g + 1, 1, none⟩ (.int .u32 0)).setCell ⟨g + 1, 2, none⟩ (.int .i64 0)).setCell ⟨g + 1, 3, none⟩ (.int .i64 0)).setCell ⟨g + 1, 4, none⟩ (.int .u32 0)).setCell ⟨g + 1, 5, none⟩ (.int .u32 0)).cell? ⟨g + 1, 0, none⟩ = some (.int .i64 4) := hY.cell 0
            have z1 : ((((((wr.setCell ⟨g + 1, 0, none⟩ (.int .i64 4)).setCell ⟨g + 1, 1, none⟩ (.int .u32 0)).setCell ⟨g + 1, 2, none⟩ (.int .i64 0)).setCell ⟨g + 1, 3, none⟩ (.int .i64 0)).setCell ⟨g + 1, 4, none⟩ (.int .u32 0)).setCell ⟨g + 1, 5, none⟩ (.int .u32 0)).cell? ⟨g + 1, 1, none⟩ = some (.int .u32 0) := hY.cell 1
            have z2 : ((((((wr.setCell ⟨g + 1, 0, none⟩ (.int .i64 4)).setCell ⟨g + 1, 1, none⟩ (.int .u32 0)).setCell ⟨g + 1, 2, none⟩ (.int .i64 0)).setCell ⟨g + 1, 3, none⟩ (.int .i64 0)).setCell ⟨g + 1, 4, none⟩ (.int .u32 0)).setCell ⟨g + 1, 5, none⟩ (.int .u32 0)).cell? ⟨g + 1, 2, none⟩ = some (.int .i64 0) := hY.cell 2
            have z3 : ((((((wr.setCell ⟨g + 1, 0, none⟩ (.int .i64 4)).setCell ⟨g + 1, 1, none⟩ (.int .u32 0)).setCell ⟨g + 1, 2, none⟩ (.int .i64 0)).setCell ⟨g + 1, 3, none⟩ (.int .i64 0)).setCell ⟨g + 1, 4, none⟩ (.int .u32 0)).setCell ⟨g + 1, 5, none⟩ (.int .u32 0)).cell? ⟨g + 1, 3, none⟩ = some (.int .i64 0) := hY.cell 3
            have z4 : ((((((wr.setCell ⟨g + 1, 0, none⟩ (.int .i64 4)).setCell ⟨g + 1, 1, none⟩ (.int .u32 0)).setCell ⟨g + 1, 2, none⟩ (.int .i64 0)).setCell ⟨g + 1, 3, none⟩ (.int .i64 0)).setCell ⟨g + 1, 4, none⟩ (.int .u32 0)).setCell ⟨g + 1, 5, none⟩ (.int .u32 0)).cell? ⟨g + 1, 4, none⟩ = some (.int .u32 0) := hY.cell 4
            have z5 : ((((((wr.setCell ⟨g + 1, 0, none⟩ (.int .i64 4)).setCell ⟨g + 1, 1, none⟩ (.int .u32 0)).setCell ⟨g + 1, 2, none⟩ (.int .i64 0)).setCell ⟨g + 1, 3, none⟩ (.int .i64 0)).setCell ⟨g + 1, 4, none⟩ (.int .u32 0)).setCell ⟨g + 1, 5, none⟩ (.int .u32 0)).cell? ⟨g + 1, 5, none⟩ = some (.int .u32 0) := hY.cell 5
            refine bodyPost_ret (v := .agg #[.int .i64 4, .int .u32 0, .int .i64 0, .int .i64 0, .int .u32 0, .int .u32 0]) (by simp [results, Tryz.results51, go_sem, z0, z1, z2, z3, z4, z5]) rfl ?_
            exact post_same H.out (by rw [HE.out]; rfl) (by rw [HE.out]) (bel6 hg (HBr.out _ HB.out))
          have HE := Lib.hid (begin_new (m := ⟨kd, dd, ⟨aw, at1, am⟩, ys, tk, nn, id, ws⟩) HTB.out HNo.out hfl)
          have e1 : decide ((1024 : Int) ≤ (p.B.length : Int)) = false := by have := HBl.out; simp; omega
          have HLn : Hid (p.B.length < 1024) := Lib.hid (by have := HBl.out; omega)
          clear hfl
          go_upto_region 13 with fail
          clear c4 e1
          have HXr := Lib.hid (HX.out.next HB.out)
          have HCr := Lib.hid (H.out.next (HBr.out _ HB.out)).blk
          have hcl : c < wr.heap.size := HCr.out.lt
          have hgl : g < wr.heap.size := HXr.out.lt
          have HTw := Lib.hid (fun W (hW : Below wr.heap.size wr W) => twins_any (.slice va T.length vc) T W (HM.out.rd.below (bel_trans (HBr.out _ HB.out) hW)) HM.out.len HM.out.sets)
          have hn1 : IntKind.i64.wrap ((p.B.length : Int) * 4) = (p.B.length : Int) * 4 := by have := HLn.out; rw [IntKind.wrap_i64]; omega
          have hn2 : IntKind.i64.wrap ((p.B.length : Int) * 4 + C.id) = (p.B.length : Int) * 4 + C.id := by have := HLn.out; have := H.out.inv.ids; rw [IntKind.wrap_i64]; omega
          have hn3 : IntKind.i64.wrap ((p.B.length : Int) * 4 + C.id + 1) = (p.B.length : Int) * 4 + C.id + 1 := by have := HLn.out; have := H.out.inv.ids; rw [IntKind.wrap_i64]; omega
          have hn4 : IntKind.u32.wrap ((p.B.length : Int) * 4 + C.id + 1) = (p.B.length : Int) * 4 + C.id + 1 := by have := HLn.out; have := H.out.inv.ids; rw [IntKind.wrap_u32]; omega
          have HKs : Hid (∀ W, Below wr.heap.size wr W → W.cell? ⟨c, 0, none⟩ = some (.int .i64 C.id) ∧ W.cell? ⟨c, 4, none⟩ = some (.slice ba p.B.length bc) ∧ W.cell? ⟨g, 6, none⟩ = some (.string tk) ∧ W.cell? ⟨g, 9, none⟩ = some (.slice va T.length vc)) := Lib.hid (fun W hW => ⟨(HCr.out.next hW).cell 0, HC4.out _ (bel_trans HB.out hW), (HXr.out.next hW).cell 6, (HXr.out.next hW).cell 9⟩)
          obtain ⟨q0, q1, q2, q3⟩ := HKs.out wr (bel_refl wr)
          have hgl1 : g + 1 < wr.heap.size := (HY.out.next HB.out).lt
          have HFl : Hid (∀ x, (F x ∨ x = g + 1) → x < wr.heap.size) := Lib.hid (fun x hx => by
            rcases hx with hx | rfl
            · exact Nat.lt_of_lt_of_le (H.out.lt x hx) (HBr.out _ HB.out).size
            · exact hgl1)
          go_cut [7] (fun pv wd => ∃ v5 b, pv = .pointer (some ⟨b, 0, none⟩) ∧ Hid (Blk wd b #[.string tk, .int .u32 ((p.B.length : Int) * 4 + C.id + 1), .int .i64 1, .int .i64 0, .int .u32 0, .int .u32 0, v5] 178 ∧ wr.heap.size ≤ b ∧ Below wr.heap.size wr wd ∧ RdB (fun y => F y ∨ y = g + 1) wd v5 ws))
          case first =>
            go_region_held3 (fun W => W.cell? ⟨c, 0, none⟩ = some (.int .i64 C.id) ∧ W.cell? ⟨c, 4, none⟩ = some (.slice ba p.B.length bc) ∧ W.cell? ⟨g, 6, none⟩ = some (.string tk) ∧ W.cell? ⟨g, 9, none⟩ = some (.slice va T.length vc))
              (first | (with_reducible exact ⟨q0, q1, q2, q3⟩) | (with_reducible refine HKs.out _ ?_; (repeat (first | assumption | apply bel_alloc | apply bel_drew | refine bel_set ?_ (Nat.le_refl _))); done) | go_keep)
              (first
                | (go_simp; go_at_call 88; refine (HTw.out _ (by repeat (first | exact bel_refl _ | assumption | apply bel_alloc | apply bel_drew))).mono ?_; rintro e w5 ⟨v5, T5, rfl, hm5, hb5⟩; obtain ⟨a5, c5, hv5, -⟩ := hm5.rd.open; subst hv5; have hx5 : Below wr.heap.size wr w5 := bel_trans (by repeat (first | exact bel_refl _ | assumption | apply bel_alloc | apply bel_drew)) hm5.bel; have hcl5 : c < w5.heap.size := Nat.lt_of_lt_of_le hcl hx5.size; have hgl5 : g < w5.heap.size := Nat.lt_of_lt_of_le hgl hx5.size; have HPl : Hid (T5.map Wr.pl = ws) := Lib.hid ((pl_bares.1 hb5).trans HM.out.pl); have hmf := made_first (F := fun y => F y ∨ y = g + 1) (n := wr.heap.size) (by first | exact new_drew _ _ _ | exact drew_new _ _ _ | exact Blk.new _ _ _) hm5 HFl.out; have s0 : w5.cell? ⟨wr.heap.size, 0, none⟩ = some (.string ⟨#[]⟩) := hmf.1.cell 0; have t0 : w5.frozen? ⟨wr.heap.size, 0, none⟩ = false := hmf.1.free 0; have s1 : w5.cell? ⟨wr.heap.size, 1, none⟩ = some (.int .u32 0) := hmf.1.cell 1; have t1 : w5.frozen? ⟨wr.heap.size, 1, none⟩ = false := hmf.1.free 1; have s2 : w5.cell? ⟨wr.heap.size, 2, none⟩ = some (.int .i64 0) := hmf.1.cell 2; have t2 : w5.frozen? ⟨wr.heap.size, 2, none⟩ = false := hmf.1.free 2; have s3 : w5.cell? ⟨wr.heap.size, 3, none⟩ = some (.int .i64 0) := hmf.1.cell 3; have t3 : w5.frozen? ⟨wr.heap.size, 3, none⟩ = false := hmf.1.free 3; have s4 : w5.cell? ⟨wr.heap.size, 4, none⟩ = some (.int .u32 0) := hmf.1.cell 4; have t4 : w5.frozen? ⟨wr.heap.size, 4, none⟩ = false := hmf.1.free 4; have s5 : w5.cell? ⟨wr.heap.size, 5, none⟩ = some (.int .u32 0) := hmf.1.cell 5; have t5 : w5.frozen? ⟨wr.heap.size, 5, none⟩ = false := hmf.1.free 5; have s6 : w5.cell? ⟨wr.heap.size, 6, none⟩ = some (.slice none 0 0) := hmf.1.cell 6; have t6 : w5.frozen? ⟨wr.heap.size, 6, none⟩ = false := hmf.1.free 6; have HMf := Lib.hid hmf; clear hm5 hb5 hmf)
                | (go_simp; go_at_call 88; refine (HTw.out _ (by repeat (first | exact bel_refl _ | assumption | apply bel_alloc | apply bel_drew))).mono ?_; rintro e w5 ⟨v5, T5, rfl, hm5, hb5⟩; obtain ⟨a5, c5, hv5, -⟩ := hm5.rd.open; subst hv5; have hx5 : Below wr.heap.size wr w5 := bel_trans (by repeat (first | exact bel_refl _ | assumption | apply bel_alloc | apply bel_drew)) hm5.bel; have hcl5 : c < w5.heap.size := Nat.lt_of_lt_of_le hcl hx5.size; have hgl5 : g < w5.heap.size := Nat.lt_of_lt_of_le hgl hx5.size; have HPl : Hid (T5.map Wr.pl = ws) := Lib.hid ((pl_bares.1 hb5).trans HM.out.pl); have HRd := Lib.hid (wrs_rdb (F := fun y => F y ∨ y = g + 1) hm5 (fun x hx => HFl.out x hx)); clear hm5 hb5))
            all_goals go_wp2_with fail
            all_goals go_meet
            · refine ⟨_, _, rfl, Lib.hid ⟨Blk.new _ _ _, hx5.size, bel_alloc hx5, ?_⟩⟩
              have := HRd.out
              rw [HPl.out] at this
              exact this.keep (Turn.of (F := fun y => F y ∨ y = g + 1) (below_alloc w5 _)) (fun _ h => .inl h)
            · refine ⟨_, _, rfl, Lib.hid ⟨set7 HMf.out.1 _ _ _ _ _ _ _, Nat.le_refl _, (bel_set (bel_set (bel_set (bel_set (bel_set (bel_set (bel_set hx5 (Nat.le_refl _)) (Nat.le_refl _)) (Nat.le_refl _)) (Nat.le_refl _)) (Nat.le_refl _)) (Nat.le_refl _)) (Nat.le_refl _)), ?_⟩⟩
              have := HMf.out.2
              rw [HPl.out] at this
              exact this.keep ((((((((Turn.refl (fun x => (F x ∨ x = g + 1) ∨ x = wr.heap.size) w5).set (a := ⟨wr.heap.size, 0, none⟩) (.inr rfl) _).set (a := ⟨wr.heap.size, 1, none⟩) (.inr rfl) _).set (a := ⟨wr.heap.size, 2, none⟩) (.inr rfl) _).set (a := ⟨wr.heap.size, 3, none⟩) (.inr rfl) _).set (a := ⟨wr.heap.size, 4, none⟩) (.inr rfl) _).set (a := ⟨wr.heap.size, 5, none⟩) (.inr rfl) _).set (a := ⟨wr.heap.size, 6, none⟩) (.inr rfl) _) (fun _ h => .inl (.inl h))
          case rest =>
            obtain ⟨v5, b, rfl, HQ⟩ := hcut
            obtain ⟨wd, rfl⟩ : ∃ wd, wd = wc := ⟨_, rfl⟩
            obtain ⟨a5, c5, hv5⟩ := HQ.out.2.2.2.open
            subst hv5
            have HQb := Lib.hid HQ.out.1
            have HQw := Lib.hid HQ.out.2.2.1
            have HQr := Lib.hid HQ.out.2.2.2
            have hbl5 : wr.heap.size ≤ b := HQ.out.2.1
            have HBd : Hid (Below w.heap.size w wd) := Lib.hid (bel_trans (HBr.out _ HB.out) HQw.out)
            have hbc : b ≠ c := by omega
            have hbg : b ≠ g + 1 := by omega
            have hgc : g + 1 ≠ c := by have := H.out.blk.lt; omega
            have hgd : g + 1 < wd.heap.size := by have := HQw.out.size; omega
            have hcd : c < wd.heap.size := by have := HQw.out.size; omega
            have hbd : b < wd.heap.size := HQb.out.lt
            have HPb : Hid ((Value.slice ba p.B.length bc).ownBlock ≠ some b ∧ (Value.slice ba p.B.length bc).ownBlock ≠ some c ∧ (Value.slice ba p.B.length bc).ownBlock ≠ some (g + 1)) := Lib.hid (by
              rw [← HBv.out]
              refine ⟨fun e => ?_, fun e => H.out.cb c e rfl, fun e => ?_⟩
              · have := H.out.lt _ (H.out.Fb _ e); omega
              · have := H.out.lt _ (H.out.Fb _ e); omega)
            have HCd := Lib.hid (H.out.next HBd.out).blk
            have HYd := Lib.hid (HY.out.next (bel_trans HB.out HQw.out))
            have HOd : Hid (Kt.Own 178 7 wd (.slice ba p.B.length bc) p.B.length (flatE p.B)) := Lib.hid (by rw [← HBv.out]; exact (H.out.next HBd.out).book.row)
            have HC4d : Hid (∀ W, Below wd.heap.size wd W → W.cell? ⟨c, 4, none⟩ = some (.slice ba p.B.length bc)) := Lib.hid (fun W hW => HC4.out W (bel_trans (bel_trans HB.out HQw.out) hW))
            have HKd : Hid (∀ W, Below wd.heap.size wd W → W.cell? ⟨c, 4, none⟩ = some (.slice ba p.B.length bc) ∧ W.cell? ⟨b, 0, none⟩ = some (.string tk) ∧ W.cell? ⟨b, 1, none⟩ = some (.int .u32 ((p.B.length : Int) * 4 + C.id + 1)) ∧ W.cell? ⟨b, 2, none⟩ = some (.int .i64 1) ∧ W.cell? ⟨b, 3, none⟩ = some (.int .i64 0) ∧ W.cell? ⟨b, 4, none⟩ = some (.int .u32 0) ∧ W.cell? ⟨b, 5, none⟩ = some (.int .u32 0) ∧ W.cell? ⟨b, 6, none⟩ = some (.slice a5 ws.length c5)) := Lib.hid (fun W hW => ⟨HC4d.out W hW, (HQb.out.next hW).cell 0, (HQb.out.next hW).cell 1, (HQb.out.next hW).cell 2, (HQb.out.next hW).cell 3, (HQb.out.next hW).cell 4, (HQb.out.next hW).cell 5, (HQb.out.next hW).cell 6⟩)
            obtain ⟨k4, b0, b1, b2, b3, b4, b5, b6⟩ := HKd.out wd (bel_refl wd)
            have hxd := bel_refl wd
            have HTl := Lib.hid (fun W => told_any ⟨tk, (p.B.length : Int) * 4 + C.id + 1, 1, ⟨0, 0, 0⟩, ws⟩ a5 ws.length c5 W)
            unfold replyV replyA eval1 En.told at HTl
            simp only at HTl
            have Hi := Lib.hid hi
            have HLo : Hid (p.B.length + 1 ≤ 1024) := Lib.hid (by have := HLn.out; omega)
            clear HQ hi q0 q1 q2 q3 HKs HTw HFl hn1 hn2 hn3 hn4
            go_wp2_with fail
            go_region_law
              (first
                | (refine step_app (by rfl) _ _ 138 (by rfl) ok138 (by rfl) (by rfl) (HOd.out.below' (by repeat (first | exact bel_refl _ | assumption | apply bel_alloc | apply bel_drew))) (own_lit_at (g := _) 178 7 #[.string tk, .int .u32 ((p.B.length : Int) * 4 + C.id + 1), .int .i64 1, .int .i64 0, .int .u32 0, .int .u32 0, .slice a5 ws.length c5] 1 (by simp [maxLen]) rfl (by simp)).rd (en_one _ _ _ _ _ _ _ _ _) (by have := HLo.out; simp only [maxLen]; omega) (by have := HLo.out; omega) ?_; intro v7 w7 ho7 hg7 hn7; obtain ⟨_, a7, c7, rfl, _⟩ := ho7.rd; have hC7 := (HCd.out.next (by repeat (first | exact bel_refl _ | assumption | apply bel_alloc | apply bel_drew))).grown hg7 HPb.out.2.1; have hX7 := (HQb.out.next (by repeat (first | exact bel_refl _ | assumption | apply bel_alloc | apply bel_drew))).grown hg7 HPb.out.1; have hY7 := (HYd.out.next (by repeat (first | exact bel_refl _ | assumption | apply bel_alloc | apply bel_drew))).grown hg7 HPb.out.2.2; have k7 : w7.cell? ⟨c, 4, none⟩ = some p.bv := hC7.cell 4; have f7 : w7.frozen? ⟨c, 4, none⟩ = false := hC7.free 4; have HF := Lib.hid (four (wd := wd) hg7 ho7 hn7 (by repeat (first | exact bel_refl _ | assumption | apply bel_alloc | apply bel_drew))); have HC7 := Lib.hid hC7; have HX7 := Lib.hid hX7; have HY7 := Lib.hid hY7; clear ho7 hg7 hn7 hC7 hX7 hY7 HKd k4 b0 b1 b2 b3 b4 b5 b6)
                | fail)
            all_goals rw [← HBv.out] at HF
            all_goals go_upto_region 15 with fail
            all_goals
              have HX8 : Hid (Blk (w7.setCell ⟨c, 4, none⟩ (.slice a7 (p.B.length + 1) c7)) b #[.string tk, .int .u32 ((p.B.length : Int) * 4 + C.id + 1), .int .i64 1, .int .i64 0, .int .u32 0, .int .u32 0, .slice a5 ws.length c5] 178) := Lib.hid (HX7.out.other hbc _)
              have HY8 : Hid (Blk (w7.setCell ⟨c, 4, none⟩ (.slice a7 (p.B.length + 1) c7)) (g + 1) #[.int .i64 0, .int .u32 0, .int .i64 0, .int .i64 0, .int .u32 0, .int .u32 0] 46) := Lib.hid (HY7.out.other hgc _)
              generalize hw8 : w7.setCell ⟨c, 4, none⟩ (.slice a7 (p.B.length + 1) c7) = w8 at HX8 HY8 ⊢
              have b0 : w8.cell? ⟨b, 0, none⟩ = some (.string tk) := HX8.out.cell 0
              have b1 : w8.cell? ⟨b, 1, none⟩ = some (.int .u32 ((p.B.length : Int) * 4 + C.id + 1)) := HX8.out.cell 1
              have b2 : w8.cell? ⟨b, 2, none⟩ = some (.int .i64 1) := HX8.out.cell 2
              have b3 : w8.cell? ⟨b, 3, none⟩ = some (.int .i64 0) := HX8.out.cell 3
              have b4 : w8.cell? ⟨b, 4, none⟩ = some (.int .u32 0) := HX8.out.cell 4
              have b5 : w8.cell? ⟨b, 5, none⟩ = some (.int .u32 0) := HX8.out.cell 5
              have b6 : w8.cell? ⟨b, 6, none⟩ = some (.slice a5 ws.length c5) := HX8.out.cell 6
              have HYf : Hid (∀ W, Below w8.heap.size w8 W → W.cell? ⟨g + 1, 0, none⟩ = some (.int .i64 0) ∧ W.frozen? ⟨g + 1, 0, none⟩ = false ∧ W.cell? ⟨g + 1, 1, none⟩ = some (.int .u32 0) ∧ W.frozen? ⟨g + 1, 1, none⟩ = false ∧ W.cell? ⟨g + 1, 2, none⟩ = some (.int .i64 0) ∧ W.frozen? ⟨g + 1, 2, none⟩ = false ∧ W.cell? ⟨g + 1, 3, none⟩ = some (.int .i64 0) ∧ W.frozen? ⟨g + 1, 3, none⟩ = false ∧ W.cell? ⟨g + 1, 4, none⟩ = some (.int .u32 0) ∧ W.frozen? ⟨g + 1, 4, none⟩ = false ∧ W.cell? ⟨g + 1, 5, none⟩ = some (.int .u32 0) ∧ W.frozen? ⟨g + 1, 5, none⟩ = false) := Lib.hid (fun W hW => ⟨(HY8.out.next hW).cell 0, (HY8.out.next hW).free 0, (HY8.out.next hW).cell 1, (HY8.out.next hW).free 1, (HY8.out.next hW).cell 2, (HY8.out.next hW).free 2, (HY8.out.next hW).cell 3, (HY8.out.next hW).free 3, (HY8.out.next hW).cell 4, (HY8.out.next hW).free 4, (HY8.out.next hW).cell 5, (HY8.out.next hW).free 5⟩)
              have Hw8 := Lib.hid hw8
              clear hw8 k7 f7
              go_wp2_with (first
                | (go_at_call 128; refine (HTl.out _).mono ?_; rintro e w9 ⟨rfl, hb9⟩; have HB9 := Lib.hid hb9; clear hb9; obtain ⟨y0, f0, y1, f1, y2, f2, y3, f3, y4, f4, y5, f5⟩ := HYf.out w9 HB9.out)
                | fail)
              have HB9w : Hid (Below (w7.setCell ⟨c, 4, none⟩ (.slice a7 (p.B.length + 1) c7)).heap.size (w7.setCell ⟨c, 4, none⟩ (.slice a7 (p.B.length + 1) c7)) w9) := Lib.hid (by rw [Hw8.out]; exact HB9.out)
              have hY := set6 (HY8.out.next HB9.out) (.int .i64 0) (.int .u32 ((p.B.length : Int) * 4 + C.id + 1)) (.int .i64 1) (.int .i64 0) (.int .u32 0) (.int .u32 0)
              have z0 : ((((((w9.setCell ⟨g + 1, 0, none⟩ (.int .i64 0)).setCell ⟨g + 1, 1, none⟩ (.int .u32 ((p.B.length : Int) * 4 + C.id + 1))).setCell ⟨g + 1, 2, none⟩ (.int .i64 1)).setCell ⟨g + 1, 3, none⟩ (.int .i64 0)).setCell ⟨g + 1, 4, none⟩ (.int .u32 0)).setCell ⟨g + 1, 5, none⟩ (.int .u32 0)).cell? ⟨g + 1, 0, none⟩ = some (.int .i64 0) := hY.cell 0
              have z1 : ((((((w9.setCell ⟨g + 1, 0, none⟩ (.int .i64 0)).setCell ⟨g + 1, 1, none⟩ (.int .u32 ((p.B.length : Int) * 4 + C.id + 1))).setCell ⟨g + 1, 2, none⟩ (.int .i64 1)).setCell ⟨g + 1, 3, none⟩ (.int .i64 0)).setCell ⟨g + 1, 4, none⟩ (.int .u32 0)).setCell ⟨g + 1, 5, none⟩ (.int .u32 0)).cell? ⟨g + 1, 1, none⟩ = some (.int .u32 ((p.B.length : Int) * 4 + C.id + 1)) := hY.cell 1
              have z2 : ((((((w9.setCell ⟨g + 1, 0, none⟩ (.int .i64 0)).setCell ⟨g + 1, 1, none⟩ (.int .u32 ((p.B.length : Int) * 4 + C.id + 1))).setCell ⟨g + 1, 2, none⟩ (.int .i64 1)).setCell ⟨g + 1, 3, none⟩ (.int .i64 0)).setCell ⟨g + 1, 4, none⟩ (.int .u32 0)).setCell ⟨g + 1, 5, none⟩ (.int .u32 0)).cell? ⟨g + 1, 2, none⟩ = some (.int .i64 1) := hY.cell 2
              have z3 : ((((((w9.setCell ⟨g + 1, 0, none⟩ (.int .i64 0)).setCell ⟨g + 1, 1, none⟩ (.int .u32 ((p.B.length : Int) * 4 + C.id + 1))).setCell ⟨g + 1, 2, none⟩ (.int .i64 1)).setCell ⟨g + 1, 3, none⟩ (.int .i64 0)).setCell ⟨g + 1, 4, none⟩ (.int .u32 0)).setCell ⟨g + 1, 5, none⟩ (.int .u32 0)).cell? ⟨g + 1, 3, none⟩ = some (.int .i64 0) := hY.cell 3
              have z4 : ((((((w9.setCell ⟨g + 1, 0, none⟩ (.int .i64 0)).setCell ⟨g + 1, 1, none⟩ (.int .u32 ((p.B.length : Int) * 4 + C.id + 1))).setCell ⟨g + 1, 2, none⟩ (.int .i64 1)).setCell ⟨g + 1, 3, none⟩ (.int .i64 0)).setCell ⟨g + 1, 4, none⟩ (.int .u32 0)).setCell ⟨g + 1, 5, none⟩ (.int .u32 0)).cell? ⟨g + 1, 4, none⟩ = some (.int .u32 0) := hY.cell 4
              have z5 : ((((((w9.setCell ⟨g + 1, 0, none⟩ (.int .i64 0)).setCell ⟨g + 1, 1, none⟩ (.int .u32 ((p.B.length : Int) * 4 + C.id + 1))).setCell ⟨g + 1, 2, none⟩ (.int .i64 1)).setCell ⟨g + 1, 3, none⟩ (.int .i64 0)).setCell ⟨g + 1, 4, none⟩ (.int .u32 0)).setCell ⟨g + 1, 5, none⟩ (.int .u32 0)).cell? ⟨g + 1, 5, none⟩ = some (.int .u32 0) := hY.cell 5
              refine bodyPost_ret (v := .agg #[.int .i64 0, .int .u32 ((p.B.length : Int) * 4 + C.id + 1), .int .i64 1, .int .i64 0, .int .u32 0, .int .u32 0]) (by simp [results, Tryz.results51, go_sem, z0, z1, z2, z3, z4, z5]) rfl ?_
              exact book_end (x := ⟨tk, (p.B.length : Int) * 4 + C.id + 1, 1, ⟨0, 0, 0⟩, ws⟩) H.out (Nat.le_of_eq hg) HBd.out HQr.out HF.out.1 hgd HF.out.2.1 HF.out.2.2.1 HF.out.2.2.2 HB9w.out (by rw [HE.out, ← HBl.out.2.2.1]; rfl) (by rw [HE.out, ← HBl.out.2.2.1]; rfl) Hi.out
    · have HE : Hid (beginC C ⟨kd, dd, ⟨aw, at1, am⟩, ys, tk, nn, id, ws⟩ = (bad 1, C)) := Lib.hid (begin_bad (fun h => hba h.2))
      clear hi
      go_upto_region 2 with (first
        | (go_at_call 29; refine (HTo.out _).mono ?_; rintro e w2 ⟨hs2, hw2⟩; obtain ⟨z, rfl, hz⟩ := says_out hs2; obtain rfl : z = true := hz.2 htk; subst hw2; clear hs2 hz)
        | (go_at_call 27; refine (HBa.out _ (HBr.out _ (bel_refl _))).mono ?_; rintro e w3 ⟨hs3, hb3⟩; obtain ⟨z, rfl, hz⟩ := says_out hs3; have hzf : z = false := (by cases z with | false => rfl | true => exact absurd (HBt.out.1 (hz.1 rfl)) hba); subst hzf; have HB3 := Lib.hid hb3; clear hs3 hz hb3)
        | fail)
      clear x6 x9
      have y0 : w3.cell? ⟨g + 1, 0, none⟩ = some (.int .i64 0) := (HY.out.next HB3.out).cell 0
      have f0 : w3.frozen? ⟨g + 1, 0, none⟩ = false := (HY.out.next HB3.out).free 0
      have y1 : w3.cell? ⟨g + 1, 1, none⟩ = some (.int .u32 0) := (HY.out.next HB3.out).cell 1
      have f1 : w3.frozen? ⟨g + 1, 1, none⟩ = false := (HY.out.next HB3.out).free 1
      have y2 : w3.cell? ⟨g + 1, 2, none⟩ = some (.int .i64 0) := (HY.out.next HB3.out).cell 2
      have f2 : w3.frozen? ⟨g + 1, 2, none⟩ = false := (HY.out.next HB3.out).free 2
      have y3 : w3.cell? ⟨g + 1, 3, none⟩ = some (.int .i64 0) := (HY.out.next HB3.out).cell 3
      have f3 : w3.frozen? ⟨g + 1, 3, none⟩ = false := (HY.out.next HB3.out).free 3
      have y4 : w3.cell? ⟨g + 1, 4, none⟩ = some (.int .u32 0) := (HY.out.next HB3.out).cell 4
      have f4 : w3.frozen? ⟨g + 1, 4, none⟩ = false := (HY.out.next HB3.out).free 4
      have y5 : w3.cell? ⟨g + 1, 5, none⟩ = some (.int .u32 0) := (HY.out.next HB3.out).cell 5
      have f5 : w3.frozen? ⟨g + 1, 5, none⟩ = false := (HY.out.next HB3.out).free 5
      go_wp2_with fail
      have hY := set6 (HY.out.next HB3.out) (.int .i64 1) (.int .u32 0) (.int .i64 0) (.int .i64 0) (.int .u32 0) (.int .u32 0)
      have z0 : ((((((w3.setCell ⟨g + 1, 0, none⟩ (.int .i64 1)).setCell ⟨g + 1, 1, none⟩ (.int .u32 0)).setCell ⟨g + 1, 2, none⟩ (.int .i64 0)).setCell ⟨g + 1, 3, none⟩ (.int .i64 0)).setCell ⟨g + 1, 4, none⟩ (.int .u32 0)).setCell ⟨g + 1, 5, none⟩ (.int .u32 0)).cell? ⟨g + 1, 0, none⟩ = some (.int .i64 1) := hY.cell 0
      have z1 : ((((((w3.setCell ⟨g + 1, 0, none⟩ (.int .i64 1)).setCell ⟨g + 1, 1, none⟩ (.int .u32 0)).setCell ⟨g + 1, 2, none⟩ (.int .i64 0)).setCell ⟨g + 1, 3, none⟩ (.int .i64 0)).setCell ⟨g + 1, 4, none⟩ (.int .u32 0)).setCell ⟨g + 1, 5, none⟩ (.int .u32 0)).cell? ⟨g + 1, 1, none⟩ = some (.int .u32 0) := hY.cell 1
      have z2 : ((((((w3.setCell ⟨g + 1, 0, none⟩ (.int .i64 1)).setCell ⟨g + 1, 1, none⟩ (.int .u32 0)).setCell ⟨g + 1, 2, none⟩ (.int .i64 0)).setCell ⟨g + 1, 3, none⟩ (.int .i64 0)).setCell ⟨g + 1, 4, none⟩ (.int .u32 0)).setCell ⟨g + 1, 5, none⟩ (.int .u32 0)).cell? ⟨g + 1, 2, none⟩ = some (.int .i64 0) := hY.cell 2
      have z3 : ((((((w3.setCell ⟨g + 1, 0, none⟩ (.int .i64 1)).setCell ⟨g + 1, 1, none⟩ (.int .u32 0)).setCell ⟨g + 1, 2, none⟩ (.int .i64 0)).setCell ⟨g + 1, 3, none⟩ (.int .i64 0)).setCell ⟨g + 1, 4, none⟩ (.int .u32 0)).setCell ⟨g + 1, 5, none⟩ (.int .u32 0)).cell? ⟨g + 1, 3, none⟩ = some (.int .i64 0) := hY.cell 3
      have z4 : ((((((w3.setCell ⟨g + 1, 0, none⟩ (.int .i64 1)).setCell ⟨g + 1, 1, none⟩ (.int .u32 0)).setCell ⟨g + 1, 2, none⟩ (.int .i64 0)).setCell ⟨g + 1, 3, none⟩ (.int .i64 0)).setCell ⟨g + 1, 4, none⟩ (.int .u32 0)).setCell ⟨g + 1, 5, none⟩ (.int .u32 0)).cell? ⟨g + 1, 4, none⟩ = some (.int .u32 0) := hY.cell 4
      have z5 : ((((((w3.setCell ⟨g + 1, 0, none⟩ (.int .i64 1)).setCell ⟨g + 1, 1, none⟩ (.int .u32 0)).setCell ⟨g + 1, 2, none⟩ (.int .i64 0)).setCell ⟨g + 1, 3, none⟩ (.int .i64 0)).setCell ⟨g + 1, 4, none⟩ (.int .u32 0)).setCell ⟨g + 1, 5, none⟩ (.int .u32 0)).cell? ⟨g + 1, 5, none⟩ = some (.int .u32 0) := hY.cell 5
      refine bodyPost_ret (v := .agg #[.int .i64 1, .int .u32 0, .int .i64 0, .int .i64 0, .int .u32 0, .int .u32 0]) (by simp [results, Tryz.results51, go_sem, z0, z1, z2, z3, z4, z5]) rfl ?_
      exact post_same H.out (by rw [HE.out]; rfl) (by rw [HE.out]) (bel6 hg (HBr.out _ HB3.out))
  · have HE : Hid (beginC C ⟨kd, dd, ⟨aw, at1, am⟩, ys, tk, nn, id, ws⟩ = (bad 1, C)) := Lib.hid (begin_bad (fun h => htk h.1))
    clear hi
    go_upto_region 2 with (first
      | (go_at_call 29; refine (HTo.out _).mono ?_; rintro e w2 ⟨hs2, hw2⟩; obtain ⟨z, rfl, hz⟩ := says_out hs2; have hzf : z = false := (by cases z with | false => rfl | true => exact absurd (hz.1 rfl) htk); subst hzf; subst hw2; clear hs2 hz)
      | fail)
    clear x6 x9
    have y0 : w1.cell? ⟨g + 1, 0, none⟩ = some (.int .i64 0) := (HY.out.next (bel_refl w1)).cell 0
    have f0 : w1.frozen? ⟨g + 1, 0, none⟩ = false := (HY.out.next (bel_refl w1)).free 0
    have y1 : w1.cell? ⟨g + 1, 1, none⟩ = some (.int .u32 0) := (HY.out.next (bel_refl w1)).cell 1
    have f1 : w1.frozen? ⟨g + 1, 1, none⟩ = false := (HY.out.next (bel_refl w1)).free 1
    have y2 : w1.cell? ⟨g + 1, 2, none⟩ = some (.int .i64 0) := (HY.out.next (bel_refl w1)).cell 2
    have f2 : w1.frozen? ⟨g + 1, 2, none⟩ = false := (HY.out.next (bel_refl w1)).free 2
    have y3 : w1.cell? ⟨g + 1, 3, none⟩ = some (.int .i64 0) := (HY.out.next (bel_refl w1)).cell 3
    have f3 : w1.frozen? ⟨g + 1, 3, none⟩ = false := (HY.out.next (bel_refl w1)).free 3
    have y4 : w1.cell? ⟨g + 1, 4, none⟩ = some (.int .u32 0) := (HY.out.next (bel_refl w1)).cell 4
    have f4 : w1.frozen? ⟨g + 1, 4, none⟩ = false := (HY.out.next (bel_refl w1)).free 4
    have y5 : w1.cell? ⟨g + 1, 5, none⟩ = some (.int .u32 0) := (HY.out.next (bel_refl w1)).cell 5
    have f5 : w1.frozen? ⟨g + 1, 5, none⟩ = false := (HY.out.next (bel_refl w1)).free 5
    go_wp2_with fail
    have hY := set6 (HY.out.next (bel_refl w1)) (.int .i64 1) (.int .u32 0) (.int .i64 0) (.int .i64 0) (.int .u32 0) (.int .u32 0)
    have z0 : ((((((w1.setCell ⟨g + 1, 0, none⟩ (.int .i64 1)).setCell ⟨g + 1, 1, none⟩ (.int .u32 0)).setCell ⟨g + 1, 2, none⟩ (.int .i64 0)).setCell ⟨g + 1, 3, none⟩ (.int .i64 0)).setCell ⟨g + 1, 4, none⟩ (.int .u32 0)).setCell ⟨g + 1, 5, none⟩ (.int .u32 0)).cell? ⟨g + 1, 0, none⟩ = some (.int .i64 1) := hY.cell 0
    have z1 : ((((((w1.setCell ⟨g + 1, 0, none⟩ (.int .i64 1)).setCell ⟨g + 1, 1, none⟩ (.int .u32 0)).setCell ⟨g + 1, 2, none⟩ (.int .i64 0)).setCell ⟨g + 1, 3, none⟩ (.int .i64 0)).setCell ⟨g + 1, 4, none⟩ (.int .u32 0)).setCell ⟨g + 1, 5, none⟩ (.int .u32 0)).cell? ⟨g + 1, 1, none⟩ = some (.int .u32 0) := hY.cell 1
    have z2 : ((((((w1.setCell ⟨g + 1, 0, none⟩ (.int .i64 1)).setCell ⟨g + 1, 1, none⟩ (.int .u32 0)).setCell ⟨g + 1, 2, none⟩ (.int .i64 0)).setCell ⟨g + 1, 3, none⟩ (.int .i64 0)).setCell ⟨g + 1, 4, none⟩ (.int .u32 0)).setCell ⟨g + 1, 5, none⟩ (.int .u32 0)).cell? ⟨g + 1, 2, none⟩ = some (.int .i64 0) := hY.cell 2
    have z3 : ((((((w1.setCell ⟨g + 1, 0, none⟩ (.int .i64 1)).setCell ⟨g + 1, 1, none⟩ (.int .u32 0)).setCell ⟨g + 1, 2, none⟩ (.int .i64 0)).setCell ⟨g + 1, 3, none⟩ (.int .i64 0)).setCell ⟨g + 1, 4, none⟩ (.int .u32 0)).setCell ⟨g + 1, 5, none⟩ (.int .u32 0)).cell? ⟨g + 1, 3, none⟩ = some (.int .i64 0) := hY.cell 3
    have z4 : ((((((w1.setCell ⟨g + 1, 0, none⟩ (.int .i64 1)).setCell ⟨g + 1, 1, none⟩ (.int .u32 0)).setCell ⟨g + 1, 2, none⟩ (.int .i64 0)).setCell ⟨g + 1, 3, none⟩ (.int .i64 0)).setCell ⟨g + 1, 4, none⟩ (.int .u32 0)).setCell ⟨g + 1, 5, none⟩ (.int .u32 0)).cell? ⟨g + 1, 4, none⟩ = some (.int .u32 0) := hY.cell 4
    have z5 : ((((((w1.setCell ⟨g + 1, 0, none⟩ (.int .i64 1)).setCell ⟨g + 1, 1, none⟩ (.int .u32 0)).setCell ⟨g + 1, 2, none⟩ (.int .i64 0)).setCell ⟨g + 1, 3, none⟩ (.int .i64 0)).setCell ⟨g + 1, 4, none⟩ (.int .u32 0)).setCell ⟨g + 1, 5, none⟩ (.int .u32 0)).cell? ⟨g + 1, 5, none⟩ = some (.int .u32 0) := hY.cell 5
    refine bodyPost_ret (v := .agg #[.int .i64 1, .int .u32 0, .int .i64 0, .int .i64 0, .int .u32 0, .int .u32 0]) (by simp [results, Tryz.results51, go_sem, z0, z1, z2, z3, z4, z5]) rfl ?_
    exact post_same H.out (by rw [HE.out]; rfl) (by rw [HE.out]) (bel6 hg (HBr.out _ (bel_refl w1)))
end Go.Proofs.YtbaflgddpciadaaGreat
