/- A cell with all that it holds, apart from the rest; Do (17). -/
import Derived.Test.YtbaflgddpciadaaGreatEE
import Derived.Test.YtbaflgddpciadaaGreatEC
import Derived.Test.YtbaflgddpciadaaGreatEG
set_option linter.unusedVariables false
set_option linter.unusedSimpArgs false
namespace Go.Proofs.YtbaflgddpciadaaGreat
open Go.RowKit Go.Kt Go.Ix Go.Sx Go.Cx
set_option maxRecDepth 100000
variable {F : Nat → Prop} {w w' : World} {c N : Nat} {C : Cl} {p : Cp}
theorem Turn.low {G : Nat → Prop} (h : Turn G w w') : Turn (fun x => G x ∧ x < w.heap.size) w w' := ⟨h.os, h.tape, h.output, h.size, fun k hk hn => h.block k hk (fun e => hn ⟨e, hk⟩)⟩
/-- what the cell does not turn was turned -/
theorem CeAt.keep {G F2 : Nat → Prop} (h : CeAt F w c C N p) (ht0 : Turn G w w') (hGc : ∀ x, G x → ¬ core c p x) (hGF : ∀ x, G x → x < w.heap.size → F x) (h2 : ∀ x, F2 x → F x ∨ w.heap.size ≤ x) (h2' : ∀ x, F x → F2 x) (hlt : ∀ x, F2 x → x < w'.heap.size) : CeAt F2 w' c C N p := by
  have ht := ht0.low
  exact ⟨blk_keep ht h.blk (fun e => hGc c e.1 (.inl rfl)), h.st.keep ht (fun x hx e => hGc x e.1 (.inr (.inr (.inr (.inr hx))))), fun x hx => h2' x (h.sub x hx), h2' _ h.Fc, h2' _ h.Fd, h2' _ h.Fp, fun b hb => h2' b (h.Fb b hb), h.nc, h.nd, h.np, h.nb, h.dp,
    h.deeds.keep ht (fun e => hGc _ e.1 (.inr (.inl rfl))) (fun x hx => hGF x hx.1 hx.2) h2, h.pins.keep ht (fun e => hGc _ e.1 (.inr (.inr (.inl rfl)))), h.book.keep ht (fun b hb e => hGc _ e.1 (.inr (.inr (.inr (.inl hb))))) (fun x hx => hGF x hx.1 hx.2) h2, h.told, h.inv, hlt⟩
/-- a cell, and S: all that it holds -/
structure Cel (S : Nat → Prop) (w : World) (c : Nat) (C : Cl) (N : Nat) : Prop where
  at_ : ∃ p F, CeAt F w c C N p ∧ (∀ x, core c p x → S x) ∧ (∀ x, x < w.heap.size → ¬ S x → F x)
  lt : ∀ x, S x → x < w.heap.size
variable {S : Nat → Prop}
theorem Cel.inv (h : Cel S w c C N) : CInv C := by obtain ⟨p, F, h1, -⟩ := h.at_; exact h1.inv
theorem Cel.keep {G : Nat → Prop} (h : Cel S w c C N) (ht : Turn G w w') (hG : ∀ x, G x → ¬ S x) : Cel S w' c C N := by
  obtain ⟨p, F, h1, h2, h3⟩ := h.at_
  refine ⟨⟨p, fun x => x < w'.heap.size ∧ (F x ∨ w.heap.size ≤ x), h1.keep ht (fun x hx hc => hG x hx (h2 x hc)) (fun x hx hl => h3 x hl (hG x hx)) (fun x hx => hx.2) (fun x hx => ⟨Nat.lt_of_lt_of_le (h1.lt x hx) ht.size, .inl hx⟩) (fun x hx => hx.1), h2, fun x hx hs => ⟨hx, ?_⟩⟩, fun x hx => Nat.lt_of_lt_of_le (h.lt x hx) ht.size⟩
  by_cases hl : x < w.heap.size
  · exact .inl (h3 x hl hs)
  · exact .inr (by omega)
theorem Cel.next (h : Cel S w c C N) (hb : Below w.heap.size w w') : Cel S w' c C N := h.keep (Turn.of (F := fun _ => False) hb) (fun _ h => h.elim)
theorem Cel.more {N' : Nat} (h : Cel S w c C N) (hn : N ≤ N') : Cel S w c C N' := by
  obtain ⟨p, F, h1, h2, h3⟩ := h.at_
  exact ⟨⟨p, F, h1.more hn, h2, h3⟩, h.lt⟩
/-- a new cell -/
theorem new_cel (id : Int) (h : 0 ≤ id ∧ id < 4) (w : World) : Calls Tryz.prog 14 #[.int .i64 id] w fun e w' => ∃ c S, e = .returned (.tuple #[.pointer (some ⟨c, 0, none⟩), .int .i64 0]) ∧ Cel S w' c (newC id) 0 ∧ (∀ x, S x → w.heap.size ≤ x) ∧ Below w.heap.size w w' := by
  refine (newc_any id h w).mono ?_
  rintro e w' ⟨c, F, rfl, ⟨p, hp⟩, hF, hb⟩
  refine ⟨c, F, rfl, ⟨⟨p, fun x => x < w'.heap.size, ?_, fun x hx => ?_, fun x hx _ => hx⟩, hp.lt⟩, hF, hb⟩
  · have hnB : p.B = [] := by have := hp.told; simpa [newC] using this
    exact ⟨hp.blk, hp.st, fun x hx => hp.lt x (hp.sub x hx), hp.lt _ hp.Fc, hp.lt _ hp.Fd, hp.lt _ hp.Fp, fun b hb => hp.lt _ (hp.Fb b hb), hp.nc, hp.nd, hp.np, hp.nb, hp.dp, ⟨hp.deeds.map, fun k v hv => absurd (hp.deeds.all k v hv) (by rintro ⟨d, hd, -⟩; cases hd), hp.deeds.has⟩, hp.pins, ⟨hp.book.row, fun q hq => by rw [hnB] at hq; cases hq⟩, hp.told, hp.inv, fun x hx => hx⟩
  · rcases hx with rfl | rfl | rfl | hx | hx
    · exact hp.Fc
    · exact hp.Fd
    · exact hp.Fp
    · exact hp.Fb x hx
    · exact hp.sub x hx
/-- the reply laid into a block of the call's own: the cell then -/
theorem do_end {w1 w2 : World} {N' g : Nat} {z : Rep × Cl} {e' : Ending} {d0 d1 d2 d3 d4 d5 : Value} (hS : ∀ x, S x → x < w.heap.size) (hb : Below w.heap.size w w1) (h1 : CeAt F w1 c C N p) (hc : ∀ x, core c p x → S x) (hF : ∀ x, x < w1.heap.size → ¬ S x → F x) (hg : w.heap.size ≤ g + 1) (hg1 : g + 1 < w1.heap.size)
    (hd : DoPost F w1 c p z N' e' w2) :
    ∃ S', Cel S' ((((((w2.setCell ⟨g + 1, 0, none⟩ d0).setCell ⟨g + 1, 1, none⟩ d1).setCell ⟨g + 1, 2, none⟩ d2).setCell ⟨g + 1, 3, none⟩ d3).setCell ⟨g + 1, 4, none⟩ d4).setCell ⟨g + 1, 5, none⟩ d5) c z.2 N' ∧ (∀ x, S' x → S x ∨ w.heap.size ≤ x) ∧
      Turn S w ((((((w2.setCell ⟨g + 1, 0, none⟩ d0).setCell ⟨g + 1, 1, none⟩ d1).setCell ⟨g + 1, 2, none⟩ d2).setCell ⟨g + 1, 3, none⟩ d3).setCell ⟨g + 1, 4, none⟩ d4).setCell ⟨g + 1, 5, none⟩ d5) := by
  obtain ⟨-, F', p', hp', hFF, hF', hcc, ht⟩ := hd
  have ho := own6 w2 g (d0 := d0) (d1 := d1) (d2 := d2) (d3 := d3) (d4 := d4) (d5 := d5)
  have hgS : ¬ S (g + 1) := fun e => by have := hS _ e; omega
  have hk : CeAt F' ((((((w2.setCell ⟨g + 1, 0, none⟩ d0).setCell ⟨g + 1, 1, none⟩ d1).setCell ⟨g + 1, 2, none⟩ d2).setCell ⟨g + 1, 3, none⟩ d3).setCell ⟨g + 1, 4, none⟩ d4).setCell ⟨g + 1, 5, none⟩ d5) c z.2 N' p' :=
    hp'.keep ho (fun x hx h2 => by
      subst hx
      rcases hcc _ h2 with h3 | h3
      · exact hgS (hc _ h3)
      · omega) (fun x hx _ => by subst hx; exact hFF _ (hF _ hg1 hgS)) (fun x hx => .inl hx) (fun x hx => hx) (fun x hx => Nat.lt_of_lt_of_le (hp'.lt x hx) ho.size)
  have h1s := hb.size
  refine ⟨fun x => (S x ∨ w.heap.size ≤ x) ∧ x < ((((((w2.setCell ⟨g + 1, 0, none⟩ d0).setCell ⟨g + 1, 1, none⟩ d1).setCell ⟨g + 1, 2, none⟩ d2).setCell ⟨g + 1, 3, none⟩ d3).setCell ⟨g + 1, 4, none⟩ d4).setCell ⟨g + 1, 5, none⟩ d5).heap.size, ⟨⟨p', F', hk, fun x hx => ⟨?_, ?_⟩, fun x hx hs => ?_⟩, fun x hx => hx.2⟩, fun x hx => hx.1, ?_⟩
  · rcases hcc x hx with h3 | h3
    · exact .inl (hc x h3)
    · exact .inr (by omega)
  · have : F' x := by
      rcases hx with rfl | rfl | rfl | hx | hx
      · exact hp'.Fc
      · exact hp'.Fd
      · exact hp'.Fp
      · exact hp'.Fb x hx
      · exact hp'.sub x hx
    exact Nat.lt_of_lt_of_le (hp'.lt x this) ho.size
  · have h4 : ¬ (S x ∨ w.heap.size ≤ x) := fun e => hs ⟨e, hx⟩
    exact hFF x (hF x (by omega) (fun e => h4 (.inl e)))
  · exact ((Turn.of hb).trans ht (fun x hx => .inl (hc x hx))).trans ho (fun x hx => .inr (by omega))
theorem ids_len : ∀ (n : Nat) (P : List Int), P.Pairwise (fun a b => a ≠ b) → (∀ x ∈ P, 0 ≤ x ∧ x < n) → P.length ≤ n
  | 0, P, _, h => by
    cases P with
    | nil => exact Nat.le_refl _
    | cons x P => have := h x (List.mem_cons_self ..); omega
  | n + 1, P, hp, h => by
    have h1 := ids_len n (P.filter fun x => decide (x ≠ (n : Int))) (List.Pairwise.sublist List.filter_sublist hp) (fun x hx => by
      obtain ⟨h2, h3⟩ := List.mem_filter.1 hx
      have h3 : x ≠ (n : Int) := by simpa using h3
      have := h x h2
      omega)
    have key : ∀ P : List Int, P.Pairwise (fun a b => a ≠ b) → P.length ≤ (P.filter fun x => decide (x ≠ (n : Int))).length + 1 := by
      intro P
      induction P with
      | nil => intro _; exact Nat.zero_le _
      | cons x P ih =>
        intro hp
        obtain ⟨p1, p2⟩ := List.pairwise_cons.1 hp
        by_cases e : x = (n : Int)
        · have : (P.filter fun x => decide (x ≠ (n : Int))) = P := List.filter_eq_self.2 (fun y hy => by have := p1 y hy; simp; omega)
          rw [List.filter_cons, if_neg (by simp [e]), this]
          exact Nat.le_refl _
        · rw [List.filter_cons, if_pos (by simpa using e), List.length_cons, List.length_cons]
          have := ih p2
          omega
    have := key P hp
    omega
theorem pins_len (h : CInv C) : C.pins.length ≤ 16 := by
  have := ids_len 16 (C.pins.map Pi.id) (List.pairwise_map.2 h.pins) (fun x hx => by
    obtain ⟨q, hq, rfl⟩ := List.mem_map.1 hx
    exact (h.pin q hq).1)
  simpa using this
/-- the clock of ticks and the pins were turned -/
theorem post_tick {fp' : Lit → Option Value} {z : Rep × Cl} {e : Ending} (h : CeAt F w c C N p) (he : e = .returned (replyV z.1)) (ht : Turn (fun x => x = c ∨ x = p.pm) w w') (hb : Blk w' c (ccells z.2 p) 140) (hP : PinsAt w' p.pm z.2.pins fp') (hM : z.2.M = C.M) (hD : z.2.deeds = C.deeds) (hB : z.2.book = C.book) (hi : CInv z.2) : DoPost F w c p z N e w' := by
  have hsub : ∀ x, (x = c ∨ x = p.pm) → F x := fun x hx => by
    rcases hx with rfl | rfl
    · exact h.Fc
    · exact h.Fp
  refine ⟨he, F, { p with fp := fp' }, ⟨hb, ?_, h.sub, h.Fc, h.Fd, h.Fp, h.Fb, h.nc, h.nd, h.np, h.nb, h.dp, ?_, hP, ?_, by rw [hB]; exact h.told, hi, fun x hx => Nat.lt_of_lt_of_le (h.lt x hx) ht.size⟩, fun x hx => hx, fun x hx => .inl hx, fun x hx => .inl hx, ht.mono (fun x hx => hx.elim .inl (fun h => .inr (.inr (.inl h))))⟩
  · rw [hM]; exact h.st.keep ht (fun x hx e => by
      rcases e with rfl | rfl
      · exact h.nc hx
      · exact h.np hx)
  · rw [hD]; exact h.deeds.keep ht (fun e => by
      rcases e with e | e
      · exact h.cd e.symm
      · exact h.dp e) hsub (fun _ h => .inl h)
  · exact h.book.keep ht (fun b hb e => by
      rcases e with e | e
      · exact h.cb b hb e
      · exact h.bp b hb e) hsub (fun _ h => .inl h)
theorem ret_from {G : Nat → Prop} {s N : Nat} {L : List It} (t : Int) (w : World) (h : St G w s L N) (hN : N ≤ 1000000) (W : World) (hW : Below w.heap.size w W) :
    Calls Tryz.prog 57 #[.pointer (some ⟨s, 0, none⟩), .int .i64 t] W fun e w' => e = .returned (.tuple #[]) ∧ ∃ F', St F' w' s (retL L t) N ∧ (∀ x, F' x → G x ∨ w.heap.size ≤ x) ∧ Turn G w w' :=
  (ret_any t W (h.next hW) hN).mono fun e w' ⟨e1, F', h1, h2, h3⟩ => ⟨e1, F', h1, fun x hx => (h2 x hx).imp id (Nat.le_trans hW.size), (Turn.of (F := G) hW).trans h3 (fun x hx => .inl hx)⟩
set_option maxHeartbeats 16000000 in
/-- a command done -/
theorem do_any (m : Cmd) (v : Value) (T : List Wr) (w : World) (h : Cel S w c C N) (hm : CmdR w m v T) (hN : N + 64 ≤ 1000000) (hT : C.ticks ≤ 999999) (hid : -9223372036854775808 ≤ m.id ∧ m.id ≤ 9223372036854775807) :
    Calls Tryz.prog 17 #[.pointer (some ⟨c, 0, none⟩), cmdV m v] w fun e w' => e = .returned (replyV (doC C m).1) ∧ ∃ S', Cel S' w' c (doC C m).2 (N + 64) ∧ (∀ x, S' x → S x ∨ w.heap.size ≤ x) ∧ Turn S w w' := by
  obtain ⟨kd, dd, ⟨aw, at1, am⟩, ys, tk, nn, id, ws⟩ := m
  obtain ⟨va, vc, hve, -⟩ := hm.rd.open
  subst hve
  have H := Lib.hid h
  have HN := Lib.hid hN
  have HT := Lib.hid hT
  have HId := Lib.hid hid
  have HI : Hid (CInv (doC C ⟨kd, dd, ⟨aw, at1, am⟩, ys, tk, nn, id, ws⟩).2) := Lib.hid (do_inv h.inv _ hm.ok)
  have HP := Lib.hid (((Blk.new w #[.pointer (some ⟨c, 0, none⟩)] 27).next (below_alloc _ (.cells #[.int .i64 kd, .int .u32 dd, .int .i64 aw, .int .u32 at1, .int .u32 am, .bool ys, .string tk, .int .i64 nn, .int .i64 id, .slice va T.length vc] 50))).next (below_alloc _ (.cells #[.int .i64 0, .int .u32 0, .int .i64 0, .int .i64 0, .int .u32 0, .int .u32 0] 46)))
  have HX := Lib.hid ((Blk.new (w.alloc (.cells #[.pointer (some ⟨c, 0, none⟩)] 27)) #[.int .i64 kd, .int .u32 dd, .int .i64 aw, .int .u32 at1, .int .u32 am, .bool ys, .string tk, .int .i64 nn, .int .i64 id, .slice va T.length vc] 50).next (below_alloc _ (.cells #[.int .i64 0, .int .u32 0, .int .i64 0, .int .i64 0, .int .u32 0, .int .u32 0] 46)))
  have HY := Lib.hid (Blk.new ((w.alloc (.cells #[.pointer (some ⟨c, 0, none⟩)] 27)).alloc (.cells #[.int .i64 kd, .int .u32 dd, .int .i64 aw, .int .u32 at1, .int .u32 am, .bool ys, .string tk, .int .i64 nn, .int .i64 id, .slice va T.length vc] 50)) #[.int .i64 0, .int .u32 0, .int .i64 0, .int .i64 0, .int .u32 0, .int .u32 0] 46)
  have HB1 := Lib.hid (bel_alloc (o := .cells #[.int .i64 0, .int .u32 0, .int .i64 0, .int .i64 0, .int .u32 0, .int .u32 0] 46) (bel_alloc (o := .cells #[.int .i64 kd, .int .u32 dd, .int .i64 aw, .int .u32 at1, .int .u32 am, .bool ys, .string tk, .int .i64 nn, .int .i64 id, .slice va T.length vc] 50) (below_alloc w (.cells #[.pointer (some ⟨c, 0, none⟩)] 27))))
  have HM1 := Lib.hid (hm.below HB1.out)
  rw [World.size_alloc] at HX
  rw [World.size_alloc, World.size_alloc] at HY
  unfold cmdV
  simp only
  clear h hm hN hT hid
  go_enter Tryz.func17, Tryz.ntmps17
  go_upto_region 1 with fail
  generalize ((w.alloc (.cells #[.pointer (some ⟨c, 0, none⟩)] 27)).alloc (.cells #[.int .i64 kd, .int .u32 dd, .int .i64 aw, .int .u32 at1, .int .u32 am, .bool ys, .string tk, .int .i64 nn, .int .i64 id, .slice va T.length vc] 50)).alloc (.cells #[.int .i64 0, .int .u32 0, .int .i64 0, .int .i64 0, .int .u32 0, .int .u32 0] 46) = w1 at HP HX HY HB1 HM1 ⊢
  generalize hg : w.heap.size + 1 = g at HX HY ⊢
  obtain ⟨p, F, hp, hcore, hFc⟩ := (H.out.next HB1.out).at_
  have H1 := Lib.hid hp
  have Hcore := Lib.hid hcore
  have HFc := Lib.hid hFc
  have Hng : Hid (¬ core c p (g + 1) ∧ ¬ core c p g ∧ ¬ core c p w.heap.size) := Lib.hid ⟨fun e => by have := H.out.lt _ (hcore _ e); omega, fun e => by have := H.out.lt _ (hcore _ e); omega, fun e => by have := H.out.lt _ (hcore _ e); omega⟩
  have Hgl : Hid (w.heap.size ≤ g + 1 ∧ g + 1 < w1.heap.size) := Lib.hid ⟨by omega, HY.out.lt⟩
  clear hp hcore hFc
  generalize hg0 : w.heap.size = g0 at HP hg ⊢
  have p0 : w1.cell? ⟨g0, 0, none⟩ = some (.pointer (some ⟨c, 0, none⟩)) := HP.out.cell 0
  have x0 : w1.cell? ⟨g, 0, none⟩ = some (.int .i64 kd) := HX.out.cell 0
  have x1 : w1.cell? ⟨g, 1, none⟩ = some (.int .u32 dd) := HX.out.cell 1
  have x2 : w1.cell? ⟨g, 2, none⟩ = some (.int .i64 aw) := HX.out.cell 2
  have x3 : w1.cell? ⟨g, 3, none⟩ = some (.int .u32 at1) := HX.out.cell 3
  have x4 : w1.cell? ⟨g, 4, none⟩ = some (.int .u32 am) := HX.out.cell 4
  have x5 : w1.cell? ⟨g, 5, none⟩ = some (.bool ys) := HX.out.cell 5
  have x6 : w1.cell? ⟨g, 6, none⟩ = some (.string tk) := HX.out.cell 6
  have x7 : w1.cell? ⟨g, 7, none⟩ = some (.int .i64 nn) := HX.out.cell 7
  have x8 : w1.cell? ⟨g, 8, none⟩ = some (.int .i64 id) := HX.out.cell 8
  have x9 : w1.cell? ⟨g, 9, none⟩ = some (.slice va T.length vc) := HX.out.cell 9
  by_cases h1 : kd = 1
  · subst h1
    have HE : Hid (doC C ⟨1, dd, ⟨aw, at1, am⟩, ys, tk, nn, id, ws⟩ = beginC C ⟨1, dd, ⟨aw, at1, am⟩, ys, tk, nn, id, ws⟩) := Lib.hid (by unfold doC; simp)
    have HK := Lib.hid (beginc_any ⟨1, dd, ⟨aw, at1, am⟩, ys, tk, nn, id, ws⟩ (.slice va T.length vc) T w1 H1.out HM1.out (by have := HI.out; rw [HE.out] at this; exact this))
    obtain ⟨z, hz⟩ : ∃ z, beginC C ⟨1, dd, ⟨aw, at1, am⟩, ys, tk, nn, id, ws⟩ = z := ⟨_, rfl⟩
    rw [hz] at HK HE
    clear hz
    obtain ⟨⟨ze, zd, zs, ⟨zw, zt, zm⟩⟩, zc⟩ := z
    unfold cmdV at HK
    simp only at HK
    have HKe := Lib.hid (HK.out.mono (fun e w' h => (⟨h.1, h⟩ : e = .returned (.agg #[.int .i64 ze, .int .u32 zd, .int .i64 zs, .int .i64 zw, .int .u32 zt, .int .u32 zm]) ∧ _)))
    clear HK
    go_wp2_with (first
      | (go_at_call 51; refine HKe.out.mono ?_; rintro e w2 ⟨rfl, hd⟩; have HD := Lib.hid hd; obtain ⟨-, F', p', -, -, -, -, ht⟩ := hd; have HY2 := Lib.hid (blk_keep ht HY.out Hng.out.1); clear ht; have y0 : w2.cell? ⟨g + 1, 0, none⟩ = some (.int .i64 0) := HY2.out.cell 0; have f0 : w2.frozen? ⟨g + 1, 0, none⟩ = false := HY2.out.free 0; have y1 : w2.cell? ⟨g + 1, 1, none⟩ = some (.int .u32 0) := HY2.out.cell 1; have f1 : w2.frozen? ⟨g + 1, 1, none⟩ = false := HY2.out.free 1; have y2 : w2.cell? ⟨g + 1, 2, none⟩ = some (.int .i64 0) := HY2.out.cell 2; have f2 : w2.frozen? ⟨g + 1, 2, none⟩ = false := HY2.out.free 2; have y3 : w2.cell? ⟨g + 1, 3, none⟩ = some (.int .i64 0) := HY2.out.cell 3; have f3 : w2.frozen? ⟨g + 1, 3, none⟩ = false := HY2.out.free 3; have y4 : w2.cell? ⟨g + 1, 4, none⟩ = some (.int .u32 0) := HY2.out.cell 4; have f4 : w2.frozen? ⟨g + 1, 4, none⟩ = false := HY2.out.free 4; have y5 : w2.cell? ⟨g + 1, 5, none⟩ = some (.int .u32 0) := HY2.out.cell 5; have f5 : w2.frozen? ⟨g + 1, 5, none⟩ = false := HY2.out.free 5; skip)
      | fail)
    have hY := set6 HY2.out (.int .i64 ze) (.int .u32 zd) (.int .i64 zs) (.int .i64 zw) (.int .u32 zt) (.int .u32 zm)
    have z0 : ((((((w2.setCell ⟨g + 1, 0, none⟩ (.int .i64 ze)).setCell ⟨g + 1, 1, none⟩ (.int .u32 zd)).setCell ⟨g + 1, 2, none⟩ (.int .i64 zs)).setCell ⟨g + 1, 3, none⟩ (.int .i64 zw)).setCell ⟨g + 1, 4, none⟩ (.int .u32 zt)).setCell ⟨g + 1, 5, none⟩ (.int .u32 zm)).cell? ⟨g + 1, 0, none⟩ = some (.int .i64 ze) := hY.cell 0
    have z1 : ((((((w2.setCell ⟨g + 1, 0, none⟩ (.int .i64 ze)).setCell ⟨g + 1, 1, none⟩ (.int .u32 zd)).setCell ⟨g + 1, 2, none⟩ (.int .i64 zs)).setCell ⟨g + 1, 3, none⟩ (.int .i64 zw)).setCell ⟨g + 1, 4, none⟩ (.int .u32 zt)).setCell ⟨g + 1, 5, none⟩ (.int .u32 zm)).cell? ⟨g + 1, 1, none⟩ = some (.int .u32 zd) := hY.cell 1
    have z2 : ((((((w2.setCell ⟨g + 1, 0, none⟩ (.int .i64 ze)).setCell ⟨g + 1, 1, none⟩ (.int .u32 zd)).setCell ⟨g + 1, 2, none⟩ (.int .i64 zs)).setCell ⟨g + 1, 3, none⟩ (.int .i64 zw)).setCell ⟨g + 1, 4, none⟩ (.int .u32 zt)).setCell ⟨g + 1, 5, none⟩ (.int .u32 zm)).cell? ⟨g + 1, 2, none⟩ = some (.int .i64 zs) := hY.cell 2
    have z3 : ((((((w2.setCell ⟨g + 1, 0, none⟩ (.int .i64 ze)).setCell ⟨g + 1, 1, none⟩ (.int .u32 zd)).setCell ⟨g + 1, 2, none⟩ (.int .i64 zs)).setCell ⟨g + 1, 3, none⟩ (.int .i64 zw)).setCell ⟨g + 1, 4, none⟩ (.int .u32 zt)).setCell ⟨g + 1, 5, none⟩ (.int .u32 zm)).cell? ⟨g + 1, 3, none⟩ = some (.int .i64 zw) := hY.cell 3
    have z4 : ((((((w2.setCell ⟨g + 1, 0, none⟩ (.int .i64 ze)).setCell ⟨g + 1, 1, none⟩ (.int .u32 zd)).setCell ⟨g + 1, 2, none⟩ (.int .i64 zs)).setCell ⟨g + 1, 3, none⟩ (.int .i64 zw)).setCell ⟨g + 1, 4, none⟩ (.int .u32 zt)).setCell ⟨g + 1, 5, none⟩ (.int .u32 zm)).cell? ⟨g + 1, 4, none⟩ = some (.int .u32 zt) := hY.cell 4
    have z5 : ((((((w2.setCell ⟨g + 1, 0, none⟩ (.int .i64 ze)).setCell ⟨g + 1, 1, none⟩ (.int .u32 zd)).setCell ⟨g + 1, 2, none⟩ (.int .i64 zs)).setCell ⟨g + 1, 3, none⟩ (.int .i64 zw)).setCell ⟨g + 1, 4, none⟩ (.int .u32 zt)).setCell ⟨g + 1, 5, none⟩ (.int .u32 zm)).cell? ⟨g + 1, 5, none⟩ = some (.int .u32 zm) := hY.cell 5
    refine bodyPost_ret (v := .agg #[.int .i64 ze, .int .u32 zd, .int .i64 zs, .int .i64 zw, .int .u32 zt, .int .u32 zm]) (by simp [results, Tryz.results17, go_sem, z0, z1, z2, z3, z4, z5]) rfl ?_
    rw [HE.out]
    obtain ⟨S', h1, h2, h3⟩ := do_end H.out.lt HB1.out H1.out Hcore.out HFc.out Hgl.out.1 Hgl.out.2 HD.out
    exact ⟨rfl, S', (h1.more (Nat.le_add_right N 64)), fun x hx => (h2 x hx).imp (fun q => q) (fun q => by omega), h3⟩
  have e1k : (kd == 1) = false := bne_of h1
  by_cases h2 : kd = 2
  · subst h2
    have HE : Hid (doC C ⟨2, dd, ⟨aw, at1, am⟩, ys, tk, nn, id, ws⟩ = decideC C ⟨2, dd, ⟨aw, at1, am⟩, ys, tk, nn, id, ws⟩) := Lib.hid (by unfold doC; simp)
    have HK := Lib.hid (decidec_any ⟨2, dd, ⟨aw, at1, am⟩, ys, tk, nn, id, ws⟩ (.slice va T.length vc) T w1 H1.out HM1.out (by have := HI.out; rw [HE.out] at this; exact this))
    obtain ⟨z, hz⟩ : ∃ z, decideC C ⟨2, dd, ⟨aw, at1, am⟩, ys, tk, nn, id, ws⟩ = z := ⟨_, rfl⟩
    rw [hz] at HK HE
    clear hz
    obtain ⟨⟨ze, zd, zs, ⟨zw, zt, zm⟩⟩, zc⟩ := z
    unfold cmdV at HK
    simp only at HK
    have HKe := Lib.hid (HK.out.mono (fun e w' h => (⟨h.1, h⟩ : e = .returned (.agg #[.int .i64 ze, .int .u32 zd, .int .i64 zs, .int .i64 zw, .int .u32 zt, .int .u32 zm]) ∧ _)))
    clear HK
    go_wp2_with (first
      | (go_at_call 52; refine HKe.out.mono ?_; rintro e w2 ⟨rfl, hd⟩; have HD := Lib.hid hd; obtain ⟨-, F', p', -, -, -, -, ht⟩ := hd; have HY2 := Lib.hid (blk_keep ht HY.out Hng.out.1); clear ht; have y0 : w2.cell? ⟨g + 1, 0, none⟩ = some (.int .i64 0) := HY2.out.cell 0; have f0 : w2.frozen? ⟨g + 1, 0, none⟩ = false := HY2.out.free 0; have y1 : w2.cell? ⟨g + 1, 1, none⟩ = some (.int .u32 0) := HY2.out.cell 1; have f1 : w2.frozen? ⟨g + 1, 1, none⟩ = false := HY2.out.free 1; have y2 : w2.cell? ⟨g + 1, 2, none⟩ = some (.int .i64 0) := HY2.out.cell 2; have f2 : w2.frozen? ⟨g + 1, 2, none⟩ = false := HY2.out.free 2; have y3 : w2.cell? ⟨g + 1, 3, none⟩ = some (.int .i64 0) := HY2.out.cell 3; have f3 : w2.frozen? ⟨g + 1, 3, none⟩ = false := HY2.out.free 3; have y4 : w2.cell? ⟨g + 1, 4, none⟩ = some (.int .u32 0) := HY2.out.cell 4; have f4 : w2.frozen? ⟨g + 1, 4, none⟩ = false := HY2.out.free 4; have y5 : w2.cell? ⟨g + 1, 5, none⟩ = some (.int .u32 0) := HY2.out.cell 5; have f5 : w2.frozen? ⟨g + 1, 5, none⟩ = false := HY2.out.free 5; skip)
      | fail)
    have hY := set6 HY2.out (.int .i64 ze) (.int .u32 zd) (.int .i64 zs) (.int .i64 zw) (.int .u32 zt) (.int .u32 zm)
    have z0 : ((((((w2.setCell ⟨g + 1, 0, none⟩ (.int .i64 ze)).setCell ⟨g + 1, 1, none⟩ (.int .u32 zd)).setCell ⟨g + 1, 2, none⟩ (.int .i64 zs)).setCell ⟨g + 1, 3, none⟩ (.int .i64 zw)).setCell ⟨g + 1, 4, none⟩ (.int .u32 zt)).setCell ⟨g + 1, 5, none⟩ (.int .u32 zm)).cell? ⟨g + 1, 0, none⟩ = some (.int .i64 ze) := hY.cell 0
    have z1 : ((((((w2.setCell ⟨g + 1, 0, none⟩ (.int .i64 ze)).setCell ⟨g + 1, 1, none⟩ (.int .u32 zd)).setCell ⟨g + 1, 2, none⟩ (.int .i64 zs)).setCell ⟨g + 1, 3, none⟩ (.int .i64 zw)).setCell ⟨g + 1, 4, none⟩ (.int .u32 zt)).setCell ⟨g + 1, 5, none⟩ (.int .u32 zm)).cell? ⟨g + 1, 1, none⟩ = some (.int .u32 zd) := hY.cell 1
    have z2 : ((((((w2.setCell ⟨g + 1, 0, none⟩ (.int .i64 ze)).setCell ⟨g + 1, 1, none⟩ (.int .u32 zd)).setCell ⟨g + 1, 2, none⟩ (.int .i64 zs)).setCell ⟨g + 1, 3, none⟩ (.int .i64 zw)).setCell ⟨g + 1, 4, none⟩ (.int .u32 zt)).setCell ⟨g + 1, 5, none⟩ (.int .u32 zm)).cell? ⟨g + 1, 2, none⟩ = some (.int .i64 zs) := hY.cell 2
    have z3 : ((((((w2.setCell ⟨g + 1, 0, none⟩ (.int .i64 ze)).setCell ⟨g + 1, 1, none⟩ (.int .u32 zd)).setCell ⟨g + 1, 2, none⟩ (.int .i64 zs)).setCell ⟨g + 1, 3, none⟩ (.int .i64 zw)).setCell ⟨g + 1, 4, none⟩ (.int .u32 zt)).setCell ⟨g + 1, 5, none⟩ (.int .u32 zm)).cell? ⟨g + 1, 3, none⟩ = some (.int .i64 zw) := hY.cell 3
    have z4 : ((((((w2.setCell ⟨g + 1, 0, none⟩ (.int .i64 ze)).setCell ⟨g + 1, 1, none⟩ (.int .u32 zd)).setCell ⟨g + 1, 2, none⟩ (.int .i64 zs)).setCell ⟨g + 1, 3, none⟩ (.int .i64 zw)).setCell ⟨g + 1, 4, none⟩ (.int .u32 zt)).setCell ⟨g + 1, 5, none⟩ (.int .u32 zm)).cell? ⟨g + 1, 4, none⟩ = some (.int .u32 zt) := hY.cell 4
    have z5 : ((((((w2.setCell ⟨g + 1, 0, none⟩ (.int .i64 ze)).setCell ⟨g + 1, 1, none⟩ (.int .u32 zd)).setCell ⟨g + 1, 2, none⟩ (.int .i64 zs)).setCell ⟨g + 1, 3, none⟩ (.int .i64 zw)).setCell ⟨g + 1, 4, none⟩ (.int .u32 zt)).setCell ⟨g + 1, 5, none⟩ (.int .u32 zm)).cell? ⟨g + 1, 5, none⟩ = some (.int .u32 zm) := hY.cell 5
    refine bodyPost_ret (v := .agg #[.int .i64 ze, .int .u32 zd, .int .i64 zs, .int .i64 zw, .int .u32 zt, .int .u32 zm]) (by simp [results, Tryz.results17, go_sem, z0, z1, z2, z3, z4, z5]) rfl ?_
    rw [HE.out]
    obtain ⟨S', h1, h2, h3⟩ := do_end H.out.lt HB1.out H1.out Hcore.out HFc.out Hgl.out.1 Hgl.out.2 HD.out
    exact ⟨rfl, S', (h1.more (Nat.le_add_right N 64)), fun x hx => (h2 x hx).imp (fun q => q) (fun q => by omega), h3⟩
  have e2k : (kd == 2) = false := bne_of h2
  by_cases h3 : kd = 3
  · subst h3
    have HE : Hid (doC C ⟨3, dd, ⟨aw, at1, am⟩, ys, tk, nn, id, ws⟩ = prepareC C ⟨3, dd, ⟨aw, at1, am⟩, ys, tk, nn, id, ws⟩) := Lib.hid (by unfold doC; simp)
    have HK := Lib.hid (preparec_any ⟨3, dd, ⟨aw, at1, am⟩, ys, tk, nn, id, ws⟩ (.slice va T.length vc) T w1 H1.out HM1.out (by have := HI.out; rw [HE.out] at this; exact this))
    obtain ⟨z, hz⟩ : ∃ z, prepareC C ⟨3, dd, ⟨aw, at1, am⟩, ys, tk, nn, id, ws⟩ = z := ⟨_, rfl⟩
    rw [hz] at HK HE
    clear hz
    obtain ⟨⟨ze, zd, zs, ⟨zw, zt, zm⟩⟩, zc⟩ := z
    unfold cmdV at HK
    simp only at HK
    have HKe := Lib.hid (HK.out.mono (fun e w' h => (⟨h.1, h⟩ : e = .returned (.agg #[.int .i64 ze, .int .u32 zd, .int .i64 zs, .int .i64 zw, .int .u32 zt, .int .u32 zm]) ∧ _)))
    clear HK
    go_wp2_with (first
      | (go_at_call 53; refine HKe.out.mono ?_; rintro e w2 ⟨rfl, hd⟩; have HD := Lib.hid hd; obtain ⟨-, F', p', -, -, -, -, ht⟩ := hd; have HY2 := Lib.hid (blk_keep ht HY.out Hng.out.1); clear ht; have y0 : w2.cell? ⟨g + 1, 0, none⟩ = some (.int .i64 0) := HY2.out.cell 0; have f0 : w2.frozen? ⟨g + 1, 0, none⟩ = false := HY2.out.free 0; have y1 : w2.cell? ⟨g + 1, 1, none⟩ = some (.int .u32 0) := HY2.out.cell 1; have f1 : w2.frozen? ⟨g + 1, 1, none⟩ = false := HY2.out.free 1; have y2 : w2.cell? ⟨g + 1, 2, none⟩ = some (.int .i64 0) := HY2.out.cell 2; have f2 : w2.frozen? ⟨g + 1, 2, none⟩ = false := HY2.out.free 2; have y3 : w2.cell? ⟨g + 1, 3, none⟩ = some (.int .i64 0) := HY2.out.cell 3; have f3 : w2.frozen? ⟨g + 1, 3, none⟩ = false := HY2.out.free 3; have y4 : w2.cell? ⟨g + 1, 4, none⟩ = some (.int .u32 0) := HY2.out.cell 4; have f4 : w2.frozen? ⟨g + 1, 4, none⟩ = false := HY2.out.free 4; have y5 : w2.cell? ⟨g + 1, 5, none⟩ = some (.int .u32 0) := HY2.out.cell 5; have f5 : w2.frozen? ⟨g + 1, 5, none⟩ = false := HY2.out.free 5; skip)
      | fail)
    have hY := set6 HY2.out (.int .i64 ze) (.int .u32 zd) (.int .i64 zs) (.int .i64 zw) (.int .u32 zt) (.int .u32 zm)
    have z0 : ((((((w2.setCell ⟨g + 1, 0, none⟩ (.int .i64 ze)).setCell ⟨g + 1, 1, none⟩ (.int .u32 zd)).setCell ⟨g + 1, 2, none⟩ (.int .i64 zs)).setCell ⟨g + 1, 3, none⟩ (.int .i64 zw)).setCell ⟨g + 1, 4, none⟩ (.int .u32 zt)).setCell ⟨g + 1, 5, none⟩ (.int .u32 zm)).cell? ⟨g + 1, 0, none⟩ = some (.int .i64 ze) := hY.cell 0
    have z1 : ((((((w2.setCell ⟨g + 1, 0, none⟩ (.int .i64 ze)).setCell ⟨g + 1, 1, none⟩ (.int .u32 zd)).setCell ⟨g + 1, 2, none⟩ (.int .i64 zs)).setCell ⟨g + 1, 3, none⟩ (.int .i64 zw)).setCell ⟨g + 1, 4, none⟩ (.int .u32 zt)).setCell ⟨g + 1, 5, none⟩ (.int .u32 zm)).cell? ⟨g + 1, 1, none⟩ = some (.int .u32 zd) := hY.cell 1
    have z2 : ((((((w2.setCell ⟨g + 1, 0, none⟩ (.int .i64 ze)).setCell ⟨g + 1, 1, none⟩ (.int .u32 zd)).setCell ⟨g + 1, 2, none⟩ (.int .i64 zs)).setCell ⟨g + 1, 3, none⟩ (.int .i64 zw)).setCell ⟨g + 1, 4, none⟩ (.int .u32 zt)).setCell ⟨g + 1, 5, none⟩ (.int .u32 zm)).cell? ⟨g + 1, 2, none⟩ = some (.int .i64 zs) := hY.cell 2
    have z3 : ((((((w2.setCell ⟨g + 1, 0, none⟩ (.int .i64 ze)).setCell ⟨g + 1, 1, none⟩ (.int .u32 zd)).setCell ⟨g + 1, 2, none⟩ (.int .i64 zs)).setCell ⟨g + 1, 3, none⟩ (.int .i64 zw)).setCell ⟨g + 1, 4, none⟩ (.int .u32 zt)).setCell ⟨g + 1, 5, none⟩ (.int .u32 zm)).cell? ⟨g + 1, 3, none⟩ = some (.int .i64 zw) := hY.cell 3
    have z4 : ((((((w2.setCell ⟨g + 1, 0, none⟩ (.int .i64 ze)).setCell ⟨g + 1, 1, none⟩ (.int .u32 zd)).setCell ⟨g + 1, 2, none⟩ (.int .i64 zs)).setCell ⟨g + 1, 3, none⟩ (.int .i64 zw)).setCell ⟨g + 1, 4, none⟩ (.int .u32 zt)).setCell ⟨g + 1, 5, none⟩ (.int .u32 zm)).cell? ⟨g + 1, 4, none⟩ = some (.int .u32 zt) := hY.cell 4
    have z5 : ((((((w2.setCell ⟨g + 1, 0, none⟩ (.int .i64 ze)).setCell ⟨g + 1, 1, none⟩ (.int .u32 zd)).setCell ⟨g + 1, 2, none⟩ (.int .i64 zs)).setCell ⟨g + 1, 3, none⟩ (.int .i64 zw)).setCell ⟨g + 1, 4, none⟩ (.int .u32 zt)).setCell ⟨g + 1, 5, none⟩ (.int .u32 zm)).cell? ⟨g + 1, 5, none⟩ = some (.int .u32 zm) := hY.cell 5
    refine bodyPost_ret (v := .agg #[.int .i64 ze, .int .u32 zd, .int .i64 zs, .int .i64 zw, .int .u32 zt, .int .u32 zm]) (by simp [results, Tryz.results17, go_sem, z0, z1, z2, z3, z4, z5]) rfl ?_
    rw [HE.out]
    obtain ⟨S', h1, h2, h3⟩ := do_end H.out.lt HB1.out H1.out Hcore.out HFc.out Hgl.out.1 Hgl.out.2 HD.out
    exact ⟨rfl, S', (h1.more (Nat.le_add_right N 64)), fun x hx => (h2 x hx).imp (fun q => q) (fun q => by omega), h3⟩
  have e3k : (kd == 3) = false := bne_of h3
  by_cases h4 : kd = 4
  · subst h4
    have HE : Hid (doC C ⟨4, dd, ⟨aw, at1, am⟩, ys, tk, nn, id, ws⟩ = resolveC C ⟨4, dd, ⟨aw, at1, am⟩, ys, tk, nn, id, ws⟩) := Lib.hid (by unfold doC; simp)
    have HK := Lib.hid (resolvec_any ⟨4, dd, ⟨aw, at1, am⟩, ys, tk, nn, id, ws⟩ (.slice va T.length vc) T w1 H1.out HM1.out (by have := HI.out; rw [HE.out] at this; exact this) HN.out)
    obtain ⟨z, hz⟩ : ∃ z, resolveC C ⟨4, dd, ⟨aw, at1, am⟩, ys, tk, nn, id, ws⟩ = z := ⟨_, rfl⟩
    rw [hz] at HK HE
    clear hz
    obtain ⟨⟨ze, zd, zs, ⟨zw, zt, zm⟩⟩, zc⟩ := z
    unfold cmdV at HK
    simp only at HK
    have HKe := Lib.hid (HK.out.mono (fun e w' h => (⟨h.1, h⟩ : e = .returned (.agg #[.int .i64 ze, .int .u32 zd, .int .i64 zs, .int .i64 zw, .int .u32 zt, .int .u32 zm]) ∧ _)))
    clear HK
    go_wp2_with (first
      | (go_at_call 54; refine HKe.out.mono ?_; rintro e w2 ⟨rfl, hd⟩; have HD := Lib.hid hd; obtain ⟨-, F', p', -, -, -, -, ht⟩ := hd; have HY2 := Lib.hid (blk_keep ht HY.out Hng.out.1); clear ht; have y0 : w2.cell? ⟨g + 1, 0, none⟩ = some (.int .i64 0) := HY2.out.cell 0; have f0 : w2.frozen? ⟨g + 1, 0, none⟩ = false := HY2.out.free 0; have y1 : w2.cell? ⟨g + 1, 1, none⟩ = some (.int .u32 0) := HY2.out.cell 1; have f1 : w2.frozen? ⟨g + 1, 1, none⟩ = false := HY2.out.free 1; have y2 : w2.cell? ⟨g + 1, 2, none⟩ = some (.int .i64 0) := HY2.out.cell 2; have f2 : w2.frozen? ⟨g + 1, 2, none⟩ = false := HY2.out.free 2; have y3 : w2.cell? ⟨g + 1, 3, none⟩ = some (.int .i64 0) := HY2.out.cell 3; have f3 : w2.frozen? ⟨g + 1, 3, none⟩ = false := HY2.out.free 3; have y4 : w2.cell? ⟨g + 1, 4, none⟩ = some (.int .u32 0) := HY2.out.cell 4; have f4 : w2.frozen? ⟨g + 1, 4, none⟩ = false := HY2.out.free 4; have y5 : w2.cell? ⟨g + 1, 5, none⟩ = some (.int .u32 0) := HY2.out.cell 5; have f5 : w2.frozen? ⟨g + 1, 5, none⟩ = false := HY2.out.free 5; skip)
      | fail)
    have hY := set6 HY2.out (.int .i64 ze) (.int .u32 zd) (.int .i64 zs) (.int .i64 zw) (.int .u32 zt) (.int .u32 zm)
    have z0 : ((((((w2.setCell ⟨g + 1, 0, none⟩ (.int .i64 ze)).setCell ⟨g + 1, 1, none⟩ (.int .u32 zd)).setCell ⟨g + 1, 2, none⟩ (.int .i64 zs)).setCell ⟨g + 1, 3, none⟩ (.int .i64 zw)).setCell ⟨g + 1, 4, none⟩ (.int .u32 zt)).setCell ⟨g + 1, 5, none⟩ (.int .u32 zm)).cell? ⟨g + 1, 0, none⟩ = some (.int .i64 ze) := hY.cell 0
    have z1 : ((((((w2.setCell ⟨g + 1, 0, none⟩ (.int .i64 ze)).setCell ⟨g + 1, 1, none⟩ (.int .u32 zd)).setCell ⟨g + 1, 2, none⟩ (.int .i64 zs)).setCell ⟨g + 1, 3, none⟩ (.int .i64 zw)).setCell ⟨g + 1, 4, none⟩ (.int .u32 zt)).setCell ⟨g + 1, 5, none⟩ (.int .u32 zm)).cell? ⟨g + 1, 1, none⟩ = some (.int .u32 zd) := hY.cell 1
    have z2 : ((((((w2.setCell ⟨g + 1, 0, none⟩ (.int .i64 ze)).setCell ⟨g + 1, 1, none⟩ (.int .u32 zd)).setCell ⟨g + 1, 2, none⟩ (.int .i64 zs)).setCell ⟨g + 1, 3, none⟩ (.int .i64 zw)).setCell ⟨g + 1, 4, none⟩ (.int .u32 zt)).setCell ⟨g + 1, 5, none⟩ (.int .u32 zm)).cell? ⟨g + 1, 2, none⟩ = some (.int .i64 zs) := hY.cell 2
    have z3 : ((((((w2.setCell ⟨g + 1, 0, none⟩ (.int .i64 ze)).setCell ⟨g + 1, 1, none⟩ (.int .u32 zd)).setCell ⟨g + 1, 2, none⟩ (.int .i64 zs)).setCell ⟨g + 1, 3, none⟩ (.int .i64 zw)).setCell ⟨g + 1, 4, none⟩ (.int .u32 zt)).setCell ⟨g + 1, 5, none⟩ (.int .u32 zm)).cell? ⟨g + 1, 3, none⟩ = some (.int .i64 zw) := hY.cell 3
    have z4 : ((((((w2.setCell ⟨g + 1, 0, none⟩ (.int .i64 ze)).setCell ⟨g + 1, 1, none⟩ (.int .u32 zd)).setCell ⟨g + 1, 2, none⟩ (.int .i64 zs)).setCell ⟨g + 1, 3, none⟩ (.int .i64 zw)).setCell ⟨g + 1, 4, none⟩ (.int .u32 zt)).setCell ⟨g + 1, 5, none⟩ (.int .u32 zm)).cell? ⟨g + 1, 4, none⟩ = some (.int .u32 zt) := hY.cell 4
    have z5 : ((((((w2.setCell ⟨g + 1, 0, none⟩ (.int .i64 ze)).setCell ⟨g + 1, 1, none⟩ (.int .u32 zd)).setCell ⟨g + 1, 2, none⟩ (.int .i64 zs)).setCell ⟨g + 1, 3, none⟩ (.int .i64 zw)).setCell ⟨g + 1, 4, none⟩ (.int .u32 zt)).setCell ⟨g + 1, 5, none⟩ (.int .u32 zm)).cell? ⟨g + 1, 5, none⟩ = some (.int .u32 zm) := hY.cell 5
    refine bodyPost_ret (v := .agg #[.int .i64 ze, .int .u32 zd, .int .i64 zs, .int .i64 zw, .int .u32 zt, .int .u32 zm]) (by simp [results, Tryz.results17, go_sem, z0, z1, z2, z3, z4, z5]) rfl ?_
    rw [HE.out]
    obtain ⟨S', h1, h2, h3⟩ := do_end H.out.lt HB1.out H1.out Hcore.out HFc.out Hgl.out.1 Hgl.out.2 HD.out
    exact ⟨rfl, S', h1, fun x hx => (h2 x hx).imp (fun q => q) (fun q => by omega), h3⟩
  have e4k : (kd == 4) = false := bne_of h4
  by_cases h5 : kd = 5
  · subst h5
    have HE : Hid (doC C ⟨5, dd, ⟨aw, at1, am⟩, ys, tk, nn, id, ws⟩ = closeC C ⟨5, dd, ⟨aw, at1, am⟩, ys, tk, nn, id, ws⟩) := Lib.hid (by unfold doC closeC; simp)
    have HK := Lib.hid (close_any ⟨5, dd, ⟨aw, at1, am⟩, ys, tk, nn, id, ws⟩ (.slice va T.length vc) T w1 H1.out HM1.out (by have := HI.out; rw [HE.out] at this; exact this))
    obtain ⟨z, hz⟩ : ∃ z, closeC C ⟨5, dd, ⟨aw, at1, am⟩, ys, tk, nn, id, ws⟩ = z := ⟨_, rfl⟩
    rw [hz] at HK HE
    clear hz
    obtain ⟨⟨ze, zd, zs, ⟨zw, zt, zm⟩⟩, zc⟩ := z
    unfold cmdV at HK
    simp only at HK
    have HKe := Lib.hid (HK.out.mono (fun e w' h => (⟨h.1, h⟩ : e = .returned (.agg #[.int .i64 ze, .int .u32 zd, .int .i64 zs, .int .i64 zw, .int .u32 zt, .int .u32 zm]) ∧ _)))
    clear HK
    go_wp2_with (first
      | (go_at_call 55; refine HKe.out.mono ?_; rintro e w2 ⟨rfl, hd⟩; have HD := Lib.hid hd; obtain ⟨-, F', p', -, -, -, -, ht⟩ := hd; have HY2 := Lib.hid (blk_keep ht HY.out Hng.out.1); clear ht; have y0 : w2.cell? ⟨g + 1, 0, none⟩ = some (.int .i64 0) := HY2.out.cell 0; have f0 : w2.frozen? ⟨g + 1, 0, none⟩ = false := HY2.out.free 0; have y1 : w2.cell? ⟨g + 1, 1, none⟩ = some (.int .u32 0) := HY2.out.cell 1; have f1 : w2.frozen? ⟨g + 1, 1, none⟩ = false := HY2.out.free 1; have y2 : w2.cell? ⟨g + 1, 2, none⟩ = some (.int .i64 0) := HY2.out.cell 2; have f2 : w2.frozen? ⟨g + 1, 2, none⟩ = false := HY2.out.free 2; have y3 : w2.cell? ⟨g + 1, 3, none⟩ = some (.int .i64 0) := HY2.out.cell 3; have f3 : w2.frozen? ⟨g + 1, 3, none⟩ = false := HY2.out.free 3; have y4 : w2.cell? ⟨g + 1, 4, none⟩ = some (.int .u32 0) := HY2.out.cell 4; have f4 : w2.frozen? ⟨g + 1, 4, none⟩ = false := HY2.out.free 4; have y5 : w2.cell? ⟨g + 1, 5, none⟩ = some (.int .u32 0) := HY2.out.cell 5; have f5 : w2.frozen? ⟨g + 1, 5, none⟩ = false := HY2.out.free 5; skip)
      | fail)
    have hY := set6 HY2.out (.int .i64 ze) (.int .u32 zd) (.int .i64 zs) (.int .i64 zw) (.int .u32 zt) (.int .u32 zm)
    have z0 : ((((((w2.setCell ⟨g + 1, 0, none⟩ (.int .i64 ze)).setCell ⟨g + 1, 1, none⟩ (.int .u32 zd)).setCell ⟨g + 1, 2, none⟩ (.int .i64 zs)).setCell ⟨g + 1, 3, none⟩ (.int .i64 zw)).setCell ⟨g + 1, 4, none⟩ (.int .u32 zt)).setCell ⟨g + 1, 5, none⟩ (.int .u32 zm)).cell? ⟨g + 1, 0, none⟩ = some (.int .i64 ze) := hY.cell 0
    have z1 : ((((((w2.setCell ⟨g + 1, 0, none⟩ (.int .i64 ze)).setCell ⟨g + 1, 1, none⟩ (.int .u32 zd)).setCell ⟨g + 1, 2, none⟩ (.int .i64 zs)).setCell ⟨g + 1, 3, none⟩ (.int .i64 zw)).setCell ⟨g + 1, 4, none⟩ (.int .u32 zt)).setCell ⟨g + 1, 5, none⟩ (.int .u32 zm)).cell? ⟨g + 1, 1, none⟩ = some (.int .u32 zd) := hY.cell 1
    have z2 : ((((((w2.setCell ⟨g + 1, 0, none⟩ (.int .i64 ze)).setCell ⟨g + 1, 1, none⟩ (.int .u32 zd)).setCell ⟨g + 1, 2, none⟩ (.int .i64 zs)).setCell ⟨g + 1, 3, none⟩ (.int .i64 zw)).setCell ⟨g + 1, 4, none⟩ (.int .u32 zt)).setCell ⟨g + 1, 5, none⟩ (.int .u32 zm)).cell? ⟨g + 1, 2, none⟩ = some (.int .i64 zs) := hY.cell 2
    have z3 : ((((((w2.setCell ⟨g + 1, 0, none⟩ (.int .i64 ze)).setCell ⟨g + 1, 1, none⟩ (.int .u32 zd)).setCell ⟨g + 1, 2, none⟩ (.int .i64 zs)).setCell ⟨g + 1, 3, none⟩ (.int .i64 zw)).setCell ⟨g + 1, 4, none⟩ (.int .u32 zt)).setCell ⟨g + 1, 5, none⟩ (.int .u32 zm)).cell? ⟨g + 1, 3, none⟩ = some (.int .i64 zw) := hY.cell 3
    have z4 : ((((((w2.setCell ⟨g + 1, 0, none⟩ (.int .i64 ze)).setCell ⟨g + 1, 1, none⟩ (.int .u32 zd)).setCell ⟨g + 1, 2, none⟩ (.int .i64 zs)).setCell ⟨g + 1, 3, none⟩ (.int .i64 zw)).setCell ⟨g + 1, 4, none⟩ (.int .u32 zt)).setCell ⟨g + 1, 5, none⟩ (.int .u32 zm)).cell? ⟨g + 1, 4, none⟩ = some (.int .u32 zt) := hY.cell 4
    have z5 : ((((((w2.setCell ⟨g + 1, 0, none⟩ (.int .i64 ze)).setCell ⟨g + 1, 1, none⟩ (.int .u32 zd)).setCell ⟨g + 1, 2, none⟩ (.int .i64 zs)).setCell ⟨g + 1, 3, none⟩ (.int .i64 zw)).setCell ⟨g + 1, 4, none⟩ (.int .u32 zt)).setCell ⟨g + 1, 5, none⟩ (.int .u32 zm)).cell? ⟨g + 1, 5, none⟩ = some (.int .u32 zm) := hY.cell 5
    refine bodyPost_ret (v := .agg #[.int .i64 ze, .int .u32 zd, .int .i64 zs, .int .i64 zw, .int .u32 zt, .int .u32 zm]) (by simp [results, Tryz.results17, go_sem, z0, z1, z2, z3, z4, z5]) rfl ?_
    rw [HE.out]
    obtain ⟨S', h1, h2, h3⟩ := do_end H.out.lt HB1.out H1.out Hcore.out HFc.out Hgl.out.1 Hgl.out.2 HD.out
    exact ⟨rfl, S', (h1.more (Nat.le_add_right N 64)), fun x hx => (h2 x hx).imp (fun q => q) (fun q => by omega), h3⟩
  have e5k : (kd == 5) = false := bne_of h5
  by_cases h6 : kd = 6
  · subst h6
    have HE : Hid (doC C ⟨6, dd, ⟨aw, at1, am⟩, ys, tk, nn, id, ws⟩ = cutCl C ⟨6, dd, ⟨aw, at1, am⟩, ys, tk, nn, id, ws⟩) := Lib.hid (by unfold doC; simp)
    have HK := Lib.hid (cutcell_any ⟨6, dd, ⟨aw, at1, am⟩, ys, tk, nn, id, ws⟩ (.slice va T.length vc) T w1 H1.out HM1.out (by have := HI.out; rw [HE.out] at this; exact this) (by have := HN.out; omega))
    obtain ⟨z, hz⟩ : ∃ z, cutCl C ⟨6, dd, ⟨aw, at1, am⟩, ys, tk, nn, id, ws⟩ = z := ⟨_, rfl⟩
    rw [hz] at HK HE
    clear hz
    obtain ⟨⟨ze, zd, zs, ⟨zw, zt, zm⟩⟩, zc⟩ := z
    unfold cmdV at HK
    simp only at HK
    have HKe := Lib.hid (HK.out.mono (fun e w' h => (⟨h.1, h⟩ : e = .returned (.agg #[.int .i64 ze, .int .u32 zd, .int .i64 zs, .int .i64 zw, .int .u32 zt, .int .u32 zm]) ∧ _)))
    clear HK
    go_wp2_with (first
      | (go_at_call 56; refine HKe.out.mono ?_; rintro e w2 ⟨rfl, hd⟩; have HD := Lib.hid hd; obtain ⟨-, F', p', -, -, -, -, ht⟩ := hd; have HY2 := Lib.hid (blk_keep ht HY.out Hng.out.1); clear ht; have y0 : w2.cell? ⟨g + 1, 0, none⟩ = some (.int .i64 0) := HY2.out.cell 0; have f0 : w2.frozen? ⟨g + 1, 0, none⟩ = false := HY2.out.free 0; have y1 : w2.cell? ⟨g + 1, 1, none⟩ = some (.int .u32 0) := HY2.out.cell 1; have f1 : w2.frozen? ⟨g + 1, 1, none⟩ = false := HY2.out.free 1; have y2 : w2.cell? ⟨g + 1, 2, none⟩ = some (.int .i64 0) := HY2.out.cell 2; have f2 : w2.frozen? ⟨g + 1, 2, none⟩ = false := HY2.out.free 2; have y3 : w2.cell? ⟨g + 1, 3, none⟩ = some (.int .i64 0) := HY2.out.cell 3; have f3 : w2.frozen? ⟨g + 1, 3, none⟩ = false := HY2.out.free 3; have y4 : w2.cell? ⟨g + 1, 4, none⟩ = some (.int .u32 0) := HY2.out.cell 4; have f4 : w2.frozen? ⟨g + 1, 4, none⟩ = false := HY2.out.free 4; have y5 : w2.cell? ⟨g + 1, 5, none⟩ = some (.int .u32 0) := HY2.out.cell 5; have f5 : w2.frozen? ⟨g + 1, 5, none⟩ = false := HY2.out.free 5; skip)
      | fail)
    have hY := set6 HY2.out (.int .i64 ze) (.int .u32 zd) (.int .i64 zs) (.int .i64 zw) (.int .u32 zt) (.int .u32 zm)
    have z0 : ((((((w2.setCell ⟨g + 1, 0, none⟩ (.int .i64 ze)).setCell ⟨g + 1, 1, none⟩ (.int .u32 zd)).setCell ⟨g + 1, 2, none⟩ (.int .i64 zs)).setCell ⟨g + 1, 3, none⟩ (.int .i64 zw)).setCell ⟨g + 1, 4, none⟩ (.int .u32 zt)).setCell ⟨g + 1, 5, none⟩ (.int .u32 zm)).cell? ⟨g + 1, 0, none⟩ = some (.int .i64 ze) := hY.cell 0
    have z1 : ((((((w2.setCell ⟨g + 1, 0, none⟩ (.int .i64 ze)).setCell ⟨g + 1, 1, none⟩ (.int .u32 zd)).setCell ⟨g + 1, 2, none⟩ (.int .i64 zs)).setCell ⟨g + 1, 3, none⟩ (.int .i64 zw)).setCell ⟨g + 1, 4, none⟩ (.int .u32 zt)).setCell ⟨g + 1, 5, none⟩ (.int .u32 zm)).cell? ⟨g + 1, 1, none⟩ = some (.int .u32 zd) := hY.cell 1
    have z2 : ((((((w2.setCell ⟨g + 1, 0, none⟩ (.int .i64 ze)).setCell ⟨g + 1, 1, none⟩ (.int .u32 zd)).setCell ⟨g + 1, 2, none⟩ (.int .i64 zs)).setCell ⟨g + 1, 3, none⟩ (.int .i64 zw)).setCell ⟨g + 1, 4, none⟩ (.int .u32 zt)).setCell ⟨g + 1, 5, none⟩ (.int .u32 zm)).cell? ⟨g + 1, 2, none⟩ = some (.int .i64 zs) := hY.cell 2
    have z3 : ((((((w2.setCell ⟨g + 1, 0, none⟩ (.int .i64 ze)).setCell ⟨g + 1, 1, none⟩ (.int .u32 zd)).setCell ⟨g + 1, 2, none⟩ (.int .i64 zs)).setCell ⟨g + 1, 3, none⟩ (.int .i64 zw)).setCell ⟨g + 1, 4, none⟩ (.int .u32 zt)).setCell ⟨g + 1, 5, none⟩ (.int .u32 zm)).cell? ⟨g + 1, 3, none⟩ = some (.int .i64 zw) := hY.cell 3
    have z4 : ((((((w2.setCell ⟨g + 1, 0, none⟩ (.int .i64 ze)).setCell ⟨g + 1, 1, none⟩ (.int .u32 zd)).setCell ⟨g + 1, 2, none⟩ (.int .i64 zs)).setCell ⟨g + 1, 3, none⟩ (.int .i64 zw)).setCell ⟨g + 1, 4, none⟩ (.int .u32 zt)).setCell ⟨g + 1, 5, none⟩ (.int .u32 zm)).cell? ⟨g + 1, 4, none⟩ = some (.int .u32 zt) := hY.cell 4
    have z5 : ((((((w2.setCell ⟨g + 1, 0, none⟩ (.int .i64 ze)).setCell ⟨g + 1, 1, none⟩ (.int .u32 zd)).setCell ⟨g + 1, 2, none⟩ (.int .i64 zs)).setCell ⟨g + 1, 3, none⟩ (.int .i64 zw)).setCell ⟨g + 1, 4, none⟩ (.int .u32 zt)).setCell ⟨g + 1, 5, none⟩ (.int .u32 zm)).cell? ⟨g + 1, 5, none⟩ = some (.int .u32 zm) := hY.cell 5
    refine bodyPost_ret (v := .agg #[.int .i64 ze, .int .u32 zd, .int .i64 zs, .int .i64 zw, .int .u32 zt, .int .u32 zm]) (by simp [results, Tryz.results17, go_sem, z0, z1, z2, z3, z4, z5]) rfl ?_
    rw [HE.out]
    obtain ⟨S', h1, h2, h3⟩ := do_end H.out.lt HB1.out H1.out Hcore.out HFc.out Hgl.out.1 Hgl.out.2 HD.out
    exact ⟨rfl, S', (h1.more (Nat.le_add_right N 64)), fun x hx => (h2 x hx).imp (fun q => q) (fun q => by omega), h3⟩
  have e6k : (kd == 6) = false := bne_of h6
  by_cases h7 : kd = 7
  · subst h7
    have HE7 : Hid (doC C ⟨7, dd, ⟨aw, at1, am⟩, ys, tk, nn, id, ws⟩ = if nn < 0 ∨ 4611686018427387904 < nn then (bad 1, C) else (bad 0, { C with hor := max C.hor nn, M := retL C.M (max C.hor nn) })) := Lib.hid (by unfold doC; simp)
    by_cases hb : nn < 0 ∨ 4611686018427387904 < nn
    · have HEb : Hid (doC C ⟨7, dd, ⟨aw, at1, am⟩, ys, tk, nn, id, ws⟩ = (bad 1, C)) := Lib.hid (by rw [HE7.out, if_pos hb])
      by_cases hb1 : nn < 0
      · have e1 : decide (nn < 0) = true := by simpa using hb1
        clear hb hb1
        have HE := HEb
        go_upto_region 18 with fail
        have y0 : w1.cell? ⟨g + 1, 0, none⟩ = some (.int .i64 0) := HY.out.cell 0
        have f0 : w1.frozen? ⟨g + 1, 0, none⟩ = false := HY.out.free 0
        have y1 : w1.cell? ⟨g + 1, 1, none⟩ = some (.int .u32 0) := HY.out.cell 1
        have f1 : w1.frozen? ⟨g + 1, 1, none⟩ = false := HY.out.free 1
        have y2 : w1.cell? ⟨g + 1, 2, none⟩ = some (.int .i64 0) := HY.out.cell 2
        have f2 : w1.frozen? ⟨g + 1, 2, none⟩ = false := HY.out.free 2
        have y3 : w1.cell? ⟨g + 1, 3, none⟩ = some (.int .i64 0) := HY.out.cell 3
        have f3 : w1.frozen? ⟨g + 1, 3, none⟩ = false := HY.out.free 3
        have y4 : w1.cell? ⟨g + 1, 4, none⟩ = some (.int .u32 0) := HY.out.cell 4
        have f4 : w1.frozen? ⟨g + 1, 4, none⟩ = false := HY.out.free 4
        have y5 : w1.cell? ⟨g + 1, 5, none⟩ = some (.int .u32 0) := HY.out.cell 5
        have f5 : w1.frozen? ⟨g + 1, 5, none⟩ = false := HY.out.free 5
        go_wp2_with fail
        have hY := set6 HY.out (.int .i64 1) (.int .u32 0) (.int .i64 0) (.int .i64 0) (.int .u32 0) (.int .u32 0)
        have z0 : ((((((w1.setCell ⟨g + 1, 0, none⟩ (.int .i64 1)).setCell ⟨g + 1, 1, none⟩ (.int .u32 0)).setCell ⟨g + 1, 2, none⟩ (.int .i64 0)).setCell ⟨g + 1, 3, none⟩ (.int .i64 0)).setCell ⟨g + 1, 4, none⟩ (.int .u32 0)).setCell ⟨g + 1, 5, none⟩ (.int .u32 0)).cell? ⟨g + 1, 0, none⟩ = some (.int .i64 1) := hY.cell 0
        have z1 : ((((((w1.setCell ⟨g + 1, 0, none⟩ (.int .i64 1)).setCell ⟨g + 1, 1, none⟩ (.int .u32 0)).setCell ⟨g + 1, 2, none⟩ (.int .i64 0)).setCell ⟨g + 1, 3, none⟩ (.int .i64 0)).setCell ⟨g + 1, 4, none⟩ (.int .u32 0)).setCell ⟨g + 1, 5, none⟩ (.int .u32 0)).cell? ⟨g + 1, 1, none⟩ = some (.int .u32 0) := hY.cell 1
        have z2 : ((((((w1.setCell ⟨g + 1, 0, none⟩ (.int .i64 1)).setCell ⟨g + 1, 1, none⟩ (.int .u32 0)).setCell ⟨g + 1, 2, none⟩ (.int .i64 0)).setCell ⟨g + 1, 3, none⟩ (.int .i64 0)).setCell ⟨g + 1, 4, none⟩ (.int .u32 0)).setCell ⟨g + 1, 5, none⟩ (.int .u32 0)).cell? ⟨g + 1, 2, none⟩ = some (.int .i64 0) := hY.cell 2
        have z3 : ((((((w1.setCell ⟨g + 1, 0, none⟩ (.int .i64 1)).setCell ⟨g + 1, 1, none⟩ (.int .u32 0)).setCell ⟨g + 1, 2, none⟩ (.int .i64 0)).setCell ⟨g + 1, 3, none⟩ (.int .i64 0)).setCell ⟨g + 1, 4, none⟩ (.int .u32 0)).setCell ⟨g + 1, 5, none⟩ (.int .u32 0)).cell? ⟨g + 1, 3, none⟩ = some (.int .i64 0) := hY.cell 3
        have z4 : ((((((w1.setCell ⟨g + 1, 0, none⟩ (.int .i64 1)).setCell ⟨g + 1, 1, none⟩ (.int .u32 0)).setCell ⟨g + 1, 2, none⟩ (.int .i64 0)).setCell ⟨g + 1, 3, none⟩ (.int .i64 0)).setCell ⟨g + 1, 4, none⟩ (.int .u32 0)).setCell ⟨g + 1, 5, none⟩ (.int .u32 0)).cell? ⟨g + 1, 4, none⟩ = some (.int .u32 0) := hY.cell 4
        have z5 : ((((((w1.setCell ⟨g + 1, 0, none⟩ (.int .i64 1)).setCell ⟨g + 1, 1, none⟩ (.int .u32 0)).setCell ⟨g + 1, 2, none⟩ (.int .i64 0)).setCell ⟨g + 1, 3, none⟩ (.int .i64 0)).setCell ⟨g + 1, 4, none⟩ (.int .u32 0)).setCell ⟨g + 1, 5, none⟩ (.int .u32 0)).cell? ⟨g + 1, 5, none⟩ = some (.int .u32 0) := hY.cell 5
        refine bodyPost_ret (v := .agg #[.int .i64 1, .int .u32 0, .int .i64 0, .int .i64 0, .int .u32 0, .int .u32 0]) (by simp [results, Tryz.results17, go_sem, z0, z1, z2, z3, z4, z5]) rfl ?_
        rw [HE.out]
        obtain ⟨S', h1, h2, h3⟩ := do_end H.out.lt HB1.out H1.out Hcore.out HFc.out Hgl.out.1 Hgl.out.2 (post_same (z := (bad 1, C)) H1.out rfl rfl (bel_refl w1))
        exact ⟨rfl, S', (h1.more (Nat.le_add_right N 64)), fun x hx => (h2 x hx).imp (fun q => q) (fun q => by omega), h3⟩
      · have e1 : decide (nn < 0) = false := by simpa using hb1
        have e2 : decide ((4611686018427387904 : Int) < nn) = true := by simp; omega
        clear hb hb1
        have HE := HEb
        go_upto_region 18 with fail
        have y0 : w1.cell? ⟨g + 1, 0, none⟩ = some (.int .i64 0) := HY.out.cell 0
        have f0 : w1.frozen? ⟨g + 1, 0, none⟩ = false := HY.out.free 0
        have y1 : w1.cell? ⟨g + 1, 1, none⟩ = some (.int .u32 0) := HY.out.cell 1
        have f1 : w1.frozen? ⟨g + 1, 1, none⟩ = false := HY.out.free 1
        have y2 : w1.cell? ⟨g + 1, 2, none⟩ = some (.int .i64 0) := HY.out.cell 2
        have f2 : w1.frozen? ⟨g + 1, 2, none⟩ = false := HY.out.free 2
        have y3 : w1.cell? ⟨g + 1, 3, none⟩ = some (.int .i64 0) := HY.out.cell 3
        have f3 : w1.frozen? ⟨g + 1, 3, none⟩ = false := HY.out.free 3
        have y4 : w1.cell? ⟨g + 1, 4, none⟩ = some (.int .u32 0) := HY.out.cell 4
        have f4 : w1.frozen? ⟨g + 1, 4, none⟩ = false := HY.out.free 4
        have y5 : w1.cell? ⟨g + 1, 5, none⟩ = some (.int .u32 0) := HY.out.cell 5
        have f5 : w1.frozen? ⟨g + 1, 5, none⟩ = false := HY.out.free 5
        go_wp2_with fail
        have hY := set6 HY.out (.int .i64 1) (.int .u32 0) (.int .i64 0) (.int .i64 0) (.int .u32 0) (.int .u32 0)
        have z0 : ((((((w1.setCell ⟨g + 1, 0, none⟩ (.int .i64 1)).setCell ⟨g + 1, 1, none⟩ (.int .u32 0)).setCell ⟨g + 1, 2, none⟩ (.int .i64 0)).setCell ⟨g + 1, 3, none⟩ (.int .i64 0)).setCell ⟨g + 1, 4, none⟩ (.int .u32 0)).setCell ⟨g + 1, 5, none⟩ (.int .u32 0)).cell? ⟨g + 1, 0, none⟩ = some (.int .i64 1) := hY.cell 0
        have z1 : ((((((w1.setCell ⟨g + 1, 0, none⟩ (.int .i64 1)).setCell ⟨g + 1, 1, none⟩ (.int .u32 0)).setCell ⟨g + 1, 2, none⟩ (.int .i64 0)).setCell ⟨g + 1, 3, none⟩ (.int .i64 0)).setCell ⟨g + 1, 4, none⟩ (.int .u32 0)).setCell ⟨g + 1, 5, none⟩ (.int .u32 0)).cell? ⟨g + 1, 1, none⟩ = some (.int .u32 0) := hY.cell 1
        have z2 : ((((((w1.setCell ⟨g + 1, 0, none⟩ (.int .i64 1)).setCell ⟨g + 1, 1, none⟩ (.int .u32 0)).setCell ⟨g + 1, 2, none⟩ (.int .i64 0)).setCell ⟨g + 1, 3, none⟩ (.int .i64 0)).setCell ⟨g + 1, 4, none⟩ (.int .u32 0)).setCell ⟨g + 1, 5, none⟩ (.int .u32 0)).cell? ⟨g + 1, 2, none⟩ = some (.int .i64 0) := hY.cell 2
        have z3 : ((((((w1.setCell ⟨g + 1, 0, none⟩ (.int .i64 1)).setCell ⟨g + 1, 1, none⟩ (.int .u32 0)).setCell ⟨g + 1, 2, none⟩ (.int .i64 0)).setCell ⟨g + 1, 3, none⟩ (.int .i64 0)).setCell ⟨g + 1, 4, none⟩ (.int .u32 0)).setCell ⟨g + 1, 5, none⟩ (.int .u32 0)).cell? ⟨g + 1, 3, none⟩ = some (.int .i64 0) := hY.cell 3
        have z4 : ((((((w1.setCell ⟨g + 1, 0, none⟩ (.int .i64 1)).setCell ⟨g + 1, 1, none⟩ (.int .u32 0)).setCell ⟨g + 1, 2, none⟩ (.int .i64 0)).setCell ⟨g + 1, 3, none⟩ (.int .i64 0)).setCell ⟨g + 1, 4, none⟩ (.int .u32 0)).setCell ⟨g + 1, 5, none⟩ (.int .u32 0)).cell? ⟨g + 1, 4, none⟩ = some (.int .u32 0) := hY.cell 4
        have z5 : ((((((w1.setCell ⟨g + 1, 0, none⟩ (.int .i64 1)).setCell ⟨g + 1, 1, none⟩ (.int .u32 0)).setCell ⟨g + 1, 2, none⟩ (.int .i64 0)).setCell ⟨g + 1, 3, none⟩ (.int .i64 0)).setCell ⟨g + 1, 4, none⟩ (.int .u32 0)).setCell ⟨g + 1, 5, none⟩ (.int .u32 0)).cell? ⟨g + 1, 5, none⟩ = some (.int .u32 0) := hY.cell 5
        refine bodyPost_ret (v := .agg #[.int .i64 1, .int .u32 0, .int .i64 0, .int .i64 0, .int .u32 0, .int .u32 0]) (by simp [results, Tryz.results17, go_sem, z0, z1, z2, z3, z4, z5]) rfl ?_
        rw [HE.out]
        obtain ⟨S', h1, h2, h3⟩ := do_end H.out.lt HB1.out H1.out Hcore.out HFc.out Hgl.out.1 Hgl.out.2 (post_same (z := (bad 1, C)) H1.out rfl rfl (bel_refl w1))
        exact ⟨rfl, S', (h1.more (Nat.le_add_right N 64)), fun x hx => (h2 x hx).imp (fun q => q) (fun q => by omega), h3⟩
    have HE : Hid (doC C ⟨7, dd, ⟨aw, at1, am⟩, ys, tk, nn, id, ws⟩ = (bad 0, { C with hor := max C.hor nn, M := retL C.M (max C.hor nn) })) := Lib.hid (by rw [HE7.out, if_neg hb])
    have e1 : decide (nn < 0) = false := by simp; omega
    have e2 : decide ((4611686018427387904 : Int) < nn) = false := by simp; omega
    have Hi2 : Hid (CInv ({ C with hor := max C.hor nn, M := retL C.M (max C.hor nn) } : Cl)) := Lib.hid (by have := HI.out; rw [HE.out] at this; exact this)
    clear hb
    go_upto_region 19 with fail
    have hcl0 : c < w.heap.size := H.out.lt _ (Hcore.out _ (.inl rfl))
    have hcg0 : g0 ≠ c := by omega
    have hcg : g ≠ c := by omega
    have hcg1 : g + 1 ≠ c := by omega
    have c11 : w1.cell? ⟨c, 11, none⟩ = some (.int .i64 C.hor) := H1.out.blk.cell 11
    have fc11 : w1.frozen? ⟨c, 11, none⟩ = false := H1.out.blk.free 11
    go_region
    have HC3 : Hid (Blk (w1.setCell ⟨c, 11, none⟩ (.int .i64 (max C.hor nn))).drew c (ccells ({ C with hor := max C.hor nn } : Cl) p) 140) := Lib.hid (by simpa [ccells] using (H1.out.blk.set 11 (.int .i64 (max C.hor nn))).next (bel_drew (bel_refl _)))
    have HP3 : Hid (Blk (w1.setCell ⟨c, 11, none⟩ (.int .i64 (max C.hor nn))).drew g0 #[.pointer (some ⟨c, 0, none⟩)] 27) := Lib.hid ((HP.out.other hcg0 _).next (bel_drew (bel_refl _)))
    have HY3 : Hid (Blk (w1.setCell ⟨c, 11, none⟩ (.int .i64 (max C.hor nn))).drew (g + 1) #[.int .i64 0, .int .u32 0, .int .i64 0, .int .i64 0, .int .u32 0, .int .u32 0] 46) := Lib.hid ((HY.out.other hcg1 _).next (bel_drew (bel_refl _)))
    have HT3 : Hid (Turn (fun y => y = c) w1 (w1.setCell ⟨c, 11, none⟩ (.int .i64 (max C.hor nn))).drew) := Lib.hid (((Turn.refl (fun y => y = c) w1).set (a := ⟨c, 11, none⟩) rfl _).next (bel_drew (bel_refl _)))
    clear p0 c11 fc11 x0 x1 x2 x3 x4 x5 x6 x7 x8 x9
    generalize (w1.setCell ⟨c, 11, none⟩ (.int .i64 (max C.hor nn))).drew = w3 at HC3 HP3 HY3 HT3 ⊢
    have HS3 : Hid (St p.Fs w3 p.s C.M N) := Lib.hid (H1.out.st.keep HT3.out (fun x hx e => H1.out.nc (e ▸ hx)))
    have HRt := Lib.hid (fun (W : World) (hW : Below w3.heap.size w3 W) => ret_from (max C.hor nn) w3 HS3.out (by have := HN.out; omega) W hW)
    have hcl : c < w3.heap.size := HC3.out.lt
    have hgl : g0 < w3.heap.size := HP3.out.lt
    have HKs : Hid (∀ W, Below w3.heap.size w3 W → W.cell? ⟨g0, 0, none⟩ = some (.pointer (some ⟨c, 0, none⟩)) ∧ W.cell? ⟨c, 1, none⟩ = some (.pointer (some ⟨p.s, 0, none⟩)) ∧ W.cell? ⟨c, 11, none⟩ = some (.int .i64 (max C.hor nn))) := Lib.hid (fun W hW => ⟨(HP3.out.next hW).cell 0, (HC3.out.next hW).cell 1, (HC3.out.next hW).cell 11⟩)
    have hx0 := bel_refl w3
    obtain ⟨q0, q1, q2⟩ := HKs.out w3 hx0
    go_wp2_with fail
    go_region_held3 (fun W => W.cell? ⟨g0, 0, none⟩ = some (.pointer (some ⟨c, 0, none⟩)) ∧ W.cell? ⟨c, 1, none⟩ = some (.pointer (some ⟨p.s, 0, none⟩)) ∧ W.cell? ⟨c, 11, none⟩ = some (.int .i64 (max C.hor nn)))
      (first | (with_reducible exact ⟨q0, q1, q2⟩) | (with_reducible exact ⟨y0, y1, y2⟩) | (with_reducible refine HKs.out _ ?_; (repeat (first | assumption | apply bel_alloc | apply bel_drew)); done) | go_keep)
      (first
        | (go_simp; go_at_call 57; refine (HRt.out _ (by repeat (first | exact bel_refl _ | assumption | apply bel_alloc | apply bel_drew))).mono ?_; rintro e w4 ⟨rfl, F7, h7, hF7, ht7⟩; have hc9 := blk_keep ht7 HC3.out H1.out.nc; have hp9 := blk_keep ht7 HP3.out (fun e => Hng.out.2.2 (by rw [hg0]; exact .inr (.inr (.inr (.inr e))))); have HC4 := Lib.hid hc9; have HY4 := Lib.hid (blk_keep ht7 HY3.out (fun e => Hng.out.1 (.inr (.inr (.inr (.inr e)))))); have HH7 := Lib.hid h7; have HF7 := Lib.hid hF7; have HT4 := Lib.hid ((HT3.out.mono (G := fun y => y = c ∨ p.Fs y) (fun y hy => .inl hy)).trans ht7 (fun y hy => .inl (.inr hy))); have y0 : w4.cell? ⟨g0, 0, none⟩ = some (.pointer (some ⟨c, 0, none⟩)) := hp9.cell 0; have y1 : w4.cell? ⟨c, 1, none⟩ = some (.pointer (some ⟨p.s, 0, none⟩)) := hc9.cell 1; have y2 : w4.cell? ⟨c, 11, none⟩ = some (.int .i64 (max C.hor nn)) := hc9.cell 11; clear h7 hF7 ht7 hc9 hp9))
    clear q0 q1 q2 HKs hx0 y0 y1 y2 hcl hgl HRt
    have y0 : w4.cell? ⟨g + 1, 0, none⟩ = some (.int .i64 0) := HY4.out.cell 0
    have f0 : w4.frozen? ⟨g + 1, 0, none⟩ = false := HY4.out.free 0
    have y1 : w4.cell? ⟨g + 1, 1, none⟩ = some (.int .u32 0) := HY4.out.cell 1
    have f1 : w4.frozen? ⟨g + 1, 1, none⟩ = false := HY4.out.free 1
    have y2 : w4.cell? ⟨g + 1, 2, none⟩ = some (.int .i64 0) := HY4.out.cell 2
    have f2 : w4.frozen? ⟨g + 1, 2, none⟩ = false := HY4.out.free 2
    have y3 : w4.cell? ⟨g + 1, 3, none⟩ = some (.int .i64 0) := HY4.out.cell 3
    have f3 : w4.frozen? ⟨g + 1, 3, none⟩ = false := HY4.out.free 3
    have y4 : w4.cell? ⟨g + 1, 4, none⟩ = some (.int .u32 0) := HY4.out.cell 4
    have f4 : w4.frozen? ⟨g + 1, 4, none⟩ = false := HY4.out.free 4
    have y5 : w4.cell? ⟨g + 1, 5, none⟩ = some (.int .u32 0) := HY4.out.cell 5
    have f5 : w4.frozen? ⟨g + 1, 5, none⟩ = false := HY4.out.free 5
    go_wp2_with fail
    have hY := set6 HY4.out (.int .i64 0) (.int .u32 0) (.int .i64 0) (.int .i64 0) (.int .u32 0) (.int .u32 0)
    have z0 : ((((((w4.setCell ⟨g + 1, 0, none⟩ (.int .i64 0)).setCell ⟨g + 1, 1, none⟩ (.int .u32 0)).setCell ⟨g + 1, 2, none⟩ (.int .i64 0)).setCell ⟨g + 1, 3, none⟩ (.int .i64 0)).setCell ⟨g + 1, 4, none⟩ (.int .u32 0)).setCell ⟨g + 1, 5, none⟩ (.int .u32 0)).cell? ⟨g + 1, 0, none⟩ = some (.int .i64 0) := hY.cell 0
    have z1 : ((((((w4.setCell ⟨g + 1, 0, none⟩ (.int .i64 0)).setCell ⟨g + 1, 1, none⟩ (.int .u32 0)).setCell ⟨g + 1, 2, none⟩ (.int .i64 0)).setCell ⟨g + 1, 3, none⟩ (.int .i64 0)).setCell ⟨g + 1, 4, none⟩ (.int .u32 0)).setCell ⟨g + 1, 5, none⟩ (.int .u32 0)).cell? ⟨g + 1, 1, none⟩ = some (.int .u32 0) := hY.cell 1
    have z2 : ((((((w4.setCell ⟨g + 1, 0, none⟩ (.int .i64 0)).setCell ⟨g + 1, 1, none⟩ (.int .u32 0)).setCell ⟨g + 1, 2, none⟩ (.int .i64 0)).setCell ⟨g + 1, 3, none⟩ (.int .i64 0)).setCell ⟨g + 1, 4, none⟩ (.int .u32 0)).setCell ⟨g + 1, 5, none⟩ (.int .u32 0)).cell? ⟨g + 1, 2, none⟩ = some (.int .i64 0) := hY.cell 2
    have z3 : ((((((w4.setCell ⟨g + 1, 0, none⟩ (.int .i64 0)).setCell ⟨g + 1, 1, none⟩ (.int .u32 0)).setCell ⟨g + 1, 2, none⟩ (.int .i64 0)).setCell ⟨g + 1, 3, none⟩ (.int .i64 0)).setCell ⟨g + 1, 4, none⟩ (.int .u32 0)).setCell ⟨g + 1, 5, none⟩ (.int .u32 0)).cell? ⟨g + 1, 3, none⟩ = some (.int .i64 0) := hY.cell 3
    have z4 : ((((((w4.setCell ⟨g + 1, 0, none⟩ (.int .i64 0)).setCell ⟨g + 1, 1, none⟩ (.int .u32 0)).setCell ⟨g + 1, 2, none⟩ (.int .i64 0)).setCell ⟨g + 1, 3, none⟩ (.int .i64 0)).setCell ⟨g + 1, 4, none⟩ (.int .u32 0)).setCell ⟨g + 1, 5, none⟩ (.int .u32 0)).cell? ⟨g + 1, 4, none⟩ = some (.int .u32 0) := hY.cell 4
    have z5 : ((((((w4.setCell ⟨g + 1, 0, none⟩ (.int .i64 0)).setCell ⟨g + 1, 1, none⟩ (.int .u32 0)).setCell ⟨g + 1, 2, none⟩ (.int .i64 0)).setCell ⟨g + 1, 3, none⟩ (.int .i64 0)).setCell ⟨g + 1, 4, none⟩ (.int .u32 0)).setCell ⟨g + 1, 5, none⟩ (.int .u32 0)).cell? ⟨g + 1, 5, none⟩ = some (.int .u32 0) := hY.cell 5
    refine bodyPost_ret (v := .agg #[.int .i64 0, .int .u32 0, .int .i64 0, .int .i64 0, .int .u32 0, .int .u32 0]) (by simp [results, Tryz.results17, go_sem, z0, z1, z2, z3, z4, z5]) rfl ?_
    rw [HE.out]
    obtain ⟨S', h1, h2, h3⟩ := do_end H.out.lt HB1.out H1.out Hcore.out HFc.out Hgl.out.1 Hgl.out.2 (post_store (z := (bad 0, { C with hor := max C.hor nn, M := retL C.M (max C.hor nn) })) H1.out rfl HH7.out (fun x hx => (HF7.out x hx).imp (fun q => q) (Nat.le_trans HT3.out.size)) HT4.out HC4.out rfl rfl rfl Hi2.out)
    exact ⟨rfl, S', (h1.more (Nat.le_add_right N 64)), fun x hx => (h2 x hx).imp (fun q => q) (fun q => by omega), h3⟩
  have e7k : (kd == 7) = false := bne_of h7
  by_cases h8 : kd = 8
  · subst h8
    have HE : Hid (doC C ⟨8, dd, ⟨aw, at1, am⟩, ys, tk, nn, id, ws⟩ = pinC C ⟨8, dd, ⟨aw, at1, am⟩, ys, tk, nn, id, ws⟩) := Lib.hid (by unfold doC; simp)
    have HK := Lib.hid (pinc_any ⟨8, dd, ⟨aw, at1, am⟩, ys, tk, nn, id, ws⟩ (.slice va T.length vc) T w1 H1.out HM1.out (by have := HI.out; rw [HE.out] at this; exact this) HId.out ⟨H1.out.inv.ticks, by have := HT.out; omega⟩ (by have := pins_len H1.out.inv; omega))
    obtain ⟨z, hz⟩ : ∃ z, pinC C ⟨8, dd, ⟨aw, at1, am⟩, ys, tk, nn, id, ws⟩ = z := ⟨_, rfl⟩
    rw [hz] at HK HE
    clear hz
    obtain ⟨⟨ze, zd, zs, ⟨zw, zt, zm⟩⟩, zc⟩ := z
    unfold cmdV at HK
    simp only at HK
    have HKe := Lib.hid (HK.out.mono (fun e w' h => (⟨h.1, h⟩ : e = .returned (.agg #[.int .i64 ze, .int .u32 zd, .int .i64 zs, .int .i64 zw, .int .u32 zt, .int .u32 zm]) ∧ _)))
    clear HK
    go_wp2_with (first
      | (go_at_call 58; refine HKe.out.mono ?_; rintro e w2 ⟨rfl, hd⟩; have HD := Lib.hid hd; obtain ⟨-, F', p', -, -, -, -, ht⟩ := hd; have HY2 := Lib.hid (blk_keep ht HY.out Hng.out.1); clear ht; have y0 : w2.cell? ⟨g + 1, 0, none⟩ = some (.int .i64 0) := HY2.out.cell 0; have f0 : w2.frozen? ⟨g + 1, 0, none⟩ = false := HY2.out.free 0; have y1 : w2.cell? ⟨g + 1, 1, none⟩ = some (.int .u32 0) := HY2.out.cell 1; have f1 : w2.frozen? ⟨g + 1, 1, none⟩ = false := HY2.out.free 1; have y2 : w2.cell? ⟨g + 1, 2, none⟩ = some (.int .i64 0) := HY2.out.cell 2; have f2 : w2.frozen? ⟨g + 1, 2, none⟩ = false := HY2.out.free 2; have y3 : w2.cell? ⟨g + 1, 3, none⟩ = some (.int .i64 0) := HY2.out.cell 3; have f3 : w2.frozen? ⟨g + 1, 3, none⟩ = false := HY2.out.free 3; have y4 : w2.cell? ⟨g + 1, 4, none⟩ = some (.int .u32 0) := HY2.out.cell 4; have f4 : w2.frozen? ⟨g + 1, 4, none⟩ = false := HY2.out.free 4; have y5 : w2.cell? ⟨g + 1, 5, none⟩ = some (.int .u32 0) := HY2.out.cell 5; have f5 : w2.frozen? ⟨g + 1, 5, none⟩ = false := HY2.out.free 5; skip)
      | fail)
    have hY := set6 HY2.out (.int .i64 ze) (.int .u32 zd) (.int .i64 zs) (.int .i64 zw) (.int .u32 zt) (.int .u32 zm)
    have z0 : ((((((w2.setCell ⟨g + 1, 0, none⟩ (.int .i64 ze)).setCell ⟨g + 1, 1, none⟩ (.int .u32 zd)).setCell ⟨g + 1, 2, none⟩ (.int .i64 zs)).setCell ⟨g + 1, 3, none⟩ (.int .i64 zw)).setCell ⟨g + 1, 4, none⟩ (.int .u32 zt)).setCell ⟨g + 1, 5, none⟩ (.int .u32 zm)).cell? ⟨g + 1, 0, none⟩ = some (.int .i64 ze) := hY.cell 0
    have z1 : ((((((w2.setCell ⟨g + 1, 0, none⟩ (.int .i64 ze)).setCell ⟨g + 1, 1, none⟩ (.int .u32 zd)).setCell ⟨g + 1, 2, none⟩ (.int .i64 zs)).setCell ⟨g + 1, 3, none⟩ (.int .i64 zw)).setCell ⟨g + 1, 4, none⟩ (.int .u32 zt)).setCell ⟨g + 1, 5, none⟩ (.int .u32 zm)).cell? ⟨g + 1, 1, none⟩ = some (.int .u32 zd) := hY.cell 1
    have z2 : ((((((w2.setCell ⟨g + 1, 0, none⟩ (.int .i64 ze)).setCell ⟨g + 1, 1, none⟩ (.int .u32 zd)).setCell ⟨g + 1, 2, none⟩ (.int .i64 zs)).setCell ⟨g + 1, 3, none⟩ (.int .i64 zw)).setCell ⟨g + 1, 4, none⟩ (.int .u32 zt)).setCell ⟨g + 1, 5, none⟩ (.int .u32 zm)).cell? ⟨g + 1, 2, none⟩ = some (.int .i64 zs) := hY.cell 2
    have z3 : ((((((w2.setCell ⟨g + 1, 0, none⟩ (.int .i64 ze)).setCell ⟨g + 1, 1, none⟩ (.int .u32 zd)).setCell ⟨g + 1, 2, none⟩ (.int .i64 zs)).setCell ⟨g + 1, 3, none⟩ (.int .i64 zw)).setCell ⟨g + 1, 4, none⟩ (.int .u32 zt)).setCell ⟨g + 1, 5, none⟩ (.int .u32 zm)).cell? ⟨g + 1, 3, none⟩ = some (.int .i64 zw) := hY.cell 3
    have z4 : ((((((w2.setCell ⟨g + 1, 0, none⟩ (.int .i64 ze)).setCell ⟨g + 1, 1, none⟩ (.int .u32 zd)).setCell ⟨g + 1, 2, none⟩ (.int .i64 zs)).setCell ⟨g + 1, 3, none⟩ (.int .i64 zw)).setCell ⟨g + 1, 4, none⟩ (.int .u32 zt)).setCell ⟨g + 1, 5, none⟩ (.int .u32 zm)).cell? ⟨g + 1, 4, none⟩ = some (.int .u32 zt) := hY.cell 4
    have z5 : ((((((w2.setCell ⟨g + 1, 0, none⟩ (.int .i64 ze)).setCell ⟨g + 1, 1, none⟩ (.int .u32 zd)).setCell ⟨g + 1, 2, none⟩ (.int .i64 zs)).setCell ⟨g + 1, 3, none⟩ (.int .i64 zw)).setCell ⟨g + 1, 4, none⟩ (.int .u32 zt)).setCell ⟨g + 1, 5, none⟩ (.int .u32 zm)).cell? ⟨g + 1, 5, none⟩ = some (.int .u32 zm) := hY.cell 5
    refine bodyPost_ret (v := .agg #[.int .i64 ze, .int .u32 zd, .int .i64 zs, .int .i64 zw, .int .u32 zt, .int .u32 zm]) (by simp [results, Tryz.results17, go_sem, z0, z1, z2, z3, z4, z5]) rfl ?_
    rw [HE.out]
    obtain ⟨S', h1, h2, h3⟩ := do_end H.out.lt HB1.out H1.out Hcore.out HFc.out Hgl.out.1 Hgl.out.2 HD.out
    exact ⟨rfl, S', (h1.more (Nat.le_add_right N 64)), fun x hx => (h2 x hx).imp (fun q => q) (fun q => by omega), h3⟩
  have e8k : (kd == 8) = false := bne_of h8
  by_cases h9 : kd = 9
  · subst h9
    have HE : Hid (doC C ⟨9, dd, ⟨aw, at1, am⟩, ys, tk, nn, id, ws⟩ = (bad 0, { C with ticks := C.ticks + 1, pins := C.pins.filter fun p => decide (C.ticks + 1 < p.until_) })) := Lib.hid (by unfold doC; simp)
    have Hi2 : Hid (CInv ({ C with ticks := C.ticks + 1, pins := C.pins.filter fun p => decide (C.ticks + 1 < p.until_) } : Cl)) := Lib.hid (by have := HI.out; rw [HE.out] at this; exact this)
    have hcl0 : c < w.heap.size := H.out.lt _ (Hcore.out _ (.inl rfl))
    have hcg0 : g0 ≠ c := by omega
    have hcg1 : g + 1 ≠ c := by omega
    have c13 : w1.cell? ⟨c, 13, none⟩ = some (.int .i64 C.ticks) := H1.out.blk.cell 13
    have fc13 : w1.frozen? ⟨c, 13, none⟩ = false := H1.out.blk.free 13
    have hw : IntKind.i64.wrap (C.ticks + 1) = C.ticks + 1 := by have := HT.out; have := H1.out.inv.ticks; rw [IntKind.wrap_i64]; omega
    go_upto_region 26 with fail
    have HC3 : Hid (Blk (w1.setCell ⟨c, 13, none⟩ (.int .i64 (C.ticks + 1))) c (ccells ({ C with ticks := C.ticks + 1 } : Cl) p) 140) := Lib.hid (by simpa [ccells] using (H1.out.blk.set 13 (.int .i64 (C.ticks + 1))))
    have HP3 : Hid (Blk (w1.setCell ⟨c, 13, none⟩ (.int .i64 (C.ticks + 1))) g0 #[.pointer (some ⟨c, 0, none⟩)] 27) := Lib.hid (HP.out.other hcg0 _)
    have HY3 : Hid (Blk (w1.setCell ⟨c, 13, none⟩ (.int .i64 (C.ticks + 1))) (g + 1) #[.int .i64 0, .int .u32 0, .int .i64 0, .int .i64 0, .int .u32 0, .int .u32 0] 46) := Lib.hid (HY.out.other hcg1 _)
    have HT3 : Hid (Turn (fun y => y = c) w1 (w1.setCell ⟨c, 13, none⟩ (.int .i64 (C.ticks + 1)))) := Lib.hid ((Turn.refl (fun y => y = c) w1).set (a := ⟨c, 13, none⟩) rfl _)
    clear p0 c13 fc13 hw x0 x1 x2 x3 x4 x5 x6 x7 x8 x9
    generalize w1.setCell ⟨c, 13, none⟩ (.int .i64 (C.ticks + 1)) = w3 at HC3 HP3 HY3 HT3 ⊢
    have HPn : Hid (PinsAt w3 p.pm C.pins p.fp) := Lib.hid (H1.out.pins.keep HT3.out (fun e => H1.out.cp e.symm))
    have HDl := Lib.hid (delf_any (C.ticks + 1) w3 p.pm C.pins p.fp #[.pointer (some ⟨g0, 0, none⟩)] HPn.out H1.out.inv.pins (fun W hW x n => delq_any x n (C.ticks + 1) W g0 c ((blk_keep hW HP3.out (fun e => Hng.out.2.2 (by rw [hg0]; exact .inr (.inr (.inl e))))).cell 0) ((blk_keep hW HC3.out (fun e => H1.out.cp e)).cell 13)))
    have p0 : w3.cell? ⟨g0, 0, none⟩ = some (.pointer (some ⟨c, 0, none⟩)) := HP3.out.cell 0
    have c12 : w3.cell? ⟨c, 12, none⟩ = some (.map (some p.pm)) := HC3.out.cell 12
    go_upto_region 27 with (first
      | (go_at_call 59; refine HDl.out.mono ?_; rintro e w4 ⟨rfl, ⟨f', hf'⟩, ht4⟩; have HP4 := Lib.hid hf'; have HT4 := Lib.hid ((HT3.out.mono (G := fun y => y = c ∨ y = p.pm) (fun y hy => .inl hy)).trans ht4 (fun y hy => .inl (.inr hy))); have HC4 := Lib.hid (blk_keep ht4 HC3.out (fun e => H1.out.cp e)); have HY4 := Lib.hid (blk_keep ht4 HY3.out (fun e => Hng.out.1 (.inr (.inr (.inl e))))); clear hf' ht4)
      | fail)
    clear p0 c12
    have y0 : w4.cell? ⟨g + 1, 0, none⟩ = some (.int .i64 0) := HY4.out.cell 0
    have f0 : w4.frozen? ⟨g + 1, 0, none⟩ = false := HY4.out.free 0
    have y1 : w4.cell? ⟨g + 1, 1, none⟩ = some (.int .u32 0) := HY4.out.cell 1
    have f1 : w4.frozen? ⟨g + 1, 1, none⟩ = false := HY4.out.free 1
    have y2 : w4.cell? ⟨g + 1, 2, none⟩ = some (.int .i64 0) := HY4.out.cell 2
    have f2 : w4.frozen? ⟨g + 1, 2, none⟩ = false := HY4.out.free 2
    have y3 : w4.cell? ⟨g + 1, 3, none⟩ = some (.int .i64 0) := HY4.out.cell 3
    have f3 : w4.frozen? ⟨g + 1, 3, none⟩ = false := HY4.out.free 3
    have y4 : w4.cell? ⟨g + 1, 4, none⟩ = some (.int .u32 0) := HY4.out.cell 4
    have f4 : w4.frozen? ⟨g + 1, 4, none⟩ = false := HY4.out.free 4
    have y5 : w4.cell? ⟨g + 1, 5, none⟩ = some (.int .u32 0) := HY4.out.cell 5
    have f5 : w4.frozen? ⟨g + 1, 5, none⟩ = false := HY4.out.free 5
    go_wp2_with fail
    have hY := set6 HY4.out (.int .i64 0) (.int .u32 0) (.int .i64 0) (.int .i64 0) (.int .u32 0) (.int .u32 0)
    have z0 : ((((((w4.setCell ⟨g + 1, 0, none⟩ (.int .i64 0)).setCell ⟨g + 1, 1, none⟩ (.int .u32 0)).setCell ⟨g + 1, 2, none⟩ (.int .i64 0)).setCell ⟨g + 1, 3, none⟩ (.int .i64 0)).setCell ⟨g + 1, 4, none⟩ (.int .u32 0)).setCell ⟨g + 1, 5, none⟩ (.int .u32 0)).cell? ⟨g + 1, 0, none⟩ = some (.int .i64 0) := hY.cell 0
    have z1 : ((((((w4.setCell ⟨g + 1, 0, none⟩ (.int .i64 0)).setCell ⟨g + 1, 1, none⟩ (.int .u32 0)).setCell ⟨g + 1, 2, none⟩ (.int .i64 0)).setCell ⟨g + 1, 3, none⟩ (.int .i64 0)).setCell ⟨g + 1, 4, none⟩ (.int .u32 0)).setCell ⟨g + 1, 5, none⟩ (.int .u32 0)).cell? ⟨g + 1, 1, none⟩ = some (.int .u32 0) := hY.cell 1
    have z2 : ((((((w4.setCell ⟨g + 1, 0, none⟩ (.int .i64 0)).setCell ⟨g + 1, 1, none⟩ (.int .u32 0)).setCell ⟨g + 1, 2, none⟩ (.int .i64 0)).setCell ⟨g + 1, 3, none⟩ (.int .i64 0)).setCell ⟨g + 1, 4, none⟩ (.int .u32 0)).setCell ⟨g + 1, 5, none⟩ (.int .u32 0)).cell? ⟨g + 1, 2, none⟩ = some (.int .i64 0) := hY.cell 2
    have z3 : ((((((w4.setCell ⟨g + 1, 0, none⟩ (.int .i64 0)).setCell ⟨g + 1, 1, none⟩ (.int .u32 0)).setCell ⟨g + 1, 2, none⟩ (.int .i64 0)).setCell ⟨g + 1, 3, none⟩ (.int .i64 0)).setCell ⟨g + 1, 4, none⟩ (.int .u32 0)).setCell ⟨g + 1, 5, none⟩ (.int .u32 0)).cell? ⟨g + 1, 3, none⟩ = some (.int .i64 0) := hY.cell 3
    have z4 : ((((((w4.setCell ⟨g + 1, 0, none⟩ (.int .i64 0)).setCell ⟨g + 1, 1, none⟩ (.int .u32 0)).setCell ⟨g + 1, 2, none⟩ (.int .i64 0)).setCell ⟨g + 1, 3, none⟩ (.int .i64 0)).setCell ⟨g + 1, 4, none⟩ (.int .u32 0)).setCell ⟨g + 1, 5, none⟩ (.int .u32 0)).cell? ⟨g + 1, 4, none⟩ = some (.int .u32 0) := hY.cell 4
    have z5 : ((((((w4.setCell ⟨g + 1, 0, none⟩ (.int .i64 0)).setCell ⟨g + 1, 1, none⟩ (.int .u32 0)).setCell ⟨g + 1, 2, none⟩ (.int .i64 0)).setCell ⟨g + 1, 3, none⟩ (.int .i64 0)).setCell ⟨g + 1, 4, none⟩ (.int .u32 0)).setCell ⟨g + 1, 5, none⟩ (.int .u32 0)).cell? ⟨g + 1, 5, none⟩ = some (.int .u32 0) := hY.cell 5
    refine bodyPost_ret (v := .agg #[.int .i64 0, .int .u32 0, .int .i64 0, .int .i64 0, .int .u32 0, .int .u32 0]) (by simp [results, Tryz.results17, go_sem, z0, z1, z2, z3, z4, z5]) rfl ?_
    rw [HE.out]
    obtain ⟨S', h1, h2, h3⟩ := do_end H.out.lt HB1.out H1.out Hcore.out HFc.out Hgl.out.1 Hgl.out.2 (post_tick (z := (bad 0, { C with ticks := C.ticks + 1, pins := C.pins.filter fun p => decide (C.ticks + 1 < p.until_) })) H1.out rfl HT4.out HC4.out HP4.out rfl rfl rfl Hi2.out)
    exact ⟨rfl, S', (h1.more (Nat.le_add_right N 64)), fun x hx => (h2 x hx).imp (fun q => q) (fun q => by omega), h3⟩
  have e9k : (kd == 9) = false := bne_of h9
  have HEb : Hid (doC C ⟨kd, dd, ⟨aw, at1, am⟩, ys, tk, nn, id, ws⟩ = (bad 1, C)) := Lib.hid (by unfold doC; simp [h1, h2, h3, h4, h5, h6, h7, h8, h9])
  clear h1 h2 h3 h4 h5 h6 h7 h8 h9
  have HE := HEb
  go_upto_region 28 with fail
  have y0 : w1.cell? ⟨g + 1, 0, none⟩ = some (.int .i64 0) := HY.out.cell 0
  have f0 : w1.frozen? ⟨g + 1, 0, none⟩ = false := HY.out.free 0
  have y1 : w1.cell? ⟨g + 1, 1, none⟩ = some (.int .u32 0) := HY.out.cell 1
  have f1 : w1.frozen? ⟨g + 1, 1, none⟩ = false := HY.out.free 1
  have y2 : w1.cell? ⟨g + 1, 2, none⟩ = some (.int .i64 0) := HY.out.cell 2
  have f2 : w1.frozen? ⟨g + 1, 2, none⟩ = false := HY.out.free 2
  have y3 : w1.cell? ⟨g + 1, 3, none⟩ = some (.int .i64 0) := HY.out.cell 3
  have f3 : w1.frozen? ⟨g + 1, 3, none⟩ = false := HY.out.free 3
  have y4 : w1.cell? ⟨g + 1, 4, none⟩ = some (.int .u32 0) := HY.out.cell 4
  have f4 : w1.frozen? ⟨g + 1, 4, none⟩ = false := HY.out.free 4
  have y5 : w1.cell? ⟨g + 1, 5, none⟩ = some (.int .u32 0) := HY.out.cell 5
  have f5 : w1.frozen? ⟨g + 1, 5, none⟩ = false := HY.out.free 5
  go_wp2_with fail
  have hY := set6 HY.out (.int .i64 1) (.int .u32 0) (.int .i64 0) (.int .i64 0) (.int .u32 0) (.int .u32 0)
  have z0 : ((((((w1.setCell ⟨g + 1, 0, none⟩ (.int .i64 1)).setCell ⟨g + 1, 1, none⟩ (.int .u32 0)).setCell ⟨g + 1, 2, none⟩ (.int .i64 0)).setCell ⟨g + 1, 3, none⟩ (.int .i64 0)).setCell ⟨g + 1, 4, none⟩ (.int .u32 0)).setCell ⟨g + 1, 5, none⟩ (.int .u32 0)).cell? ⟨g + 1, 0, none⟩ = some (.int .i64 1) := hY.cell 0
  have z1 : ((((((w1.setCell ⟨g + 1, 0, none⟩ (.int .i64 1)).setCell ⟨g + 1, 1, none⟩ (.int .u32 0)).setCell ⟨g + 1, 2, none⟩ (.int .i64 0)).setCell ⟨g + 1, 3, none⟩ (.int .i64 0)).setCell ⟨g + 1, 4, none⟩ (.int .u32 0)).setCell ⟨g + 1, 5, none⟩ (.int .u32 0)).cell? ⟨g + 1, 1, none⟩ = some (.int .u32 0) := hY.cell 1
  have z2 : ((((((w1.setCell ⟨g + 1, 0, none⟩ (.int .i64 1)).setCell ⟨g + 1, 1, none⟩ (.int .u32 0)).setCell ⟨g + 1, 2, none⟩ (.int .i64 0)).setCell ⟨g + 1, 3, none⟩ (.int .i64 0)).setCell ⟨g + 1, 4, none⟩ (.int .u32 0)).setCell ⟨g + 1, 5, none⟩ (.int .u32 0)).cell? ⟨g + 1, 2, none⟩ = some (.int .i64 0) := hY.cell 2
  have z3 : ((((((w1.setCell ⟨g + 1, 0, none⟩ (.int .i64 1)).setCell ⟨g + 1, 1, none⟩ (.int .u32 0)).setCell ⟨g + 1, 2, none⟩ (.int .i64 0)).setCell ⟨g + 1, 3, none⟩ (.int .i64 0)).setCell ⟨g + 1, 4, none⟩ (.int .u32 0)).setCell ⟨g + 1, 5, none⟩ (.int .u32 0)).cell? ⟨g + 1, 3, none⟩ = some (.int .i64 0) := hY.cell 3
  have z4 : ((((((w1.setCell ⟨g + 1, 0, none⟩ (.int .i64 1)).setCell ⟨g + 1, 1, none⟩ (.int .u32 0)).setCell ⟨g + 1, 2, none⟩ (.int .i64 0)).setCell ⟨g + 1, 3, none⟩ (.int .i64 0)).setCell ⟨g + 1, 4, none⟩ (.int .u32 0)).setCell ⟨g + 1, 5, none⟩ (.int .u32 0)).cell? ⟨g + 1, 4, none⟩ = some (.int .u32 0) := hY.cell 4
  have z5 : ((((((w1.setCell ⟨g + 1, 0, none⟩ (.int .i64 1)).setCell ⟨g + 1, 1, none⟩ (.int .u32 0)).setCell ⟨g + 1, 2, none⟩ (.int .i64 0)).setCell ⟨g + 1, 3, none⟩ (.int .i64 0)).setCell ⟨g + 1, 4, none⟩ (.int .u32 0)).setCell ⟨g + 1, 5, none⟩ (.int .u32 0)).cell? ⟨g + 1, 5, none⟩ = some (.int .u32 0) := hY.cell 5
  refine bodyPost_ret (v := .agg #[.int .i64 1, .int .u32 0, .int .i64 0, .int .i64 0, .int .u32 0, .int .u32 0]) (by simp [results, Tryz.results17, go_sem, z0, z1, z2, z3, z4, z5]) rfl ?_
  rw [HE.out]
  obtain ⟨S', h1, h2, h3⟩ := do_end H.out.lt HB1.out H1.out Hcore.out HFc.out Hgl.out.1 Hgl.out.2 (post_same (z := (bad 1, C)) H1.out rfl rfl (bel_refl w1))
  exact ⟨rfl, S', (h1.more (Nat.le_add_right N 64)), fun x hx => (h2 x hx).imp (fun q => q) (fun q => by omega), h3⟩
end Go.Proofs.YtbaflgddpciadaaGreat
