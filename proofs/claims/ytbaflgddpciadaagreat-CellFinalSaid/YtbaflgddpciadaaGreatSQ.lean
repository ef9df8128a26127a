/- Points in memory. store.Scan (10). store.Put (15), whole; the document's example (9). The steps of a script in memory; made (8). Points read, one by one. -/
import Derived.Test.YtbaflgddpciadaaGreatSL
set_option linter.unusedVariables false
set_option linter.unusedSimpArgs false
namespace Go.Proofs.YtbaflgddpciadaaGreat
open Go.RowKit Go.Kt Go.Ix Go.Sx
set_option maxRecDepth 100000

theorem own_lit_at {w : World} {g : Nat} (e : TypeId) (size : Nat) (cs : Array Value) (n : Nat) (hm : n ≤ maxLen) (hs : cs.size = n * size) (hg : g = w.heap.size) : Kt.Own e size (w.alloc (.cells cs e)) (.slice (some ⟨g, 0, none⟩) n n) n cs.toList := by
  subst hg; exact own_lit w e size cs n hm hs
/-- a point: its labels, its time, its version; sv: the slice that holds its labels -/
structure Pn where
  st : List Pr
  t : Int
  v : Ver
  sv : Value
def Pn.told (q : Pn) : List Pr × Int × Ver := (q.st, q.t, q.v)
def pcells (q : Pn) : List Value := [q.sv, .int .i64 q.t, .int .i64 q.v.kind, .int .i64 q.v.num, .string q.v.text, .int .i64 q.v.at_.wall, .int .u32 q.v.at_.tick, .int .u32 q.v.at_.mark]
def flatN : List Pn → List Value
  | [] => []
  | q :: t => pcells q ++ flatN t
theorem flatN_append (T S : List Pn) : flatN (T ++ S) = flatN T ++ flatN S := by
  induction T with
  | nil => rfl
  | cons x t ih => simp only [List.cons_append, flatN, ih, List.append_assoc]
theorem flatN_get (T : List Pn) : ∀ (i : Nat) (x : Pn), T[i]? = some x → ∀ j, j < 8 → (flatN T)[i * 8 + j]? = (pcells x)[j]? := by
  induction T with
  | nil => intro i x h; simp at h
  | cons y t ih =>
    intro i x h j hj
    have hl : (pcells y).length = 8 := rfl
    match i with
    | 0 =>
      simp at h; subst h
      rw [flatN, Nat.zero_mul, Nat.zero_add, List.getElem?_append_left (by omega)]
    | i + 1 =>
      simp only [List.getElem?_cons_succ] at h
      have := ih i x h j hj
      rw [flatN, List.getElem?_append_right (by omega), hl, show (i + 1) * 8 + j - 8 = i * 8 + j by omega]
      exact this
theorem pcells_one (x : Pn) (h : x.sv.oneCell' = true) : ∀ u ∈ pcells x, u.oneCell' = true := by
  intro u hu
  simp only [pcells, List.mem_cons, List.not_mem_nil, or_false] at hu
  rcases hu with rfl | rfl | rfl | rfl | rfl | rfl | rfl | rfl
  · exact h
  all_goals rfl
theorem ok29 : ElemOk Tryz.prog 56 142 (.agg #[.slice none 0 0, .int .i64 0, .int .i64 0, .int .i64 0, .string ⟨#[]⟩, .int .i64 0, .int .u32 0, .int .u32 0]) 8 80 := ⟨Tryz.underlying56, info_parts (by kernel_rfl), rfl, by decide⟩

/-- points that are read -/
def RdN (w : World) (v : Value) (Q : List Pn) : Prop := RdRow 8 w v Q.length (flatN Q) ∧ ∀ q ∈ Q, RdP w q.sv q.st
theorem RdN.below {w w' : World} {v : Value} {Q : List Pn} (h : RdN w v Q) (hb : Below w.heap.size w w') : RdN w' v Q := ⟨h.1.below hb, fun q hq => (h.2 q hq).below hb⟩
theorem RdN.open {w : World} {v : Value} {Q : List Pn} (h : RdN w v Q) : ∃ a cap, v = .slice a Q.length cap ∧ Q.length ≤ cap ∧ cap ≤ 9223372036854775807 ∧
    ∀ (i : Nat) (x : Pn), Q[i]? = some x → ∃ b o, a = some ⟨b, o, none⟩ ∧ b < w.heap.size ∧ w.cell? ⟨b, o + i * 8, none⟩ = some x.sv ∧ w.cell? ⟨b, o + i * 8 + 1, none⟩ = some (.int .i64 x.t) ∧
      w.cell? ⟨b, o + i * 8 + 2, none⟩ = some (.int .i64 x.v.kind) ∧ w.cell? ⟨b, o + i * 8 + 3, none⟩ = some (.int .i64 x.v.num) ∧ w.cell? ⟨b, o + i * 8 + 4, none⟩ = some (.string x.v.text) ∧
      w.cell? ⟨b, o + i * 8 + 5, none⟩ = some (.int .i64 x.v.at_.wall) ∧ w.cell? ⟨b, o + i * 8 + 6, none⟩ = some (.int .u32 x.v.at_.tick) ∧ w.cell? ⟨b, o + i * 8 + 7, none⟩ = some (.int .u32 x.v.at_.mark) := by
  obtain ⟨⟨_, a, cap, rfl, h1, h2, _, h5⟩, _⟩ := h
  refine ⟨a, cap, rfl, h1, h2, fun i x hi => ?_⟩
  have hget := flatN_get Q i x hi
  obtain ⟨b, o, rfl, hc⟩ := h5 _ _ (hget 0 (by omega))
  have key : ∀ j u, j < 8 → (pcells x)[j]? = some u → w.cell? ⟨b, o + i * 8 + j, none⟩ = some u := by
    intro j u hj hu
    obtain ⟨b', o', e, hc'⟩ := h5 _ _ ((hget j hj).trans hu)
    cases e
    rw [Nat.add_assoc]; exact hc'
  exact ⟨b, o, rfl, World.block_lt_of_cell? w _ hc, key 0 _ (by omega) rfl, key 1 _ (by omega) rfl, key 2 _ (by omega) rfl, key 3 _ (by omega) rfl, key 4 _ (by omega) rfl, key 5 _ (by omega) rfl, key 6 _ (by omega) rfl, key 7 _ (by omega) rfl⟩
/-- points that the call has made, each with labels of its own -/
structure Pts (e es : TypeId) (w0 w : World) (v : Value) (Q : List Pn) : Prop where
  row : Mine e 8 w0 w v Q.length (flatN Q)
  sets : ∀ q ∈ Q, OwnP es w q.sv q.st ∧ ∀ b, q.sv.ownBlock = some b → w0.heap.size ≤ b
variable {e es : TypeId} {w0 w1 w w' : World} {v v' : Value} {Q : List Pn}
theorem Pts.rd (h : Pts e es w0 w v Q) : RdN w v Q := ⟨h.row.rd, fun q hq => (h.sets q hq).1.rd⟩
theorem Pts.bel (h : Pts e es w0 w v Q) : Below w0.heap.size w0 w := h.row.2.2
theorem Pts.below (h : Pts e es w0 w v Q) (hb : Below w.heap.size w w') : Pts e es w0 w' v Q := ⟨h.row.below hb, fun q hq => ⟨(h.sets q hq).1.below hb, (h.sets q hq).2⟩⟩
theorem Pts.nil (e es : TypeId) (w : World) : Pts e es w w (.slice none 0 0) [] := ⟨⟨own_nil w e 8, (fun b hb => by cases hb), bel_refl w⟩, fun q hq => by cases hq⟩
theorem Pts.since (h : Pts e es w1 w v Q) (hb : Below w0.heap.size w0 w1) : Pts e es w0 w v Q :=
  ⟨⟨h.row.1, fun b hb' => Nat.le_trans hb.size (h.row.2.1 b hb'), bel_trans hb h.row.2.2⟩, fun q hq => ⟨(h.sets q hq).1, fun b hb' => Nat.le_trans hb.size ((h.sets q hq).2 b hb')⟩⟩
/-- one point more -/
theorem Pts.push (h : Pts e es w0 w v Q) (hne : e ≠ es) {q : Pn} (hq : OwnP es w q.sv q.st) (hq2 : ∀ b, q.sv.ownBlock = some b → w0.heap.size ≤ b)
    (ho : Kt.Own e 8 w' v' (Q.length + 1) (flatN Q ++ pcells q)) (hg : w.grownBy w' v.ownBlock) (hn : ∀ b, v'.ownBlock = some b → v.ownBlock = some b ∨ w.heap.size ≤ b) : Pts e es w0 w' v' (Q ++ [q]) := by
  have hs := h.row.2.2.size
  have keep : ∀ (u : Value) (l : List Pr), OwnP es w u l → OwnP es w' u l := fun u l hu => Own.grown hu hg (fun b hb e' => own_apart h.row.1 hu hne b e' hb)
  refine ⟨⟨?_, fun b hb => ?_, h.row.2.2.grown hg hs (fun k hk => h.row.2.1 k hk)⟩, fun x hx => ?_⟩
  · rw [List.length_append, flatN_append]
    simpa [flatN] using ho
  · rcases hn b hb with h1 | h1
    · exact h.row.2.1 b h1
    · omega
  · rcases List.mem_append.1 hx with hx | hx
    · exact ⟨keep _ _ (h.sets x hx).1, (h.sets x hx).2⟩
    · rw [List.mem_singleton.1 hx]
      exact ⟨keep _ _ hq, hq2⟩
/-- what is read of a chain, and whether -/
theorem getV_eq (l : List Ver) (t : Tm) : getV l t = .tuple #[((getC l t).getD verNil).val, .bool (getC l t).isSome] := by
  unfold getV
  cases getC l t <;> rfl
end Go.Proofs.YtbaflgddpciadaaGreat
namespace Go.Proofs.YtbaflgddpciadaaGreat
open Go.RowKit Go.Kt Go.Ix Go.Sx
set_option maxRecDepth 100000
variable {F F' : Nat → Prop} {w w' : World} {s om : Nat} {S : Sp} {L : List It} {N : Nat}

/-- a series that stands has all its times -/
theorem times_of {k : Lit} {u : Value} (h : SerAt F w om k u S) : TimesOf S k (tsOf S k) := by
  obtain ⟨D, ho, hsz, hcf⟩ := h.map
  have hkm := intKeys_mem ho
  have hts : TimesOf S k ((Go.intKeys D).mergeSort (fun x y => decide (x ≤ y))) := by
    have hp := List.mergeSort_perm (Go.intKeys D) (fun x y => decide (x ≤ y))
    have hnd := hp.nodup_iff.2 hkm.1
    refine ⟨?_, fun z => ?_⟩
    · have h1 : ((Go.intKeys D).mergeSort Go.leI).Pairwise (fun a b => Go.leI a b = true) := List.pairwise_mergeSort (fun a b c h1 h2 => by simp only [Go.leI, decide_eq_true_eq] at *; exact Int.le_trans h1 h2) (fun a b => by simp only [Go.leI, Bool.or_eq_true, decide_eq_true_eq]; exact Int.le_total a b) _
      refine List.Pairwise.imp ?_ (List.Pairwise.and h1 (List.nodup_iff_pairwise_ne.1 hnd))
      rintro a b ⟨h1, h2⟩
      simp only [Go.leI, decide_eq_true_eq] at h1
      omega
    · rw [hp.mem_iff, hkm.2]
      constructor
      · intro hh
        cases hg : S.g k (litT z) with
        | none => rw [show (Lit.int .i64 z) = litT z from rfl, (hcf _).1 hg] at hh; cases hh
        | some v => rfl
      · intro hh
        obtain ⟨v, hv⟩ := Option.isSome_iff_exists.1 hh
        exact ((hcf _).2 v hv).1
  rw [tsOf_eq hts]
  exact hts
theorem told_all (h : StAt F w s om S L N) {ks : List Lit} (hk : KeysOf S ks) : L = rowOf S ks :=
  told_row h hk (fun k hk' => by
    obtain ⟨u, hu⟩ := Option.isSome_iff_exists.1 ((hk.mem k).1 hk')
    exact times_of (h.ser k u hu))
theorem getL_small {d : List Pr} (h : RightP d) (nm : ByteArray) : (getL d nm).size ≤ 1000000 := by
  have key : ∀ l : List Pr, (∀ p ∈ l, p.v.size ≤ 64) → (getL l nm).size ≤ 1000000 := by
    intro l
    induction l with
    | nil => intro _; show (⟨#[]⟩ : ByteArray).size ≤ 1000000; exact Nat.zero_le _
    | cons p t ih =>
      intro hl
      rw [getL]
      split
      · have := hl p (by simp); omega
      · exact ih (fun q hq => hl q (by simp [hq]))
  refine key d (fun p hp => ?_)
  obtain ⟨i, hi, rfl⟩ := List.mem_iff_getElem.1 hp
  have h1 := (h.2 i hi).1
  have h3 := h1.2.2.1
  rw [bl_len] at h3
  exact h3
/-- what is told of the next place of a chain -/
theorem scan_snoc (A : List It) (x : It) (p : List Pr → Bool) (a b : Int) (t : Tm) (hp : p x.set = true) : scanL (A ++ [x]) p a b t = scanL A p a b t ++ (tell x a b t).toList := by
  rw [scanL_append]
  congr 1
  unfold scanL
  rw [List.filterMap_cons, List.filterMap_nil, if_pos hp]
  cases tell x a b t <;> rfl
theorem scan_none (A : List It) (p : List Pr → Bool) (a b : Int) (t : Tm) (hp : ∀ x ∈ A, p x.set = false) : scanL A p a b t = [] := by
  unfold scanL
  rw [List.filterMap_eq_nil_iff]
  intro x hx
  rw [if_neg (by rw [hp x hx]; simp)]
theorem scan_bound (h : StAt F w s om S L N) {A : List It} (hA : A.Sublist L) (p : List Pr → Bool) (a b : Int) (t : Tm) : (scanL A p a b t).length ≤ 65536 := by
  have h1 := scanL_len A (fun x hx => h.ok.full x (hA.subset hx)) p a b t
  have h2 := lenL_sub hA
  have h3 := h.len
  omega
theorem rowOf_sub (S : Sp) (ks : List Lit) (k : Nat) (hk : k < ks.length) (j : Nat) : (rowOf S (ks.take k) ++ ((tsOf S ks[k]).take j).map (itemOf S ks[k])).Sublist (rowOf S ks) := by
  have h1 : (rowOf S (ks.take k) ++ ((tsOf S ks[k]).take j).map (itemOf S ks[k])).Sublist (rowOf S (ks.take (k + 1))) := by
    rw [rowOf_take S ks k hk]
    exact (List.Sublist.refl _).append ((List.take_sublist _ _).map _)
  refine h1.trans ?_
  have e : rowOf S ks = rowOf S (ks.take (k + 1)) ++ rowOf S (ks.drop (k + 1)) := by unfold rowOf; rw [← List.flatMap_append, List.take_append_drop]
  rw [e]
  exact List.sublist_append_left _ _

theorem set6 {w : World} {g : Nat} {c0 c1 c2 c3 c4 c5 : Value} {t : TypeId} (h : Blk w g #[c0, c1, c2, c3, c4, c5] t) (d0 d1 d2 d3 d4 d5 : Value) :
    Blk ((((((w.setCell ⟨g, 0, none⟩ d0).setCell ⟨g, 1, none⟩ d1).setCell ⟨g, 2, none⟩ d2).setCell ⟨g, 3, none⟩ d3).setCell ⟨g, 4, none⟩ d4).setCell ⟨g, 5, none⟩ d5) g #[d0, d1, d2, d3, d4, d5] t := by
  have := (((((h.set 0 d0).set 1 d1).set 2 d2).set 3 d3).set 4 d4).set 5 d5
  simpa using this
theorem new_drew (w : World) (cs : Array Value) (t : TypeId) : Blk ((w.alloc (.cells cs t)).drew) w.heap.size cs t := Blk.new w cs t
theorem drew_new (w : World) (cs : Array Value) (t : TypeId) : Blk (w.drew.alloc (.cells cs t)) w.heap.size cs t := Blk.new w cs t
theorem box_push {x W w8 : World} {g : Nat} {cs : Array Value} {e t : TypeId} {size n : Nat} {v : Value} {xs : List Value} (hb : Blk x g cs t) (hW : Below x.heap.size x W) (hg : W.grownBy w8 v.ownBlock) (ho : Kt.Own e size W v n xs) (hne : e ≠ t) : Blk w8 g cs t :=
  (hb.next hW).grown hg (own_no_blk ho (hb.next hW) hne)
set_option maxHeartbeats 8000000 in
theorem scan_any (w : World) (h : StAt F w s om S L N) (hN : N ≤ 1000000) (rv : Value) (rules : List Rl) (hr : RdR w rv rules) (hg : Glob w) (a b : Int) (t : Tm) :
    Calls Tryz.prog 76 #[.pointer (some ⟨s, 0, none⟩), rv, .int .i64 a, .int .i64 b, t.val] w fun e w' => ∃ v Q, e = .returned v ∧ Pts 142 104 w w' v Q ∧ Q.map Pn.told = scanL L (fun d => allB rules d) a b t := by
  obtain ⟨tw, tt, tm⟩ := t
  unfold Tm.val
  simp only
  have HAll := Lib.hid (fun W (hW : Below w.heap.size w W) => all_any W (h.next hW) hN)
  have H := Lib.hid h
  have HR := Lib.hid hr
  have HG := Lib.hid hg
  have HT := Lib.hid (Blk.new w #[.int .i64 tw, .int .u32 tt, .int .u32 tm] 44)
  have HB1 := Lib.hid (below_alloc w (.cells #[.int .i64 tw, .int .u32 tt, .int .u32 tm] 44))
  have HNn := Lib.hid hN
  clear h hr hg hN
  go_enter Tryz.func76, Tryz.ntmps76
  go_wp2_with (first
    | (go_at_call 148; refine (HAll.out _ HB1.out).mono ?_; rintro e w2 ⟨v2, ks, rfl, hk, hm⟩; obtain ⟨-, ka, kc, rfl, hkc, hkm, -, hcell⟩ := hm.rd; have hkl : ks.length ≤ 9223372036854775807 := Nat.le_trans hkc hkm; clear hkc hkm; have HK := Lib.hid hk; have Hcell := Lib.hid hcell; have HB2 := Lib.hid (bel_trans HB1.out hm.2.2); have HT2 := Lib.hid (HT.out.next hm.2.2); have HL := Lib.hid (told_all (H.out.next HB2.out) hk); clear hk hm hcell)
    | fail)
  have HP0 : Hid (Pts 142 104 w2 w2 (.slice none 0 0) []) := Lib.hid (Pts.nil 142 104 w2)
  clear HAll
  go_loopw [11, 21] (fun ov i wr => ∃ (k : Nat) (Q : List Pn), k ≤ ks.length ∧ i = .int .i64 k ∧ Hid (Pts 142 104 w2 wr ov Q) ∧ Hid (Q.map Pn.told = scanL (rowOf S (ks.take k)) (fun d => allB rules d) a b ⟨tw, tt, tm⟩)) (fun _ i _ => ks.length - (intOf i).toNat)
  case atStart => exact ⟨0, [], by omega, rfl, HP0, Lib.hid rfl⟩
  case round =>
    clear HP0
    obtain ⟨k, Q, hk, rfl, HP, HQ⟩ := hrel
    have HBr := Lib.hid (bel_trans HB2.out HP.out.bel)
    by_cases hlt : k < ks.length
    · obtain ⟨x, hx⟩ : ∃ x, ks[k] = x := ⟨_, rfl⟩
      have hxm : x ∈ ks := hx ▸ List.getElem_mem hlt
      obtain ⟨u, hu⟩ := Option.isSome_iff_exists.1 ((HK.out.mem x).1 hxm)
      have HU := Lib.hid hu
      have HS := Lib.hid ((H.out.next HBr.out).ser x u hu)
      obtain ⟨kb, ko, rfl, hc2⟩ := Hcell.out k (pv (S.x x)) (by rw [List.getElem?_map, List.getElem?_eq_getElem hlt, hx]; rfl)
      have hc : wr.cell? ⟨kb, ko + k, none⟩ = some (.pointer (some ⟨S.x x, 0, none⟩)) := (HP.out.bel.cell (p := ⟨kb, ko + k, none⟩) (World.block_lt_of_cell? _ _ hc2)).trans hc2
      have k0 : wr.cell? ⟨S.x x, 0, none⟩ = some (S.sv x) := HS.out.blk.cell 0
      have k1 : wr.cell? ⟨S.x x, 1, none⟩ = some (.map (some (S.b x))) := HS.out.blk.cell 1
      have hk1 : (0 : Int) ≤ (k : Int) := by omega
      have hk2 : (k : Int) < (ks.length : Int) := by omega
      have HX : Hid (rowOf S (ks.take (k + 1)) = rowOf S (ks.take k) ++ (tsOf S x).map (itemOf S x)) := Lib.hid (by rw [rowOf_take S ks k hlt, hx])
      have HSub : Hid (∀ j, (rowOf S (ks.take k) ++ ((tsOf S x).take j).map (itemOf S x)).Sublist L) := Lib.hid (fun j => by rw [HL.out]; have := rowOf_sub S ks k hlt j; rw [hx] at this; exact this)
      obtain ⟨p, hp⟩ : ∃ p, allB rules (S.d x) = p := ⟨_, rfl⟩
      have HPp := Lib.hid hp
      have HA := Lib.hid (fun (W : World) (hW : Below wr.heap.size wr W) => hp ▸ all_prog rv (S.sv x) rules (S.d x) W (HR.out.below (bel_trans HBr.out hW)) (HS.out.set.rd.below hW) (HG.out.below (bel_trans HBr.out hW)) (getL_small HS.out.right))
      have hkb := World.block_lt_of_cell? _ _ hc
      clear hx hxm hu hc2 hp
      cases p with
      | false =>
        have HQn : Hid (Q.map Pn.told = scanL (rowOf S (ks.take (k + 1))) (fun d => allB rules d) a b ⟨tw, tt, tm⟩) := Lib.hid (by
          rw [HX.out, scanL_append, ← HQ.out, scan_none _ _ _ _ _ (fun y hy => by obtain ⟨z, _, rfl⟩ := List.mem_map.1 hy; exact HPp.out), List.append_nil])
        go_wp2_with (first | (go_at_call 149; refine (HA.out _ (bel_refl wr)).mono ?_; rintro e w3 ⟨rfl, hb3⟩; have HB3 := Lib.hid hb3; clear hb3) | fail)
        go_roundw
        case rel => exact ⟨k + 1, Q, by omega, by go_num, Lib.hid (HP.out.below HB3.out), HQn⟩
        case measure => simp [intOf]; omega
      | true =>
        go_wp2_with (first
          | (go_at_call 149; refine (HA.out _ (bel_refl wr)).mono ?_; rintro e w3 ⟨rfl, hb3⟩; have HB3 := Lib.hid hb3; have HS3 := Lib.hid ((H.out.next (bel_trans HBr.out hb3)).ser x u HU.out); have k1 : w3.cell? ⟨S.x x, 1, none⟩ = some (.map (some (S.b x))) := HS3.out.blk.cell 1; clear hb3)
          | (go_at_call 151; refine (tkeys_any (some (S.b x)) _).mono ?_; rintro e w4 ⟨rfl, rfl⟩)
          | (go_at_call 150; refine (times_any w3 HS3.out (Nat.le_trans (H.out.nb.2 x u HU.out) HNn.out)).mono ?_; rintro e w5 ⟨v5, rfl, ht5, hm5⟩; obtain ⟨-, ta, tc, rfl, htc, htm, -, -⟩ := hm5.rd; have htl : (tsOf S x).length ≤ 9223372036854775807 := Nat.le_trans htc htm; clear htc htm; have HT5 := Lib.hid ht5; have HM5 := Lib.hid hm5; clear ht5 hm5)
          | fail)
        have HP5 := Lib.hid (HP.out.below (bel_trans HB3.out HM5.out.2.2))
        have HO5 : Hid (Kt.Own 2 1 w5 (.slice ta (tsOf S x).length tc) (tsOf S x).length ((tsOf S x).map Go.encZ)) := Lib.hid HM5.out.1
        have HQ5 : Hid (Q.map Pn.told = scanL (rowOf S (ks.take k) ++ ((tsOf S x).take 0).map (itemOf S x)) (fun d => allB rules d) a b ⟨tw, tt, tm⟩) := Lib.hid (by rw [HQ.out, List.take_zero, List.map_nil, List.append_nil])
        clear HA HS3 HM5 HP HQ HS k0 hc
        obtain ⟨n, hn⟩ : ∃ n, (tsOf S x).length = n := ⟨_, rfl⟩
        rw [hn] at HO5 htl ⊢
        have Hn := Lib.hid hn
        clear hn
        go_loopw [11, 39] (fun ov i wq => ∃ (j : Nat) (Q : List Pn), j ≤ n ∧ i = .int .i64 j ∧ Hid (Pts 142 104 w2 wq ov Q) ∧ Hid (Kt.Own 2 1 wq (.slice ta n tc) n ((tsOf S x).map Go.encZ)) ∧ Hid (Q.map Pn.told = scanL (rowOf S (ks.take k) ++ ((tsOf S x).take j).map (itemOf S x)) (fun d => allB rules d) a b ⟨tw, tt, tm⟩)) (fun _ i _ => n - (intOf i).toNat)
        case atStart => exact ⟨0, Q, by omega, rfl, HP5, HO5, HQ5⟩
        case round =>
          clear HP5 HO5 HQ5
          obtain ⟨j, Q, hj, rfl, HP, HO, HQ⟩ := hrel
          have HBq := Lib.hid (bel_trans HB2.out HP.out.bel)
          by_cases hjt : j < n
          · obtain ⟨z, hz⟩ : ∃ z, (tsOf S x)[j]? = some z := ⟨(tsOf S x)[j]'(by rw [Hn.out]; exact hjt), List.getElem?_eq_getElem _⟩
            have hzm : z ∈ tsOf S x := List.mem_of_getElem? hz
            obtain ⟨vv, hvv⟩ := Option.isSome_iff_exists.1 ((HT5.out.mem z).1 hzm)
            have Hq := Lib.hid (H.out.next HBq.out)
            have HSq := Lib.hid (Hq.out.ser x u HU.out)
            obtain ⟨-, ta', tc', e, -, -, -, hcell⟩ := HO.out.rd
            cases e
            obtain ⟨tb, tof, rfl, hc⟩ := hcell j (.int .i64 z) (by rw [List.getElem?_map, hz]; rfl)
            obtain ⟨hr1, -, hr3⟩ := HSq.out.rows _ _ hvv
            obtain ⟨z', hz', hz0, hz1⟩ := hr3
            obtain rfl := litT_inj hz'
            obtain ⟨-, hch, hcl, -⟩ := Hq.out.chain HU.out hvv
            have HV := Lib.hid hr1
            have HSnoc : Hid (scanL (rowOf S (ks.take k) ++ ((tsOf S x).take (j + 1)).map (itemOf S x)) (fun d => allB rules d) a b ⟨tw, tt, tm⟩ = scanL (rowOf S (ks.take k) ++ ((tsOf S x).take j).map (itemOf S x)) (fun d => allB rules d) a b ⟨tw, tt, tm⟩ ++ (tell (itemOf S x z) a b ⟨tw, tt, tm⟩).toList) := Lib.hid (by
              obtain ⟨hj', e⟩ := List.getElem?_eq_some_iff.1 hz
              rw [List.take_succ_eq_append_getElem hj', List.map_append, ← List.append_assoc, e]
              exact scan_snoc _ _ _ _ _ _ HPp.out)
            have HQb : Hid (Q.length ≤ 65536) := Lib.hid (by
              have h1 := scan_bound H.out (HSub.out j) (fun d => allB rules d) a b ⟨tw, tt, tm⟩
              rw [← HQ.out, List.length_map] at h1
              exact h1)
            have HC := Lib.hid (fun (W : World) (hW : Below wr.heap.size wr W) => getV_eq (S.l x (litT z)) ⟨tw, tt, tm⟩ ▸ getc_any vv (S.l x (litT z)) ⟨tw, tt, tm⟩ W (HV.out.rd.below hW) hch (by omega))
            have HTell : Hid (tell (itemOf S x z) a b ⟨tw, tt, tm⟩ = if a ≤ z ∧ z < b then (getC (S.l x (litT z)) ⟨tw, tt, tm⟩).map (fun v => (S.d x, z, v)) else none) := Lib.hid rfl
            obtain ⟨vx, hvx⟩ : ∃ vx, (getC (S.l x (litT z)) ⟨tw, tt, tm⟩).getD verNil = vx := ⟨_, rfl⟩
            obtain ⟨okb, hok⟩ : ∃ okb, (getC (S.l x (litT z)) ⟨tw, tt, tm⟩).isSome = okb := ⟨_, rfl⟩
            rw [hvx, hok] at HC
            have HG1 : Hid (okb = true → getC (S.l x (litT z)) ⟨tw, tt, tm⟩ = some vx) := Lib.hid (fun h => by
              subst h
              obtain ⟨y, hy⟩ := Option.isSome_iff_exists.1 hok
              rw [hy] at hvx ⊢
              rw [← hvx]; rfl)
            have HG0 : Hid (okb = false → getC (S.l x (litT z)) ⟨tw, tt, tm⟩ = none) := Lib.hid (fun h => by
              subst h
              exact Option.not_isSome_iff_eq_none.1 (by rw [hok]; simp))
            have HLk : Hid (∀ W, Below wr.heap.size wr W → (Instr.lookup 261 (.map (some (S.b x))) (.int .i64 z) false).run Tryz.prog W = .ok vv W) := Lib.hid (fun W hW => by
              have := (HSq.out.map.below hW).look1 key2 Tryz.underlying261 (zero96 W) (keyOf2 (n := z) (by omega))
              rw [hvv] at this
              exact this)
            have HKs : Hid (∀ W, Below wr.heap.size wr W → W.cell? ⟨S.x x, 1, none⟩ = some (.map (some (S.b x))) ∧ W.cell? ⟨w.heap.size, 0, none⟩ = some (.int .i64 tw) ∧ W.cell? ⟨w.heap.size, 1, none⟩ = some (.int .u32 tt) ∧ W.cell? ⟨w.heap.size, 2, none⟩ = some (.int .u32 tm) ∧ (Instr.lookup 261 (.map (some (S.b x))) (.int .i64 z) false).run Tryz.prog W = .ok vv W) :=
              Lib.hid (fun W hW => ⟨(HSq.out.blk.next hW).cell 1, (HT2.out.next (bel_trans HP.out.bel hW)).cell 0, (HT2.out.next (bel_trans HP.out.bel hW)).cell 1, (HT2.out.next (bel_trans HP.out.bel hW)).cell 2, HLk.out W hW⟩)
            have hj1 : (0 : Int) ≤ (j : Int) := by omega
            have hj2 : (j : Int) < (n : Int) := by omega
            have hxr := bel_refl wr
            obtain ⟨q0, q1, q2, q3, q4⟩ := HKs.out _ hxr
            have hxl := HSq.out.blk.lt
            have hl31 : w.heap.size < wr.heap.size := (HT2.out.next HP.out.bel).lt
            obtain ⟨⟨xw, xt, xm⟩, xk, xn, xx⟩ := vx
            unfold Tm.val Ver.val at HC
            simp only at HC
            clear hvx hok hvv hch hcl hz hzm hr1 hz' hcell k1 hkb HT HB1 hk1 hk2
            go_upto_region 9 with fail
            go_cut [16, 17] (fun pv ov wc => ∃ g, pv = .pointer (some ⟨g, 0, none⟩) ∧ ov = .bool okb ∧ Hid (Blk wc g #[.int .i64 xw, .int .u32 xt, .int .u32 xm, .int .i64 xk, .int .i64 xn, .string xx] 270) ∧ Hid (Below wr.heap.size wr wc) ∧ Hid (wr.heap.size ≤ g))
            case first =>
              rename_i J0 J1 hJ0 hJ1
              go_region_held3 (fun W => W.cell? ⟨S.x x, 1, none⟩ = some (.map (some (S.b x))) ∧ W.cell? ⟨w.heap.size, 0, none⟩ = some (.int .i64 tw) ∧ W.cell? ⟨w.heap.size, 1, none⟩ = some (.int .u32 tt) ∧ W.cell? ⟨w.heap.size, 2, none⟩ = some (.int .u32 tm) ∧ (Instr.lookup 261 (.map (some (S.b x))) (.int .i64 z) false).run Tryz.prog W = .ok vv W)
                (first | (with_reducible exact ⟨q0, q1, q2, q3, q4⟩) | (with_reducible refine HKs.out _ ?_; (repeat (first | assumption | apply bel_alloc | apply bel_drew | refine bel_set ?_ (by first | assumption | exact Nat.le_refl _))); done) | go_keep)
                (first
                  | (go_simp; go_at_call 152; refine (HC.out _ (by repeat (first | exact bel_refl _ | assumption | apply bel_alloc | apply bel_drew))).mono ?_; rintro e w6 ⟨rfl, hb6⟩; have hx6 : Below wr.heap.size wr w6 := bel_trans (by repeat (first | exact bel_refl _ | assumption | apply bel_alloc | apply bel_drew)) hb6; (first | (have bz := (new_drew _ _ 270).next hb6) | (have bz := (drew_new _ _ 270).next hb6) | (have bz := (Blk.new _ _ 270).next hb6) | skip); (first | (have z0 : World.cell? _ _ = some (.int .i64 0) := bz.cell 0; have z1 : World.cell? _ _ = some (.int .u32 0) := bz.cell 1; have z2 : World.cell? _ _ = some (.int .u32 0) := bz.cell 2; have z3 : World.cell? _ _ = some (.int .i64 0) := bz.cell 3; have z4 : World.cell? _ _ = some (.int .i64 0) := bz.cell 4; have z5 : World.cell? _ _ = some (.string ⟨#[]⟩) := bz.cell 5; have f0 := bz.free 0; have f1 := bz.free 1; have f2 := bz.free 2; have f3 := bz.free 3; have f4 := bz.free 4; have f5 := bz.free 5) | skip)))
              all_goals (refine hJ1 _ _ (Met.intro (hJ0 _ _ ?_)))
              all_goals (repeat apply Exists.intro)
              all_goals (refine ⟨⟨_, rfl, rfl, ?_, ?_, ?_⟩, rfl⟩)
              all_goals (with_reducible refine Lib.hid ?_)
              all_goals first
                | (with_reducible exact Blk.new _ _ 270)
                | (with_reducible exact set6 bz _ _ _ _ _ _)
                | (with_reducible exact bel_alloc hx6)
                | (with_reducible exact bel_set (bel_set (bel_set (bel_set (bel_set (bel_set hx6 (Nat.le_refl _)) (Nat.le_refl _)) (Nat.le_refl _)) (Nat.le_refl _)) (Nat.le_refl _)) (Nat.le_refl _))
                | exact Nat.le_refl _
                | exact hx6.size
            case rest =>
              obtain ⟨g, rfl, rfl, HBv, HBw, HGe⟩ := hcut
              clear q0 q1 q2 q3 q4 hxr HKs HLk HC HV hc
              by_cases hza : z < a
              · have hb1 : decide (z < a) = true := by simp [hza]
                have HQn : Hid (Q.map Pn.told = scanL (rowOf S (ks.take k) ++ ((tsOf S x).take (j + 1)).map (itemOf S x)) (fun d => allB rules d) a b ⟨tw, tt, tm⟩) := Lib.hid (by rw [HSnoc.out, HTell.out, if_neg (by omega), HQ.out]; simp)
                go_wp2_with fail
                go_roundw
                case rel => exact ⟨j + 1, Q, by omega, by go_num, Lib.hid (HP.out.below HBw.out), Lib.hid (HO.out.below' HBw.out), HQn⟩
                case measure => simp [intOf]; omega
              · have hb1 : decide (z < a) = false := by simp; omega
                by_cases hzb : b ≤ z
                · have hb2 : decide (b ≤ z) = true := by simp [hzb]
                  have HQn : Hid (Q.map Pn.told = scanL (rowOf S (ks.take k) ++ ((tsOf S x).take (j + 1)).map (itemOf S x)) (fun d => allB rules d) a b ⟨tw, tt, tm⟩) := Lib.hid (by rw [HSnoc.out, HTell.out, if_neg (by omega), HQ.out]; simp)
                  go_wp2_with fail
                  go_roundw
                  case rel => exact ⟨j + 1, Q, by omega, by go_num, Lib.hid (HP.out.below HBw.out), Lib.hid (HO.out.below' HBw.out), HQn⟩
                  case measure => simp [intOf]; omega
                · have hb2 : decide (b ≤ z) = false := by simp; omega
                  cases okb with
                  | false =>
                    have HQn : Hid (Q.map Pn.told = scanL (rowOf S (ks.take k) ++ ((tsOf S x).take (j + 1)).map (itemOf S x)) (fun d => allB rules d) a b ⟨tw, tt, tm⟩) := Lib.hid (by rw [HSnoc.out, HTell.out, HG0.out rfl, HQ.out]; simp)
                    go_wp2_with fail
                    go_roundw
                    case rel => exact ⟨j + 1, Q, by omega, by go_num, Lib.hid (HP.out.below HBw.out), Lib.hid (HO.out.below' HBw.out), HQn⟩
                    case measure => simp [intOf]; omega
                  | true =>
                    have HQn : Hid (scanL (rowOf S (ks.take k) ++ ((tsOf S x).take (j + 1)).map (itemOf S x)) (fun d => allB rules d) a b ⟨tw, tt, tm⟩ = Q.map Pn.told ++ [(S.d x, z, ⟨⟨xw, xt, xm⟩, xk, xn, xx⟩)]) := Lib.hid (by rw [HSnoc.out, HTell.out, if_pos (by omega), HG1.out rfl, HQ.out]; rfl)
                    have HPw := Lib.hid (HP.out.below HBw.out)
                    have HOw := Lib.hid (HO.out.below' HBw.out)
                    have HSw : Hid (Blk wc (S.x x) #[S.sv x, .map (some (S.b x))] 263) := Lib.hid (HSq.out.blk.next HBw.out)
                    have HSt : Hid (OwnP 104 wc (S.sv x) (S.d x)) := Lib.hid (HSq.out.set.below HBw.out)
                    have hdl : (S.d x).length ≤ 16 := HSq.out.right.1
                    have HKs : Hid (∀ W, Below wc.heap.size wc W → W.cell? ⟨S.x x, 0, none⟩ = some (S.sv x) ∧ W.cell? ⟨g, 0, none⟩ = some (.int .i64 xw) ∧ W.cell? ⟨g, 1, none⟩ = some (.int .u32 xt) ∧ W.cell? ⟨g, 2, none⟩ = some (.int .u32 xm) ∧ W.cell? ⟨g, 3, none⟩ = some (.int .i64 xk) ∧ W.cell? ⟨g, 4, none⟩ = some (.int .i64 xn) ∧ W.cell? ⟨g, 5, none⟩ = some (.string xx)) :=
                      Lib.hid (fun W hW => ⟨(HSw.out.next hW).cell 0, (HBv.out.next hW).cell 0, (HBv.out.next hW).cell 1, (HBv.out.next hW).cell 2, (HBv.out.next hW).cell 3, (HBv.out.next hW).cell 4, (HBv.out.next hW).cell 5⟩)
                    have hxr := bel_refl wc
                    obtain ⟨q0, q1, q2, q3, q4, q5, q6⟩ := HKs.out _ hxr
                    have hxl' := HSw.out.lt
                    have hgl := HBv.out.lt
                    have hqb := HQb.out
                    clear HP HO HQ HSnoc HTell HG1 HG0 HQb HSq Hq
                    go_upto_region 11 with fail
                    go_region_held3 (fun W => W.cell? ⟨S.x x, 0, none⟩ = some (S.sv x) ∧ W.cell? ⟨g, 0, none⟩ = some (.int .i64 xw) ∧ W.cell? ⟨g, 1, none⟩ = some (.int .u32 xt) ∧ W.cell? ⟨g, 2, none⟩ = some (.int .u32 xm) ∧ W.cell? ⟨g, 3, none⟩ = some (.int .i64 xk) ∧ W.cell? ⟨g, 4, none⟩ = some (.int .i64 xn) ∧ W.cell? ⟨g, 5, none⟩ = some (.string xx))
                      (first | (with_reducible exact ⟨q0, q1, q2, q3, q4, q5, q6⟩) | (with_reducible exact ⟨y0, y1, y2, y3, y4, y5, y6⟩) | (with_reducible refine HKs.out _ ?_; (repeat (first | assumption | apply bel_alloc | apply bel_drew)); done) | go_keep)
                      (first
                        | (go_simp; go_at_call 153; refine (clone_any (S.sv x) (S.d x) _ (HSt.out.rd.below (by repeat (first | exact bel_refl _ | assumption | apply bel_alloc | apply bel_drew))) (by omega)).mono ?_; rintro e w7 ⟨v7, rfl, hm7⟩; obtain ⟨a7, c7, rfl, _⟩ := hm7.rd.open; have hx7 : Below wc.heap.size wc w7 := bel_trans (by repeat (first | exact bel_refl _ | assumption | apply bel_alloc | apply bel_drew)) hm7.bel; have HM7 := Lib.hid hm7; clear hm7)
                        | (refine step_app (by rfl) _ _ 56 (by rfl) ok29 (by rfl) (by rfl) (HPw.out.row.1.below' (by repeat (first | assumption | apply bel_alloc | apply bel_drew))) (own_lit_at (g := _) 142 8 #[.slice a7 (S.d x).length c7, .int .i64 z, .int .i64 xk, .int .i64 xn, .string xx, .int .i64 xw, .int .u32 xt, .int .u32 xm] 1 (by simp [maxLen]) rfl (by simp)).rd (pcells_one ⟨S.d x, z, ⟨⟨xw, xt, xm⟩, xk, xn, xx⟩, .slice a7 (S.d x).length c7⟩ rfl) (by simp only [maxLen]; omega) (by omega) ?_; intro v8 w8 ho8 hg8 hn8; obtain ⟨-, b8, c8, rfl, -⟩ := ho8.rd; have hy1 := box_push HSw.out (by repeat (first | exact bel_refl _ | assumption | apply bel_alloc | apply bel_drew)) hg8 (HPw.out.row.1.below' (by repeat (first | exact bel_refl _ | assumption | apply bel_alloc | apply bel_drew))) (by decide); have hy2 := box_push HBv.out (by repeat (first | exact bel_refl _ | assumption | apply bel_alloc | apply bel_drew)) hg8 (HPw.out.row.1.below' (by repeat (first | exact bel_refl _ | assumption | apply bel_alloc | apply bel_drew))) (by decide); have y0 : w8.cell? ⟨S.x x, 0, none⟩ = some (S.sv x) := hy1.cell 0; have y1 : w8.cell? ⟨g, 0, none⟩ = some (.int .i64 xw) := hy2.cell 0; have y2 : w8.cell? ⟨g, 1, none⟩ = some (.int .u32 xt) := hy2.cell 1; have y3 : w8.cell? ⟨g, 2, none⟩ = some (.int .u32 xm) := hy2.cell 2; have y4 : w8.cell? ⟨g, 3, none⟩ = some (.int .i64 xk) := hy2.cell 3; have y5 : w8.cell? ⟨g, 4, none⟩ = some (.int .i64 xn) := hy2.cell 4; have y6 : w8.cell? ⟨g, 5, none⟩ = some (.string xx) := hy2.cell 5; have HPn : Hid (Pts 142 104 w2 w8 (.slice b8 (Q.length + 1) c8) (Q ++ [⟨S.d x, z, ⟨⟨xw, xt, xm⟩, xk, xn, xx⟩, .slice a7 (S.d x).length c7⟩])) := Lib.hid ((HPw.out.below (by repeat (first | exact bel_refl _ | assumption | apply bel_alloc | apply bel_drew))).push (by decide) (OwnP.below HM7.out.1 (below_alloc _ _)) (fun b hb => Nat.le_trans HPw.out.bel.size (HM7.out.2.1 b hb)) ho8 hg8 hn8); have HOn : Hid (Kt.Own 2 1 w8 (.slice (some ⟨tb, tof, none⟩) n tc) n ((tsOf S x).map Go.encZ)) := Lib.hid (Kt.Own.grown (HOw.out.below' (by repeat (first | exact bel_refl _ | assumption | apply bel_alloc | apply bel_drew))) hg8 (own_apart (HOw.out.below' hx7) (HPw.out.row.1.below' hx7) (by decide))); clear hy1 hy2 ho8 hg8 hn8))
                    go_wp2_with fail
                    go_roundw
                    case rel => exact ⟨j + 1, _, by omega, by go_num, HPn, HOn, Lib.hid (by rw [HQn.out, List.map_append]; rfl)⟩
                    case measure => simp [intOf]; omega
          · obtain rfl : j = n := by omega
            have HQn : Hid (Q.map Pn.told = scanL (rowOf S (ks.take (k + 1))) (fun d => allB rules d) a b ⟨tw, tt, tm⟩) := Lib.hid (by rw [HQ.out, HX.out, ← Hn.out, List.take_length])
            go_wp2_with fail
            go_roundw
            case rel => exact ⟨k + 1, Q, by omega, by go_num, HP, HQn⟩
            case measure => simp [intOf]; omega
    · obtain rfl : k = ks.length := by omega
      have HQn : Hid (Q.map Pn.told = scanL L (fun d => allB rules d) a b ⟨tw, tt, tm⟩) := Lib.hid (by rw [HQ.out, List.take_length, ← HL.out])
      go_wp2_with fail
      go_ret
      exact ⟨_, Q, rfl, HP.out.since HB2.out, HQn.out⟩
end Go.Proofs.YtbaflgddpciadaaGreat
namespace Go.Proofs.YtbaflgddpciadaaGreat
open Go.RowKit Go.Kt Go.Ix Go.Sx
set_option maxRecDepth 100000
variable {F F' : Nat → Prop} {w w' : World} {s om : Nat} {S : Sp} {L : List It} {N : Nat}

/-- store.Put -/
theorem put_any (m : Wr) (t : Tm) (w : World) (h : St F w s L N) (hN : N ≤ 1000000) (hv : RdP w m.sv m.st) (hf : Fit m.st) (hx : m.x.size ≤ maxLen) :
    Calls Tryz.prog 131 #[.pointer (some ⟨s, 0, none⟩), wagg m, t.val] w fun e w' => e = .returned (.int .i64 (putS L m t).1) ∧ ∃ F', St F' w' s (putS L m t).2 (N + 1) ∧ (∀ x, F' x → F x ∨ w.heap.size ≤ x) ∧ Turn F w w' := by
  obtain ⟨om, S, h⟩ := h
  by_cases hr : RightW m
  · by_cases hful : 65536 ≤ lenL L
    · have e : putS L m t = (4, L) := by unfold putS; rw [if_neg (by rw [pb_yes hr]; simp), if_pos hful]
      rw [e]
      refine (put_bad m t w h hv hf hx (.inr ⟨pb_yes hr, hful⟩)).mono ?_
      rintro e w' ⟨rfl, hb⟩
      rw [if_neg (by rw [pb_yes hr]; simp)]
      exact ⟨rfl, F, ⟨om, S, (h.next hb).more (Nat.le_succ _)⟩, fun x hx => .inl hx, Turn.of hb⟩
    · have e : putS L m t = putL ltS L m.st m.t (verOf m t) := by unfold putS; rw [if_neg (by rw [pb_yes hr]; simp), if_neg hful]
      rw [e]
      cases hu : S.f (.string (textL m.st)) with
      | none => exact put_none m t w h hN hv hf hx hr (by omega) hu
      | some u => exact put_some m t w h hN hv hf hx hr (by omega) hu
  · have e : putS L m t = (1, L) := by unfold putS; rw [if_pos (pb_no hr)]
    rw [e]
    refine (put_bad m t w h hv hf hx (.inl (pb_no hr))).mono ?_
    rintro e w' ⟨rfl, hb⟩
    rw [if_pos (pb_no hr)]
    exact ⟨rfl, F, ⟨om, S, (h.next hb).more (Nat.le_succ _)⟩, fun x hx => .inl hx, Turn.of hb⟩
/-! ### the example -/
end Go.Proofs.YtbaflgddpciadaaGreat
namespace Go.Proofs.YtbaflgddpciadaaGreat
open Go.RowKit Go.Kt Go.Ix Go.Sx
set_option maxRecDepth 100000

theorem St.more {F : Nat → Prop} {w : World} {s N M : Nat} {L : List It} (h : St F w s L N) (hm : N ≤ M) : St F w s L M := by
  obtain ⟨om, S, h⟩ := h
  exact ⟨om, S, h.more hm⟩
end Go.Proofs.YtbaflgddpciadaaGreat
set_option linter.unusedVariables false
set_option linter.unusedSimpArgs false
namespace Go.Proofs.YtbaflgddpciadaaGreat
open Go.RowKit Go.Kt Go.Ix Go.Sx
set_option maxRecDepth 100000
theorem RdN.get {w : World} {a : Option Addr} {c : Nat} {Q : List Pn} (h : RdN w (.slice a Q.length c) Q) {i : Nat} {x : Pn} (hi : Q[i]? = some x) : ∃ b o, a = some ⟨b, o, none⟩ ∧ b < w.heap.size ∧ w.cell? ⟨b, o + i * 8, none⟩ = some x.sv ∧ w.cell? ⟨b, o + i * 8 + 1, none⟩ = some (.int .i64 x.t) ∧
      w.cell? ⟨b, o + i * 8 + 2, none⟩ = some (.int .i64 x.v.kind) ∧ w.cell? ⟨b, o + i * 8 + 3, none⟩ = some (.int .i64 x.v.num) ∧ w.cell? ⟨b, o + i * 8 + 4, none⟩ = some (.string x.v.text) ∧
      w.cell? ⟨b, o + i * 8 + 5, none⟩ = some (.int .i64 x.v.at_.wall) ∧ w.cell? ⟨b, o + i * 8 + 6, none⟩ = some (.int .u32 x.v.at_.tick) ∧ w.cell? ⟨b, o + i * 8 + 7, none⟩ = some (.int .u32 x.v.at_.mark) := by
  obtain ⟨a', c', e, _, _, hc⟩ := h.open
  injection e with e _ _
  subst e
  exact hc i x hi
end Go.Proofs.YtbaflgddpciadaaGreat
