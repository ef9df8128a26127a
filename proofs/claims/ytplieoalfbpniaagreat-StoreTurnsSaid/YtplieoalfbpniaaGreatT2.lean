/- store.Kept (32). -/
import Derived.Test.YtplieoalfbpniaaGreatT1
set_option linter.unusedVariables false
set_option linter.unusedSimpArgs false
namespace Go.Proofs.YtplieoalfbpniaaGreat
open Go.RowKit Go.Kt Go.Ix Go.Sx
set_option maxRecDepth 100000
variable {F : Nat → Prop} {w w' : World} {s om : Nat} {S : Sp} {L : List It} {N : Nat}

/-! ### what is kept, in memory: writes and stamps -/
def cells5 (q : Pn) : List Value := [q.sv, .int .i64 q.t, .int .i64 q.v.kind, .int .i64 q.v.num, .string q.v.text]
def cells3t (q : Pn) : List Value := [.int .i64 q.v.at_.wall, .int .u32 q.v.at_.tick, .int .u32 q.v.at_.mark]
def flat5 : List Pn → List Value
  | [] => []
  | q :: t => cells5 q ++ flat5 t
def flat3 : List Pn → List Value
  | [] => []
  | q :: t => cells3t q ++ flat3 t
theorem flat5_append (T S : List Pn) : flat5 (T ++ S) = flat5 T ++ flat5 S := by
  induction T with
  | nil => rfl
  | cons x t ih => simp only [List.cons_append, flat5, ih, List.append_assoc]
theorem flat3_append (T S : List Pn) : flat3 (T ++ S) = flat3 T ++ flat3 S := by
  induction T with
  | nil => rfl
  | cons x t ih => simp only [List.cons_append, flat3, ih, List.append_assoc]
theorem flat5_get (T : List Pn) : ∀ (i : Nat) (x : Pn), T[i]? = some x → ∀ j, j < 5 → (flat5 T)[i * 5 + j]? = (cells5 x)[j]? := by
  induction T with
  | nil => intro i x h; simp at h
  | cons y t ih =>
    intro i x h j hj
    have hl : (cells5 y).length = 5 := rfl
    match i with
    | 0 =>
      simp at h; subst h
      rw [flat5, Nat.zero_mul, Nat.zero_add, List.getElem?_append_left (by omega)]
    | i + 1 =>
      simp only [List.getElem?_cons_succ] at h
      have := ih i x h j hj
      rw [flat5, List.getElem?_append_right (by omega), hl, show (i + 1) * 5 + j - 5 = i * 5 + j by omega]
      exact this
theorem flat3_get (T : List Pn) : ∀ (i : Nat) (x : Pn), T[i]? = some x → ∀ j, j < 3 → (flat3 T)[i * 3 + j]? = (cells3t x)[j]? := by
  induction T with
  | nil => intro i x h; simp at h
  | cons y t ih =>
    intro i x h j hj
    have hl : (cells3t y).length = 3 := rfl
    match i with
    | 0 =>
      simp at h; subst h
      rw [flat3, Nat.zero_mul, Nat.zero_add, List.getElem?_append_left (by omega)]
    | i + 1 =>
      simp only [List.getElem?_cons_succ] at h
      have := ih i x h j hj
      rw [flat3, List.getElem?_append_right (by omega), hl, show (i + 1) * 3 + j - 3 = i * 3 + j by omega]
      exact this
theorem cells5_one (x : Pn) (h : x.sv.oneCell' = true) : ∀ u ∈ cells5 x, u.oneCell' = true := by
  intro u hu
  simp only [cells5, List.mem_cons, List.not_mem_nil, or_false] at hu
  rcases hu with rfl | rfl | rfl | rfl | rfl
  · exact h
  all_goals rfl
theorem cells3t_one (x : Pn) : ∀ u ∈ cells3t x, u.oneCell' = true := by
  intro u hu
  simp only [cells3t, List.mem_cons, List.not_mem_nil, or_false] at hu
  rcases hu with rfl | rfl | rfl <;> rfl
theorem ok79 : ElemOk Tryz.prog 79 50 (.agg #[.slice none 0 0, .int .i64 0, .int .i64 0, .int .i64 0, .string ⟨#[]⟩]) 5 64 := ⟨Tryz.underlying79, info_parts (by kernel_rfl), rfl, by decide⟩
theorem ok80 : ElemOk Tryz.prog 80 31 (.agg #[.int .i64 0, .int .u32 0, .int .u32 0]) 3 16 := ⟨Tryz.underlying80, info_parts (by kernel_rfl), rfl, by decide⟩
/-- what is kept: m of it is written out -/
structure Kp (w0 w : World) (v u : Value) (Q : List Pn) (R : List Pn) : Prop where
  r1 : Mine 50 5 w0 w v Q.length (flat5 Q)
  r2 : Mine 31 3 w0 w u R.length (flat3 R)
  sets : ∀ q ∈ Q, OwnP 69 w q.sv q.st ∧ ∀ b, q.sv.ownBlock = some b → w0.heap.size ≤ b
variable {w0 w1 : World} {v u v' : Value} {Q R : List Pn}
theorem Kp.bel (h : Kp w0 w v u Q R) : Below w0.heap.size w0 w := h.r1.2.2
theorem Kp.below (h : Kp w0 w v u Q R) (hb : Below w.heap.size w w') : Kp w0 w' v u Q R := ⟨h.r1.below hb, h.r2.below hb, fun q hq => ⟨(h.sets q hq).1.below hb, (h.sets q hq).2⟩⟩
theorem Kp.nil (w : World) : Kp w w (.slice none 0 0) (.slice none 0 0) [] [] := ⟨⟨own_nil w 50 5, (fun b hb => by cases hb), bel_refl w⟩, ⟨own_nil w 31 3, (fun b hb => by cases hb), bel_refl w⟩, fun q hq => by cases hq⟩
theorem Kp.since (h : Kp w1 w v u Q R) (hb : Below w0.heap.size w0 w1) : Kp w0 w v u Q R :=
  ⟨⟨h.r1.1, fun b hb' => Nat.le_trans hb.size (h.r1.2.1 b hb'), bel_trans hb h.r1.2.2⟩, ⟨h.r2.1, fun b hb' => Nat.le_trans hb.size (h.r2.2.1 b hb'), bel_trans hb h.r2.2.2⟩, fun q hq => ⟨(h.sets q hq).1, fun b hb' => Nat.le_trans hb.size ((h.sets q hq).2 b hb')⟩⟩
theorem Kp.push (h : Kp w0 w v u Q R) {q : Pn} (hq : OwnP 69 w q.sv q.st) (hq2 : ∀ b, q.sv.ownBlock = some b → w0.heap.size ≤ b)
    (ho : Kt.Own 50 5 w' v' (Q.length + 1) (flat5 Q ++ cells5 q)) (hg : w.grownBy w' v.ownBlock) (hn : ∀ b, v'.ownBlock = some b → v.ownBlock = some b ∨ w.heap.size ≤ b) : Kp w0 w' v' u (Q ++ [q]) R := by
  have hs := h.r1.2.2.size
  have keep : ∀ (u : Value) (l : List Pr), OwnP 69 w u l → OwnP 69 w' u l := fun u l hu => Kt.Own.grown hu hg (fun b hb e' => own_apart h.r1.1 hu (by decide) b e' hb)
  have hb : Below w0.heap.size w0 w' := h.r1.2.2.grown hg hs (fun k hk => h.r1.2.1 k hk)
  refine ⟨⟨?_, fun b hb => ?_, hb⟩, ⟨Kt.Own.grown h.r2.1 hg (fun b hb' e' => own_apart h.r1.1 h.r2.1 (by decide) b e' hb'), h.r2.2.1, hb⟩, fun x hx => ?_⟩
  · rw [List.length_append, flat5_append]
    simpa [flat5] using ho
  · rcases hn b hb with h1 | h1
    · exact h.r1.2.1 b h1
    · omega
  · rcases List.mem_append.1 hx with hx | hx
    · exact ⟨keep _ _ (h.sets x hx).1, (h.sets x hx).2⟩
    · rw [List.mem_singleton.1 hx]
      exact ⟨keep _ _ hq, hq2⟩
theorem Kp.push2 (h : Kp w0 w v u Q R) {q : Pn} (hm : Mine 31 3 w0 w' v' (R.length + 1) (flat3 R ++ cells3t q)) (hg : w.grownBy w' u.ownBlock) : Kp w0 w' v v' Q (R ++ [q]) := by
  have keep : ∀ (x : Value) (l : List Pr), OwnP 69 w x l → OwnP 69 w' x l := fun x l hu => Kt.Own.grown hu hg (fun b hb e' => own_apart h.r2.1 hu (by decide) b e' hb)
  refine ⟨⟨Kt.Own.grown h.r1.1 hg (fun b hb' e' => own_apart h.r2.1 h.r1.1 (by decide) b e' hb'), h.r1.2.1, hm.2.2⟩, ?_, fun x hx => ⟨keep _ _ (h.sets x hx).1, (h.sets x hx).2⟩⟩
  rw [List.length_append, flat3_append]
  simpa [flat3] using hm
theorem kept_bound (h : StAt F w s om S L N) {A : List It} (hA : A.Sublist L) : (keptL A).length ≤ 65536 := by
  rw [keptL_len]
  exact Nat.le_trans (lenL_sub hA) h.len
theorem keptL_one (A : List It) (x : It) : keptL (A ++ [x]) = keptL A ++ x.l.map (fun v => (x.set, x.time, v)) := by
  rw [keptL_append]
  congr 1
  unfold keptL
  simp
set_option maxHeartbeats 8000000 in
theorem kept_any (w : World) (h : StAt F w s om S L N) (hN : N ≤ 1000000) :
    Calls Tryz.prog 32 #[.pointer (some ⟨s, 0, none⟩)] w fun e w' => ∃ v u Q, e = .returned (.tuple #[v, u]) ∧ Kp w w' v u Q Q ∧ Q.map Pn.told = keptL L := by
  have HAll := Lib.hid (all_any w h hN)
  have H := Lib.hid h
  have HNn := Lib.hid hN
  clear h hN
  go_enter Tryz.func32, Tryz.ntmps32
  go_wp2_with (first
    | (go_at_call 33; refine HAll.out.mono ?_; rintro e w2 ⟨v2, ks, rfl, hk, hm⟩; obtain ⟨-, ka, kc, rfl, hkc, hkm, -, hcell⟩ := hm.rd; have hkl : ks.length ≤ 9223372036854775807 := Nat.le_trans hkc hkm; clear hkc hkm; have HK := Lib.hid hk; have Hcell := Lib.hid hcell; have HB2 := Lib.hid hm.2.2; have HL := Lib.hid (told_all (H.out.next HB2.out) hk); clear hk hm hcell)
    | fail)
  have HP0 : Hid (Kp w2 w2 (.slice none 0 0) (.slice none 0 0) [] []) := Lib.hid (Kp.nil w2)
  clear HAll
  go_loopw [4, 5, 15] (fun ov uv i wr => ∃ (k : Nat) (Q : List Pn), k ≤ ks.length ∧ i = .int .i64 k ∧ Hid (Kp w2 wr ov uv Q Q) ∧ Hid (Q.map Pn.told = keptL (rowOf S (ks.take k)))) (fun _ _ i _ => ks.length - (intOf i).toNat)
  case atStart => exact ⟨0, [], by omega, rfl, HP0, Lib.hid rfl⟩
  case round =>
    clear HP0
    obtain ⟨k, Q, hk, rfl, HP, HQ⟩ := hrel
    have HBr := Lib.hid (bel_trans HB2.out HP.out.bel)
    by_cases hlt : k < ks.length
    · obtain ⟨x, hx⟩ : ∃ x, ks[k] = x := ⟨_, rfl⟩
      have hxm : x ∈ ks := hx ▸ List.getElem_mem hlt
      obtain ⟨u, hu⟩ := Option.isSome_iff_exists.1 ((HK.out.mem x).1 hxm)
      have HU := Lib.hid hu
      have HS := Lib.hid ((H.out.next HBr.out).ser x u hu)
      obtain ⟨kb, ko, rfl, hc2⟩ := Hcell.out k (pv (S.x x)) (by rw [List.getElem?_map, List.getElem?_eq_getElem hlt, hx]; rfl)
      have hc : wr.cell? ⟨kb, ko + k, none⟩ = some (.pointer (some ⟨S.x x, 0, none⟩)) := (HP.out.bel.cell (p := ⟨kb, ko + k, none⟩) (World.block_lt_of_cell? _ _ hc2)).trans hc2
      have k1 : wr.cell? ⟨S.x x, 1, none⟩ = some (.map (some (S.b x))) := HS.out.blk.cell 1
      have hk1 : (0 : Int) ≤ (k : Int) := by omega
      have hk2 : (k : Int) < (ks.length : Int) := by omega
      have HX : Hid (rowOf S (ks.take (k + 1)) = rowOf S (ks.take k) ++ (tsOf S x).map (itemOf S x)) := Lib.hid (by rw [rowOf_take S ks k hlt, hx])
      have HSub : Hid (∀ j, (rowOf S (ks.take k) ++ ((tsOf S x).take j).map (itemOf S x)).Sublist L) := Lib.hid (fun j => by rw [HL.out]; have := rowOf_sub S ks k hlt j; rw [hx] at this; exact this)
      clear hx hxm hu hc2
      go_wp2_with (first
        | (go_at_call 36; refine (tkeys_any (some (S.b x)) _).mono ?_; rintro e w4 ⟨rfl, rfl⟩)
        | (go_at_call 35; refine (times_any wr HS.out (Nat.le_trans (H.out.nb.2 x u HU.out) HNn.out)).mono ?_; rintro e w5 ⟨v5, rfl, ht5, hm5⟩; obtain ⟨-, ta, tc, rfl, htc, htm, -, -⟩ := hm5.rd; have htl : (tsOf S x).length ≤ 9223372036854775807 := Nat.le_trans htc htm; clear htc htm; have HT5 := Lib.hid ht5; have HM5 := Lib.hid hm5; clear ht5 hm5)
        | fail)
      have HP5 := Lib.hid (HP.out.below HM5.out.2.2)
      have HO5 : Hid (Kt.Own 2 1 w5 (.slice ta (tsOf S x).length tc) (tsOf S x).length ((tsOf S x).map Go.encZ)) := Lib.hid HM5.out.1
      have HQ5 : Hid (Q.map Pn.told = keptL (rowOf S (ks.take k) ++ ((tsOf S x).take 0).map (itemOf S x))) := Lib.hid (by rw [HQ.out, List.take_zero, List.map_nil, List.append_nil])
      clear HM5 HP HQ HS k1 hc
      obtain ⟨n, hn⟩ : ∃ n, (tsOf S x).length = n := ⟨_, rfl⟩
      rw [hn] at HO5 htl ⊢
      have Hn := Lib.hid hn
      clear hn
      go_loopw [4, 5, 26] (fun ov uv i wq => ∃ (j : Nat) (Q : List Pn), j ≤ n ∧ i = .int .i64 j ∧ Hid (Kp w2 wq ov uv Q Q) ∧ Hid (Kt.Own 2 1 wq (.slice ta n tc) n ((tsOf S x).map Go.encZ)) ∧ Hid (Q.map Pn.told = keptL (rowOf S (ks.take k) ++ ((tsOf S x).take j).map (itemOf S x)))) (fun _ _ i _ => n - (intOf i).toNat)
      case atStart => exact ⟨0, Q, by omega, rfl, HP5, HO5, HQ5⟩
      case round =>
        clear HP5 HO5 HQ5
        obtain ⟨j, Q, hj, rfl, HP, HO, HQ⟩ := hrel
        have HBq := Lib.hid (bel_trans HB2.out HP.out.bel)
        by_cases hjt : j < n
        · obtain ⟨z, hz⟩ : ∃ z, (tsOf S x)[j]? = some z := ⟨(tsOf S x)[j]'(by rw [Hn.out]; exact hjt), List.getElem?_eq_getElem _⟩
          have hzm : z ∈ tsOf S x := List.mem_of_getElem? hz
          obtain ⟨vv, hvv⟩ := Option.isSome_iff_exists.1 ((HT5.out.mem z).1 hzm)
          have Hq := Lib.hid (H.out.next HBq.out)
          have HSq := Lib.hid (Hq.out.ser x u HU.out)
          obtain ⟨-, ta', tc', e, -, -, -, hcell⟩ := HO.out.rd
          cases e
          obtain ⟨tb, tof, rfl, hc⟩ := hcell j (.int .i64 z) (by rw [List.getElem?_map, hz]; rfl)
          obtain ⟨hr1, -, hr3⟩ := HSq.out.rows _ _ hvv
          obtain ⟨z', hz', hz0, hz1⟩ := hr3
          obtain rfl := litT_inj hz'
          obtain ⟨-, hch, hcl, -⟩ := Hq.out.chain HU.out hvv
          have HV := Lib.hid hr1
          have HSnoc : Hid (keptL (rowOf S (ks.take k) ++ ((tsOf S x).take (j + 1)).map (itemOf S x)) = keptL (rowOf S (ks.take k) ++ ((tsOf S x).take j).map (itemOf S x)) ++ (S.l x (litT z)).map (fun v => (S.d x, z, v))) := Lib.hid (by
            obtain ⟨hj', e⟩ := List.getElem?_eq_some_iff.1 hz
            rw [List.take_succ_eq_append_getElem hj', List.map_append, ← List.append_assoc, e]
            exact keptL_one _ _)
          have HTot : Hid (Q.length + (S.l x (litT z)).length ≤ 65536) := Lib.hid (by
            have h1 := kept_bound H.out (HSub.out (j + 1))
            rw [HSnoc.out, ← HQ.out, List.length_append, List.length_map, List.length_map] at h1
            exact h1)
          have hlk : (Instr.lookup 88 (.map (some (S.b x))) (.int .i64 z) false).run Tryz.prog wr = .ok vv wr := by
            have := HSq.out.map.look1 key2 Tryz.underlying88 (zero96 wr) (keyOf2 (n := z) (by omega))
            rw [hvv] at this
            exact this
          obtain ⟨lva, lvc, hve, hlvc, hlvm, -⟩ := (OwnV.rd hr1).open
          subst hve
          have hk1q : wr.cell? ⟨S.x x, 1, none⟩ = some (.map (some (S.b x))) := HSq.out.blk.cell 1
          have hj1 : (0 : Int) ≤ (j : Int) := by omega
          have hj2 : (j : Int) < (n : Int) := by omega
          obtain ⟨l, hl⟩ : ∃ l, S.l x (litT z) = l := ⟨_, rfl⟩
          rw [hl] at HV HSnoc HTot hcl hlk hvv hlvc
          have HVn := Lib.hid hvv
          have Hl := Lib.hid hl
          clear hvv hch hz hzm hr1 hz' hcell hl
          go_wp2_with fail
          have HO0 : Hid (Q.map Pn.told = Q.map Pn.told ++ (l.take 0).map (fun v => (S.d x, z, v)) ∧ Q.length = Q.length + 0) := Lib.hid ⟨by simp, rfl⟩
          have HPm := HP
          have HOm := HO
          clear hlk hk1q
          go_loopw [4, 5, 37] (fun ov uv i wi => ∃ (p : Nat) (R : List Pn), p ≤ l.length ∧ i = .int .i64 p ∧ Hid (Kp w2 wi ov uv R R) ∧ Hid (Kt.Own 2 1 wi (.slice (some ⟨tb, tof, none⟩) n tc) n ((tsOf S x).map Go.encZ)) ∧ Hid (R.map Pn.told = Q.map Pn.told ++ (l.take p).map (fun v => (S.d x, z, v)) ∧ R.length = Q.length + p)) (fun _ _ i _ => l.length - (intOf i).toNat)
          case atStart => exact ⟨0, Q, by omega, rfl, HPm, HOm, HO0⟩
          case round =>
            clear HPm HOm HO0 HP HO Hq HSq
            obtain ⟨p, R, hp, rfl, HP, HO, HR⟩ := hrel
            by_cases hpl : p < l.length
            · obtain ⟨vx, hvx⟩ : ∃ vx, l[p]? = some vx := ⟨l[p], List.getElem?_eq_getElem hpl⟩
              have HBi := Lib.hid (bel_trans HB2.out HP.out.bel)
              have HSi := Lib.hid ((H.out.next HBi.out).ser x u HU.out)
              have hrow := (HSi.out.rows _ _ HVn.out).1
              rw [Hl.out] at hrow
              obtain ⟨vb, vo, rfl, hvb, c0, c1, c2, c3, c4, c5⟩ := rdV_cells hrow.rd p vx hvx
              have HTk : Hid ((l.take (p + 1)).map (fun v => (S.d x, z, v)) = (l.take p).map (fun v => (S.d x, z, v)) ++ [(S.d x, z, vx)]) := Lib.hid (by
                obtain ⟨hp', e⟩ := List.getElem?_eq_some_iff.1 hvx
                rw [List.take_succ_eq_append_getElem hp', List.map_append, e]; rfl)
              have hRl : R.length + 1 ≤ 65536 := by have h1 := HR.out.2; have h2 := HTot.out; omega
              have hp1 : (0 : Int) ≤ (p : Int) := by omega
              have hp2 : (p : Int) < (l.length : Int) := by omega
              obtain ⟨⟨xw, xt, xm⟩, xk, xn, xx⟩ := vx
              simp only at c0 c1 c2 c3 c4 c5
              have HX := Lib.hid (Blk.new wr #[.int .i64 xw, .int .u32 xt, .int .u32 xm, .int .i64 xk, .int .i64 xn, .string xx] 98)
              have HBa := Lib.hid (below_alloc wr (.cells #[.int .i64 xw, .int .u32 xt, .int .u32 xm, .int .i64 xk, .int .i64 xn, .string xx] 98))
              clear hvx hrow
              go_upto_region 12 with fail
              generalize wr.alloc (.cells #[.int .i64 xw, .int .u32 xt, .int .u32 xm, .int .i64 xk, .int .i64 xn, .string xx] 98) = w6 at HX HBa ⊢
              have HPw := Lib.hid (HP.out.below HBa.out)
              have HOw := Lib.hid (HO.out.below' HBa.out)
              have HSw : Hid (Blk w6 (S.x x) #[S.sv x, .map (some (S.b x))] 90) := Lib.hid (HSi.out.blk.next HBa.out)
              have HSt : Hid (OwnP 69 w6 (S.sv x) (S.d x)) := Lib.hid (HSi.out.set.below HBa.out)
              have hdl : (S.d x).length ≤ 16 := HSi.out.right.1
              have HKs : Hid (∀ W, Below w6.heap.size w6 W → W.cell? ⟨S.x x, 0, none⟩ = some (S.sv x) ∧ W.cell? ⟨wr.heap.size, 3, none⟩ = some (.int .i64 xk) ∧ W.cell? ⟨wr.heap.size, 4, none⟩ = some (.int .i64 xn) ∧ W.cell? ⟨wr.heap.size, 5, none⟩ = some (.string xx)) :=
                Lib.hid (fun W hW => ⟨(HSw.out.next hW).cell 0, (HX.out.next hW).cell 3, (HX.out.next hW).cell 4, (HX.out.next hW).cell 5⟩)
              have hx6 := bel_refl w6
              obtain ⟨q0, q3, q4, q5⟩ := HKs.out _ hx6
              have hxl' := HSw.out.lt
              have hgl := HX.out.lt
              clear c0 c1 c2 c3 c4 c5 hvb HP HO HSi
              go_region_held3 (fun W => W.cell? ⟨S.x x, 0, none⟩ = some (S.sv x) ∧ W.cell? ⟨wr.heap.size, 3, none⟩ = some (.int .i64 xk) ∧ W.cell? ⟨wr.heap.size, 4, none⟩ = some (.int .i64 xn) ∧ W.cell? ⟨wr.heap.size, 5, none⟩ = some (.string xx))
                (first | (with_reducible exact ⟨q0, q3, q4, q5⟩) | (with_reducible exact ⟨y0, y3, y4, y5⟩) | (with_reducible refine HKs.out _ ?_; (repeat (first | assumption | apply bel_alloc | apply bel_drew)); done) | go_keep)
                (first
                  | (go_simp; go_at_call 38; refine (clone_any (S.sv x) (S.d x) _ (HSt.out.rd.below (by repeat (first | exact bel_refl _ | assumption | apply bel_alloc | apply bel_drew))) (by omega)).mono ?_; rintro e w7 ⟨v7, rfl, hm7⟩; obtain ⟨a7, c7, rfl, _⟩ := hm7.rd.open; have hx7 : Below w6.heap.size w6 w7 := bel_trans (by repeat (first | exact bel_refl _ | assumption | apply bel_alloc | apply bel_drew)) hm7.bel; have HM7 := Lib.hid hm7; clear hm7)
                  | (refine step_app (by rfl) _ _ 79 (by rfl) ok79 (by rfl) (by rfl) (HPw.out.r1.1.below' (by repeat (first | exact bel_refl _ | assumption | apply bel_alloc | apply bel_drew))) (own_lit_at (g := _) 50 5 #[.slice a7 (S.d x).length c7, .int .i64 z, .int .i64 xk, .int .i64 xn, .string xx] 1 (by simp [maxLen]) rfl (by simp)).rd (cells5_one ⟨S.d x, z, ⟨⟨xw, xt, xm⟩, xk, xn, xx⟩, .slice a7 (S.d x).length c7⟩ rfl) (by simp only [maxLen]; omega) (by omega) ?_; intro v8 w8 ho8 hg8 hn8; obtain ⟨-, b8, c8, rfl, -⟩ := ho8.rd; have hy1 := box_push HSw.out (by repeat (first | exact bel_refl _ | assumption | apply bel_alloc | apply bel_drew)) hg8 (HPw.out.r1.1.below' (by repeat (first | exact bel_refl _ | assumption | apply bel_alloc | apply bel_drew))) (by decide); have hy2 := box_push HX.out (by repeat (first | exact bel_refl _ | assumption | apply bel_alloc | apply bel_drew)) hg8 (HPw.out.r1.1.below' (by repeat (first | exact bel_refl _ | assumption | apply bel_alloc | apply bel_drew))) (by decide); have y0 : w8.cell? ⟨S.x x, 0, none⟩ = some (S.sv x) := hy1.cell 0; have y3 : w8.cell? ⟨wr.heap.size, 3, none⟩ = some (.int .i64 xk) := hy2.cell 3; have y4 : w8.cell? ⟨wr.heap.size, 4, none⟩ = some (.int .i64 xn) := hy2.cell 4; have y5 : w8.cell? ⟨wr.heap.size, 5, none⟩ = some (.string xx) := hy2.cell 5; have HB8 := Lib.hid hy2; have HPn : Hid (Kp w2 w8 (.slice b8 (R.length + 1) c8) u5 (R ++ [⟨S.d x, z, ⟨⟨xw, xt, xm⟩, xk, xn, xx⟩, .slice a7 (S.d x).length c7⟩]) R) := Lib.hid ((HPw.out.below (by repeat (first | exact bel_refl _ | assumption | apply bel_alloc | apply bel_drew))).push (OwnP.below HM7.out.1 (below_alloc _ _)) (fun b hb => Nat.le_trans HPw.out.bel.size (HM7.out.2.1 b hb)) ho8 hg8 hn8); have HOn : Hid (Kt.Own 2 1 w8 (.slice (some ⟨tb, tof, none⟩) n tc) n ((tsOf S x).map Go.encZ)) := Lib.hid (Kt.Own.grown (HOw.out.below' (by repeat (first | exact bel_refl _ | assumption | apply bel_alloc | apply bel_drew))) hg8 (own_apart (HOw.out.below' hx7) (HPw.out.r1.1.below' hx7) (by decide))); clear hy1 hy2 ho8 hg8 hn8))
              have b0 : w8.cell? ⟨wr.heap.size, 0, none⟩ = some (.int .i64 xw) := HB8.out.cell 0
              have b1 : w8.cell? ⟨wr.heap.size, 1, none⟩ = some (.int .u32 xt) := HB8.out.cell 1
              have b2 : w8.cell? ⟨wr.heap.size, 2, none⟩ = some (.int .u32 xm) := HB8.out.cell 2
              have hgl8 := HB8.out.lt
              clear q0 q3 q4 q5 y0 y3 y4 y5 hx6 hx7 HKs HPw HOw HSw HSt hxl' hgl
              go_wp2_with (at_builtin; apply Hold.mk)
              unfold Hold
              refine mine_app rfl _ _ 80 rfl ok80 (by rfl) (by rfl) HPn.out.r2 (below_alloc _ _) (by exact rd_lit 3 #[.int .i64 xw, .int .u32 xt, .int .u32 xm] 1 (by simp) one_le rfl) (cells3t_one ⟨S.d x, z, ⟨⟨xw, xt, xm⟩, xk, xn, xx⟩, .slice a7 (S.d x).length c7⟩) (by simp only [maxLen]; omega) (by omega) ?_
              intro v9 w9 hm9 hg9
              have HP9 : Hid (Kp w2 w9 (.slice b8 (R.length + 1) c8) v9 (R ++ [⟨S.d x, z, ⟨⟨xw, xt, xm⟩, xk, xn, xx⟩, .slice a7 (S.d x).length c7⟩]) (R ++ [⟨S.d x, z, ⟨⟨xw, xt, xm⟩, xk, xn, xx⟩, .slice a7 (S.d x).length c7⟩])) := Lib.hid ((HPn.out.below (below_alloc _ _)).push2 hm9 hg9)
              have HO9 : Hid (Kt.Own 2 1 w9 (.slice (some ⟨tb, tof, none⟩) n tc) n ((tsOf S x).map Go.encZ)) := Lib.hid (Kt.Own.grown (HOn.out.below' (below_alloc _ _)) hg9 (own_apart HOn.out HPn.out.r2.1 (by decide)))
              clear hm9 hg9
              go_wp2_with fail
              go_roundw
              case rel => exact ⟨p + 1, _, by omega, by go_num, HP9, HO9, Lib.hid ⟨by rw [List.map_append, HR.out.1, HTk.out, List.append_assoc]; rfl, by rw [List.length_append, HR.out.2]; simp; omega⟩⟩
              case measure => simp [intOf]; omega
            · obtain rfl : p = l.length := by omega
              have HQn : Hid (R.map Pn.told = keptL (rowOf S (ks.take k) ++ ((tsOf S x).take (j + 1)).map (itemOf S x))) := Lib.hid (by rw [HR.out.1, HSnoc.out, ← HQ.out, List.take_length])
              go_wp2_with fail
              go_roundw
              case rel => exact ⟨j + 1, R, by omega, by go_num, HP, HO, HQn⟩
              case measure => simp [intOf]; omega
        · obtain rfl : j = n := by omega
          have HQn : Hid (Q.map Pn.told = keptL (rowOf S (ks.take (k + 1)))) := Lib.hid (by rw [HQ.out, HX.out, ← Hn.out, List.take_length])
          go_wp2_with fail
          go_roundw
          case rel => exact ⟨k + 1, Q, by omega, by go_num, HP, HQn⟩
          case measure => simp [intOf]; omega
    · obtain rfl : k = ks.length := by omega
      have HQn : Hid (Q.map Pn.told = keptL L) := Lib.hid (by rw [HQ.out, List.take_length, ← HL.out])
      go_wp2_with fail
      go_ret2
      exact ⟨_, _, Q, rfl, HP.out.since HB2.out, HQn.out⟩
end Go.Proofs.YtplieoalfbpniaaGreat
