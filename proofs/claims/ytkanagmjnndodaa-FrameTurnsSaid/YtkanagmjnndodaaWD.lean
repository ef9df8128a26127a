/- The contract of FrameJoins (function 9). -/
import Derived.Test.YtkanagmjnndodaaWB
import Derived.Test.YtkanagmjnndodaaWC
import Derived.Deep.CutBlock
import Derived.Deep.DeepCutAuto
namespace Go.Proofs.Ytkanagmjnndodaa
open Go.RowKit Go.Kt

namespace Fr
def joined : List (UInt8 × List UInt8) → List UInt8
  | [] => []
  | x :: t => sealed x.1 x.2 ++ joined t
theorem joined_append (l r : List (UInt8 × List UInt8)) : joined (l ++ r) = joined l ++ joined r := by
  induction l with
  | nil => rfl
  | cons x t ih => simp only [List.cons_append, joined, ih, List.append_assoc]
theorem joined_len (l : List (UInt8 × List UInt8)) (h : ∀ x ∈ l, x.2.length ≤ 2000) : (joined l).length ≤ l.length * 2009 := by
  induction l with
  | nil => simp [joined]
  | cons x t ih =>
    have h1 := h x (by simp)
    have h2 := ih (fun y hy => h y (by simp [hy]))
    simp only [joined, List.length_append, sealed_len, List.length_cons]
    omega
theorem scan_joined (b : List UInt8) : ∀ (l : List (UInt8 × List UInt8)), (∀ x ∈ l, x.2.length ≤ 2000) → scan (joined l ++ b) = (l ++ (scan b).1, (joined l).length + (scan b).2)
  | [], _ => by simp [joined]
  | x :: t, h => by
    have h1 := h x (by simp)
    have ih := scan_joined b t (fun y hy => h y (by simp [hy]))
    have ho := opened_sealed x.1 x.2 (joined t ++ b) (by omega)
    have hs := scan_ok (sealed x.1 x.2 ++ (joined t ++ b)) (by rw [ho])
    rw [ho] at hs
    have hd : (sealed x.1 x.2 ++ (joined t ++ b)).drop (9 + x.2.length) = joined t ++ b := by
      rw [← sealed_len x.1 x.2, List.drop_left]
    rw [hd, ih] at hs
    show scan ((sealed x.1 x.2 ++ joined t) ++ b) = _
    rw [List.append_assoc, hs]
    simp only [joined, List.length_append, sealed_len, List.cons_append]
    exact Prod.ext rfl (by simp only; omega)
end Fr

theorem cellsOf_cut (T : List Pc) (k : Nat) : (cellsOf T).take (k * 2) = cellsOf (T.take k) ∧ (cellsOf T).drop (k * 2) = cellsOf (T.drop k) := by
  induction T generalizing k with
  | nil => simp [cellsOf]
  | cons x t ih =>
    match k with
    | 0 => simp [cellsOf]
    | k + 1 =>
      rw [show (k + 1) * 2 = k * 2 + 1 + 1 by omega]
      simp only [cellsOf, List.take_succ_cons, List.drop_succ_cons]
      exact ⟨by rw [(ih k).1], (ih k).2⟩
theorem plain_take (T : List Pc) (k : Nat) : plain (T.take k) = (plain T).take k := by simp [plain]
theorem plain_drop (T : List Pc) (k : Nat) : plain (T.drop k) = (plain T).drop k := by simp [plain]
theorem plain_len (T : List Pc) : (plain T).length = T.length := by simp [plain]

section
variable {P : Program} {ops : Array Oper} {rest : List Oper} {a : Act} {Q : Exit → Act → World → Prop} {w : World} {d : Option Tmp} {t ty : TypeId} {x : Operand} {pos : String} {af : Array Edge} {g : Option (Nat × Bool)}
theorem wpList_pcs_hi {e : TypeId} {z : Value} {bytes : Nat} (ok : ElemOk P t e z 2 bytes) {h : Operand} (hw : Region.wanted ⟨d, .slice t x none (some h) none, ty, pos, af, g⟩ (yielded ops a.tmps) = true) {vx : Value} {ps : List (UInt8 × List UInt8)} (hi : Nat) {kh : IntKind} {H : Int}
    (hx : a.eval x = vx) (hh : a.eval h = .int kh H) (eH : H = hi) (hrd : RdPcs w vx ps) (h2 : hi ≤ ps.length)
    (hK : ∀ v', (∀ (w0 : World) (ps : List (UInt8 × List UInt8)), RdPcs w0 vx ps → RdPcs w0 v' (ps.take hi)) → wpList P ops Q rest (a.put d v') w) : wpList P ops Q (⟨d, .slice t x none (some h) none, ty, pos, af, g⟩ :: rest) a w := by
  obtain ⟨T, hT, hr, hb⟩ := hrd
  have hl : T.length = ps.length := by rw [← hT, plain_len]
  refine wpList_cut_hi ok hw hi hx hh eH hr (by omega) fun v' h' => hK v' fun w0 ps' hrd' => ?_
  obtain ⟨T', hT', hr', hb'⟩ := hrd'
  have hn : T'.length = T.length := by
    obtain ⟨_, _, _, e, _⟩ := hr
    obtain ⟨_, _, _, e', _⟩ := hr'
    rw [e] at e'
    injection e' with _ e' _
    exact e'.symm
  rw [hn] at hr'
  have h'' := h' w0 _ hr'
  rw [(cellsOf_cut T' hi).1] at h''
  refine ⟨T'.take hi, by rw [plain_take, hT'], ?_, fun y hy => hb' y (List.mem_of_mem_take hy)⟩
  rw [List.length_take, Nat.min_eq_left (by omega)]
  exact h''
theorem wpList_pcs_lo {e : TypeId} {z : Value} {bytes : Nat} (ok : ElemOk P t e z 2 bytes) {l : Operand} (hw : Region.wanted ⟨d, .slice t x (some l) none none, ty, pos, af, g⟩ (yielded ops a.tmps) = true) {vx : Value} {ps : List (UInt8 × List UInt8)} (lo : Nat) {kl : IntKind} {L : Int}
    (hx : a.eval x = vx) (hl : a.eval l = .int kl L) (eL : L = lo) (hrd : RdPcs w vx ps) (h1 : lo ≤ ps.length)
    (hK : ∀ v', (∀ (w0 : World) (ps : List (UInt8 × List UInt8)), RdPcs w0 vx ps → RdPcs w0 v' (ps.drop lo)) → wpList P ops Q rest (a.put d v') w) : wpList P ops Q (⟨d, .slice t x (some l) none none, ty, pos, af, g⟩ :: rest) a w := by
  obtain ⟨T, hT, hr, hb⟩ := hrd
  have hle : T.length = ps.length := by rw [← hT, plain_len]
  refine wpList_cut_lo' ok hw lo hx hl eL hr (by omega) fun v' h' => hK v' fun w0 ps' hrd' => ?_
  obtain ⟨T', hT', hr', hb'⟩ := hrd'
  have hn : T'.length = T.length := by
    obtain ⟨_, _, _, e, _⟩ := hr
    obtain ⟨_, _, _, e', _⟩ := hr'
    rw [e] at e'
    injection e' with _ e' _
    exact e'.symm
  rw [hn] at hr'
  have h'' := h' w0 _ hr'
  rw [(cellsOf_cut T' lo).2] at h''
  refine ⟨T'.drop lo, by rw [plain_drop, hT'], ?_, fun y hy => hb' y (List.mem_of_mem_drop hy)⟩
  rw [List.length_drop, hn]
  exact h''
end

theorem RdPcs.form {w : World} {v : Value} {ps : List (UInt8 × List UInt8)} (h : RdPcs w v ps) : ∃ a cap, v = .slice a ps.length cap ∧ ps.length ≤ cap ∧ cap ≤ 9223372036854775807 := by
  obtain ⟨T, hT, hr, _⟩ := h
  obtain ⟨a, cap, rfl, h1, h2, _⟩ := rdPcs_open hr
  rw [← hT, plain_len]
  exact ⟨a, cap, rfl, h1, h2⟩

set_option maxHeartbeats 4000000 in
theorem joins_any (v1 v2 : Value) (ps : List (UInt8 × List UInt8)) (b : List UInt8) (w : World) (hv1 : RdPcs w v1 ps) (hv2 : Rd8 w v2 b) (hlen : ps.length ≤ 1048576) (hb : b.length ≤ 1048576) :
    Calls Try.prog 9 #[v1, v2] w fun e w' => e = .returned (.bool true) ∧ Below w.heap.size w w' := by
  have H1 := Lib.hid hv1
  have H2 := Lib.hid hv2
  obtain ⟨T, hT, hrow, hbod⟩ := hv1
  obtain ⟨a, cap, rfl, hcap, hbig, hcell⟩ := rdPcs_open hrow
  have Hbod := Lib.hid hbod
  have Hcell := Lib.hid hcell
  have HT := Lib.hid hT
  have hTl : T.length ≤ 1048576 := by rw [← hT, plain_len] at hlen; exact hlen
  unfold maxLen at hbig
  clear hcell hbod hrow hT hv2 hlen
  go_enter Try.func9, Try.ntmps9
  go_upto_block 0 with (fail)
  go_cut [0, 5] (fun lv av wc => ∃ k : Nat, k ≤ 12 ∧ k ≤ ps.length ∧ Hid (RdPcs w lv (ps.take k)) ∧ Hid (Mine8 5 w wc av (Fr.joined (ps.take k))) ∧ Hid (∀ x ∈ ps.take k, x.2.length ≤ 2000) ∧ Hid (Below w.heap.size w wc))
  case first =>
    go_wp2_with fail
    go_loopw [0, 5, 6, 7, 8, 9, 16] (fun lv av _ _ _ _ i wr => lv = .slice a T.length cap ∧ ∃ k : Nat, k ≤ T.length ∧ k ≤ 12 ∧ i = .int .i64 k ∧ Hid (Mine8 5 w wr av (Fr.joined (ps.take k))) ∧ Hid (∀ x ∈ ps.take k, x.2.length ≤ 2000) ∧ Hid (Below w.heap.size w wr)) (fun _ _ _ _ _ _ i _ => T.length - (intOf i).toNat)
    case atStart => exact ⟨rfl, 0, by omega, by omega, rfl, Lib.hid (by simpa [Fr.joined] using mine8_nil 5 w w), Lib.hid (by simp), Lib.hid (Below.refl _ _)⟩
    case round =>
      obtain ⟨rfl, k, hk, hk12, rfl, Hm, Hs, Hb⟩ := hrel
      by_cases hlt : k < T.length
      · obtain ⟨x, hx⟩ : ∃ x, T[k]? = some x := ⟨T[k], List.getElem?_eq_getElem hlt⟩
        obtain ⟨bb, o, rfl, c1, c2⟩ := Hcell.out k x hx
        have lb := World.block_lt_of_cell? w _ c1
        have px := plain_get T k x hx
        rw [HT.out] at px
        have Hnext : Hid (ps.take (k + 1) = ps.take k ++ [(x.1, x.2.2)]) := Lib.hid (by
          obtain ⟨h1, h2⟩ := List.getElem?_eq_some_iff.1 px
          rw [List.take_succ_eq_append_getElem h1, h2])
        have c1' : wr.cell? ⟨bb, o + k * 2, none⟩ = some (.int .u8 (x.1.toNat : Int)) := (Hb.out.cell (p := ⟨bb, o + k * 2, none⟩) lb).trans c1
        have c2' : wr.cell? ⟨bb, o + k * 2 + 1, none⟩ = some x.2.1 := (Hb.out.cell (p := ⟨bb, o + k * 2 + 1, none⟩) lb).trans c2
        have Hx := Lib.hid (Hbod.out x (List.mem_of_getElem? hx))
        have Hpl : Hid (ps.length = T.length) := Lib.hid (by rw [← HT.out, plain_len])
        have Hl1 := H1.out
        generalize x.2.2 = bo at *
        generalize x.2.1 = xv at *
        generalize x.1 = kk at *
        obtain ⟨xa, xc, rfl, hxc, hxb, -, -⟩ := Hx.out.open
        unfold maxLen at hxb
        clear c1 c2 hx px
        by_cases h12 : k < 12
        · by_cases hbo : bo.length ≤ 2000
          · have Hs2 : Hid (∀ x ∈ ps.take (k + 1), x.2.length ≤ 2000) := Lib.hid (by
              rw [Hnext.out]
              intro y hy
              rcases List.mem_append.1 hy with hy | hy
              · exact Hs.out y hy
              · simp at hy; subst hy; exact hbo)
            have hjl := Fr.joined_len (ps.take k) Hs.out
            have htl : (ps.take k).length ≤ k := List.length_take_le _ _
            go_wp2_with fail
            have hr : Rd8 (wr.alloc (.cells #[.int .u8 (kk.toNat : Int), .slice xa bo.length xc] 48)) (.slice xa bo.length xc) bo := Hx.out.below ((Hb.out.alloc Hb.out.size _))
            refine (seal_ok kk _ bo _ hr (by omega)).mono ?_
            clear hr
            rintro e w1 ⟨fv, rfl, hm1, hb1⟩
            have hsl := Fr.sealed_len kk bo
            have Hf := Lib.hid hm1.rd
            have Hm1 := Lib.hid ((Hm.out.alloc (.cells #[.int .u8 (kk.toNat : Int), .slice xa bo.length xc] 48)).below hb1)
            have Hb1 := Lib.hid ((Hb.out.alloc Hb.out.size (.cells #[.int .u8 (kk.toNat : Int), .slice xa bo.length xc] 48)).trans (hb1.mono (by have := Hb.out.size; simp; omega)))
            clear hm1 hb1 Hm Hb c1' c2' Hs
            go_wp2_with (at_builtin; apply Hold.mk)
            unfold Hold
            refine wpList_app8_mine rfl _ _ 23 rfl ok23 _ (Fr.sealed kk bo) (by rfl) (by rfl) w Hb1.out Hm1.out Hf.out (by omega) ?_
            intro v3 w3 hm3 hb3 _ _
            have Hm3 : Hid (Mine8 5 w w3 v3 (Fr.joined (ps.take (k + 1)))) := Lib.hid (by rw [Hnext.out, Fr.joined_append]; simpa [Fr.joined] using hm3)
            have Hb3 := Lib.hid hb3
            clear hm3 hb3 Hm1 Hb1 Hf
            go_wp2_with fail
            go_roundw
            case rel => exact ⟨rfl, k + 1, by omega, by omega, by go_num, Hm3, Hs2, Hb3⟩
            case measure => simp [intOf]; omega
          · have hr1 : RdPcs (wr.alloc (.cells #[.int .u8 (kk.toNat : Int), .slice xa bo.length xc] 48)) (.slice (some ⟨bb, o, none⟩) T.length cap) ps := H1.out.below (Hb.out.alloc Hb.out.size _)
            have Hr1 := Lib.hid hr1
            have Hpk : Hid (k ≤ ps.length) := Lib.hid (by have := Hpl.out; omega)
            clear hr1
            go_wp2_with (with_reducible refine hold_slice ?_)
            unfold Hold
            refine wpList_pcs_hi ok41 (by rfl) k (by rfl) (by rfl) rfl Hr1.out Hpk.out ?_
            intro v3 h3
            go_wp2_with fail
            go_meet
            exact ⟨k, by omega, Hpk.out, Lib.hid (h3 _ _ H1.out), Lib.hid (Hm.out.alloc _), Hs, Lib.hid (Hb.out.alloc Hb.out.size _)⟩
        · have hr1 : RdPcs (wr.alloc (.cells #[.int .u8 (kk.toNat : Int), .slice xa bo.length xc] 48)) (.slice (some ⟨bb, o, none⟩) T.length cap) ps := H1.out.below (Hb.out.alloc Hb.out.size _)
          have Hr1 := Lib.hid hr1
          have Hpk : Hid (k ≤ ps.length) := Lib.hid (by have := Hpl.out; omega)
          clear hr1
          go_wp2_with (with_reducible refine hold_slice ?_)
          unfold Hold
          refine wpList_pcs_hi ok41 (by rfl) k (by rfl) (by rfl) rfl Hr1.out Hpk.out ?_
          intro v3 h3
          go_wp2_with fail
          go_meet
          exact ⟨k, by omega, Hpk.out, Lib.hid (h3 _ _ H1.out), Lib.hid (Hm.out.alloc _), Hs, Lib.hid (Hb.out.alloc Hb.out.size _)⟩
      · obtain rfl : k = T.length := by omega
        have Hpl : Hid (ps.length = T.length) := Lib.hid (by rw [← HT.out, plain_len])
        go_wp2_with fail
        go_meet
        exact ⟨T.length, by omega, by rw [Hpl.out]; omega, Lib.hid (by rw [List.take_of_length_le (Nat.le_of_eq Hpl.out)]; exact H1.out), Hm, Hs, Hb⟩
  case rest =>
    obtain ⟨k, hk12, hkl, Hl, Hm, Hs, Hb⟩ := hcut
    have hjl := Fr.joined_len (ps.take k) Hs.out
    have htl : (ps.take k).length ≤ 12 := Nat.le_trans (List.length_take_le _ _) hk12
    have Hsc := Lib.hid (Fr.scan_joined b (ps.take k) Hs.out)
    have hsb := scan_len b
    generalize ps.take k = qs at *
    obtain ⟨la, lc, rfl, hl1, hl2⟩ := Hl.out.form
    obtain ⟨aa, ac, rfl, ha1, ha2, -, -⟩ := Hm.out.rd.open
    unfold maxLen at ha2
    go_wp2_with (at_builtin; apply Hold.mk)
    unfold Hold
    refine wpList_app8_mine rfl _ _ 23 rfl ok23 [] (Fr.joined qs) (by rfl) (by rfl) w (Hb.out.alloc Hb.out.size _) (mine8_at [] (by simp [maxLen]) rfl rfl Hb.out.size rfl) (Hm.out.alloc _).rd (by simp only [List.length_nil]; omega) ?_
    intro v1 w1 hm1 hb1 hg1 _
    have Hm1 : Hid (Mine8 5 w w1 v1 (Fr.joined qs)) := Lib.hid (by simpa using hm1)
    have Hb1 := Lib.hid hb1
    clear hm1 hb1 hg1 Hb Hm
    go_wp2_with (at_builtin; apply Hold.mk)
    unfold Hold
    refine wpList_app8_mine rfl _ _ 23 rfl ok23 _ b (by rfl) (by rfl) w Hb1.out Hm1.out (H2.out.below Hb1.out) (by omega) ?_
    intro v2' w2 hm2 hb2 _ _
    have Hm2 := Lib.hid hm2.rd
    have Hb2 := Lib.hid hb2
    clear hm2 hb2 Hm1 Hb1
    go_wp2_with fail
    refine (scan_any _ _ _ Hm2.out (by simp; omega)).mono ?_
    rw [Hsc.out]
    rintro e w3 ⟨v3, rfl, hp3, hb3⟩
    have Hp3 := Lib.hid hp3.rd
    have Hb3 := Lib.hid (Hb2.out.trans (hb3.mono Hb2.out.size))
    clear hp3 hb3 Hm2 Hb2
    go_wp2_with fail
    refine (scan_any _ _ _ (H2.out.below Hb3.out) (by omega)).mono ?_
    rintro e w4 ⟨v4, rfl, hp4, hb4⟩
    generalize Fr.scan b = sb at *
    have Hp4 := Lib.hid hp4.rd
    have Hq4 := Lib.hid (Hp3.out.below hb4)
    have Hb4 := Lib.hid (Hb3.out.trans (hb4.mono Hb3.out.size))
    clear hp4 hb4 Hp3 Hb3
    go_wp2_with fail
    refine (awake_any _).mono ?_
    rintro e w5 ⟨rfl, hb5⟩
    have Hp5 := Lib.hid (Hp4.out.below hb5)
    have Hq5 := Lib.hid (Hq4.out.below hb5)
    have Hb5 := Lib.hid (Hb4.out.trans (hb5.mono Hb4.out.size))
    clear hb5 Hp4 Hq4 Hb4
    obtain ⟨ra, rc, rfl, hr1, hr2⟩ := Hp5.out.form
    obtain ⟨sa, sc, rfl, hs1, hs2⟩ := Hq5.out.form
    rw [List.length_append] at hs1 Hq5 ⊢
    have he1 : ((((Fr.joined qs).length + sb.2 : Nat) : Int) == ((Fr.joined qs).length : Int) + (sb.2 : Int)) = true := by rw [beq_iff_eq]; omega
    have he2 : (((qs.length + sb.1.length : Nat) : Int) == (qs.length : Int) + (sb.1.length : Int)) = true := by rw [beq_iff_eq]; omega
    go_wp2_with (with_reducible refine hold_slice ?_)
    unfold Hold
    refine wpList_pcs_hi ok38 (by rfl) qs.length (by rfl) (by rfl) rfl Hq5.out (by simp) ?_
    intro v6 h6
    have H6 : Hid (RdPcs w5 v6 qs) := Lib.hid (by simpa using h6 _ _ Hq5.out)
    clear h6
    go_wp2_with fail
    refine (from_any _ _ _ H6.out (by omega)).mono ?_
    rintro e w6 ⟨v7, rfl, hp, hb6⟩
    have H7 := Lib.hid hp
    have Hp6 := Lib.hid (Hp5.out.below hb6)
    have Hq6 := Lib.hid (Hq5.out.below hb6)
    have Hb6 := Lib.hid (Hb5.out.trans (hb6.mono Hb5.out.size))
    clear hp hb6 Hp5 Hq5 Hb5 H6
    go_wp2_with fail
    refine (same_any _ _ _ _ _ H7.out (Hl.out.below Hb6.out)).mono ?_
    rw [decide_eq_true rfl]
    rintro e w7 ⟨rfl, hb7⟩
    have Hp7 := Lib.hid (Hp6.out.below hb7)
    have Hq7 := Lib.hid (Hq6.out.below hb7)
    have Hb7 := Lib.hid (Hb6.out.trans (hb7.mono Hb6.out.size))
    clear hb7 Hp6 Hq6 Hb6 H7
    go_wp2_with (with_reducible refine hold_slice ?_)
    unfold Hold
    refine wpList_pcs_lo ok38 (by rfl) qs.length (by rfl) (by rfl) rfl Hq7.out (by simp) ?_
    intro v8 h8
    have H8 : Hid (RdPcs w7 v8 sb.1) := Lib.hid (by simpa using h8 _ _ Hq7.out)
    clear h8
    go_wp2_with fail
    refine (from_any _ _ _ H8.out (by omega)).mono ?_
    rintro e w8 ⟨v9, rfl, hp, hb8⟩
    have H9 := Lib.hid hp
    have Hp8 := Lib.hid (Hp7.out.below hb8)
    have Hb8 := Lib.hid (Hb7.out.trans (hb8.mono Hb7.out.size))
    clear hp hb8 Hp7 Hq7 Hb7 H8
    go_wp2_with fail
    refine (from_any _ _ _ Hp8.out (by omega)).mono ?_
    rintro e w9 ⟨v10, rfl, hp, hb9⟩
    have H10 := Lib.hid hp
    have H99 := Lib.hid (H9.out.below hb9)
    have Hb9 := Lib.hid (Hb8.out.trans (hb9.mono Hb8.out.size))
    clear hp hb9 Hp8 Hb8 H9
    go_wp2_with fail
    refine (same_any _ _ _ _ _ H99.out H10.out).mono ?_
    rw [decide_eq_true rfl]
    rintro e w10 ⟨rfl, hb10⟩
    have Hb10 := Lib.hid (Hb9.out.trans (hb10.mono Hb9.out.size))
    clear hb10
    go_wp2_with fail
    go_ret
    exact ⟨rfl, Hb10.out⟩
end Go.Proofs.Ytkanagmjnndodaa
