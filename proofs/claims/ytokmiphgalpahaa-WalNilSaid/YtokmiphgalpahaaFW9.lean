/- Slices of pieces; the contracts of frame.Scan (function 17) and of the reference's Scan (function 18). -/
import Derived.Test.YtokmiphgalpahaaFW7
namespace Go.Proofs.Ytokmiphgalpahaa.Fm
open Go.RowKit Go.Kt

theorem ok38 : ElemOk Try.prog 96 100 (.agg #[.int .u8 0, .slice none 0 0]) 2 32 := ⟨Try.underlying96, info_parts (by kernel_rfl), rfl, by decide⟩
theorem ok41 : ElemOk Try.prog 103 106 (.agg #[.int .u8 0, .slice none 0 0]) 2 32 := ⟨Try.underlying103, info_parts (by kernel_rfl), rfl, by decide⟩

/-- a piece: its kind, its body's value, its body's bytes -/
abbrev Pc := UInt8 × Value × List UInt8
def cellsOf : List Pc → List Value
  | [] => []
  | x :: t => by8 x.1 :: x.2.1 :: cellsOf t
def plain (T : List Pc) : List (UInt8 × List UInt8) := T.map fun x => (x.1, x.2.2)
theorem cellsOf_len (T : List Pc) : (cellsOf T).length = T.length * 2 := by
  induction T with
  | nil => rfl
  | cons x t ih => simp only [cellsOf, List.length_cons, ih]; omega
theorem cellsOf_append (T S : List Pc) : cellsOf (T ++ S) = cellsOf T ++ cellsOf S := by
  induction T with
  | nil => rfl
  | cons x t ih => simp only [List.cons_append, cellsOf, ih]
theorem cellsOf_get (T : List Pc) : ∀ (i : Nat) (x : Pc), T[i]? = some x → (cellsOf T)[i * 2]? = some (by8 x.1) ∧ (cellsOf T)[i * 2 + 1]? = some x.2.1 := by
  induction T with
  | nil => intro i x h; simp at h
  | cons y t ih =>
    intro i x h
    match i with
    | 0 => simp at h; subst h; exact ⟨rfl, rfl⟩
    | i + 1 =>
      simp only [List.getElem?_cons_succ] at h
      have := ih i x h
      rw [show (i + 1) * 2 = i * 2 + 1 + 1 by omega]
      exact this
theorem cellsOf_one (T : List Pc) (h : ∀ x ∈ T, x.2.1.oneCell' = true) : ∀ u ∈ cellsOf T, u.oneCell' = true := by
  induction T with
  | nil => intro u hu; simp [cellsOf] at hu
  | cons y t ih =>
    intro u hu
    simp only [cellsOf, List.mem_cons] at hu
    rcases hu with rfl | rfl | hu
    · rfl
    · exact h y (by simp)
    · exact ih (fun x hx => h x (by simp [hx])) u hu

/-- a slice of pieces that is read -/
def RdPcs (w : World) (v : Value) (ps : List (UInt8 × List UInt8)) : Prop :=
  ∃ T : List Pc, plain T = ps ∧ RdRow 2 w v T.length (cellsOf T) ∧ ∀ x ∈ T, Rd8 w x.2.1 x.2.2
theorem RdPcs.below {w w' : World} {v : Value} {ps : List (UInt8 × List UInt8)} (h : RdPcs w v ps) (hb : Below w.heap.size w w') : RdPcs w' v ps := by
  obtain ⟨T, h1, h2, h3⟩ := h
  exact ⟨T, h1, h2.below hb, fun x hx => (h3 x hx).below hb⟩

/-- a slice of pieces of the call's own: its row, and each body's -/
def OwnPcs (e : TypeId) (w0 w : World) (v : Value) (ps : List (UInt8 × List UInt8)) : Prop :=
  ∃ T : List Pc, plain T = ps ∧ Own e 2 w v T.length (cellsOf T) ∧ (∀ b, v.ownBlock = some b → w0.heap.size ≤ b) ∧ ∀ x ∈ T, Mine8 5 w0 w x.2.1 x.2.2
theorem OwnPcs.rd {e : TypeId} {w0 w : World} {v : Value} {ps : List (UInt8 × List UInt8)} (h : OwnPcs e w0 w v ps) : RdPcs w v ps := by
  obtain ⟨T, h1, h2, _, h3⟩ := h
  exact ⟨T, h1, h2.rd, fun x hx => (h3 x hx).rd⟩
theorem OwnPcs.below {e : TypeId} {w0 w w' : World} {v : Value} {ps : List (UInt8 × List UInt8)} (h : OwnPcs e w0 w v ps) (hb : Below w.heap.size w w') : OwnPcs e w0 w' v ps := by
  obtain ⟨T, h1, h2, h3, h4⟩ := h
  exact ⟨T, h1, h2.below' hb, h3, fun x hx => (h4 x hx).below hb⟩
theorem ownPcs_nil (e : TypeId) (w0 w : World) : OwnPcs e w0 w (.slice none 0 0) [] := ⟨[], rfl, own_nil w e 2, (fun b hb => by cases hb), fun x hx => by simp at hx⟩

/-- two rows of unlike elements lie in unlike blocks -/
theorem own_apart {e e' : TypeId} {size size' : Nat} {w : World} {v v' : Value} {n n' : Nat} {xs xs' : List Value} (h : Own e size w v n xs) (h' : Own e' size' w v' n' xs') (hne : e ≠ e') : ∀ b, v.ownBlock = some b → v'.ownBlock ≠ some b := by
  intro b hb hb'
  rcases h.2 with ⟨rfl, _⟩ | ⟨g, cap, cur, rfl, _, hg, _⟩
  · cases hb
  · rcases h'.2 with ⟨rfl, _⟩ | ⟨g', cap', cur', rfl, _, hg', _⟩
    · cases hb'
    · cases hb; cases hb'
      rw [hg] at hg'
      injection hg' with hg'
      injection hg' with _ he _
      exact hne he

theorem Mine8.slice {e : TypeId} {w0 w : World} {v : Value} {l : List UInt8} (h : Mine8 e w0 w v l) : v.oneCell' = true := by
  obtain ⟨a, cap, rfl, _⟩ := h.rd.open
  rfl

/-- 'append(out, Piece{k, p})' -/
theorem wpList_app_pcs {P : Program} {w : World} {ops : Array Oper} {rest : List Oper} {o : Oper} {a : Act} {Q : Exit → Act → World → Prop} (hgd : Region.wanted o (yielded ops a.tmps) = true) (s x : Operand) (t : TypeId)
    (ho : o.op = .call { callee := .builtin .append, args := #[s, x], argTypes := #[t, t] })
    {e : TypeId} {z : Value} (ok : ElemOk P t e z 2 32) (he : e ≠ 5) {v : Value} {ps : List (UInt8 × List UInt8)} {k : UInt8} {pv : Value} {l : List UInt8} {g : Nat}
    (hs : a.eval s = v) (hx : a.eval x = .slice (some ⟨g, 0, none⟩) 1 1) (hg : g = w.heap.size) (w0 : World) (hb0 : Below w0.heap.size w0 w) (hown : OwnPcs e w0 w v ps) (hp : Mine8 5 w0 w pv l) (hlen : ps.length < 1000000000)
    (h : ∀ v' w', OwnPcs e w0 w' v' (ps ++ [(k, l)]) → Below w0.heap.size w0 w' → wpList P ops Q rest (a.put o.dst v') w') : wpList P ops Q (o :: rest) a (w.alloc (.cells #[by8 k, pv] e)) := by
  subst hg
  obtain ⟨T, hT, hO, hB, hM⟩ := hown
  have hTl : T.length = ps.length := by rw [← hT]; simp [plain]
  have bel := below_alloc w (.cells #[by8 k, pv] e)
  have hO' := hO.below' bel
  have hx' : RdRow 2 (w.alloc (.cells #[by8 k, pv] e)) (.slice (some ⟨w.heap.size, 0, none⟩) 1 1) 1 [by8 k, pv] := (own_lit w e 2 #[by8 k, pv] 1 (by simp [maxLen]) rfl).rd
  refine wpList_app hgd s x t ho ok hs hx hO' hx' (by intro u hu; simp at hu; rcases hu with rfl | rfl; exact rfl; exact Mine8.slice hp) (by simp only [maxLen]; omega) (by omega) ?_
  intro v' w' h2 h3 h4
  have keep : ∀ {q : Value} {m : List UInt8}, Mine8 5 w0 w q m → Mine8 5 w0 w' q m := fun hq =>
    ⟨(hq.1.below bel).grown h3 (fun b hb hv => own_apart hO' (hq.1.below bel) he b hv hb), hq.2⟩
  refine h v' w' ⟨T ++ [(k, pv, l)], by simp [plain, ← hT], ?_, fun b hb => (h4 b hb).elim (hB b) (fun h => ?_), fun y hy => ?_⟩ ((hb0.trans (bel.mono hb0.size)).grown h3 (by have := hb0.size; simp; omega) fun b hb => hB b hb)
  · rw [List.length_append, cellsOf_append]; exact h2
  · have := hb0.size; simp at h; omega
  · rcases List.mem_append.1 hy with hy | hy
    · exact keep (hM y hy)
    · simp at hy; subst hy; exact keep hp

namespace Fr
def scanN : Nat → List UInt8 → List (UInt8 × List UInt8) × Nat
  | 0, _ => ([], 0)
  | f + 1, b => if (opened b).err = 0 then ((((opened b).kind, (opened b).body) :: (scanN f (b.drop (opened b).used)).1), (opened b).used + (scanN f (b.drop (opened b).used)).2) else ([], 0)
def scan (b : List UInt8) : List (UInt8 × List UInt8) × Nat := scanN (b.length + 1) b
theorem opened_used (b : List UInt8) (h : (opened b).err = 0) : 9 ≤ (opened b).used ∧ (opened b).used ≤ b.length ∧ (opened b).body.length ≤ 1048576 := by
  unfold opened at h ⊢
  split at h
  · rename_i x0 x1 x2 x3 x4 x5 x6 x7 x8 t
    by_cases h0 : x0 ≠ 167
    · rw [if_pos h0] at h; cases h
    rw [if_neg h0] at h ⊢
    by_cases h1 : 1048576 < num x2 x3 x4
    · rw [if_pos h1] at h; cases h
    rw [if_neg h1] at h ⊢
    by_cases h2 : t.length < num x2 x3 x4
    · rw [if_pos h2] at h; cases h
    rw [if_neg h2] at h ⊢
    unfold fin at h ⊢
    by_cases h3 : sum x1 (t.take (num x2 x3 x4)) = num4 x5 x6 x7 x8
    · rw [if_pos h3]
      simp only [List.length_cons, List.length_take]
      omega
    · rw [if_neg h3] at h; cases h
  · rename_i x0 _ _
    by_cases h0 : x0 ≠ 167
    · rw [if_pos h0] at h; cases h
    · rw [if_neg h0] at h; cases h
  · cases h
theorem scanN_ext : ∀ (f g : Nat) (b : List UInt8), b.length < f → b.length < g → scanN f b = scanN g b
  | 0, _, b, h, _ => by omega
  | _, 0, b, _, h => by omega
  | f + 1, g + 1, b, h1, h2 => by
    unfold scanN
    by_cases he : (opened b).err = 0
    · rw [if_pos he, if_pos he]
      obtain ⟨h9, hu, _⟩ := opened_used b he
      rw [scanN_ext f g (b.drop (opened b).used) (by simp; omega) (by simp; omega)]
    · rw [if_neg he, if_neg he]
theorem scan_ok (b : List UInt8) (h : (opened b).err = 0) : scan b = ((((opened b).kind, (opened b).body) :: (scan (b.drop (opened b).used)).1), (opened b).used + (scan (b.drop (opened b).used)).2) := by
  obtain ⟨h9, hu, _⟩ := opened_used b h
  have e := scanN_ext b.length ((b.drop (opened b).used).length + 1) (b.drop (opened b).used) (by simp; omega) (by omega)
  unfold scan
  rw [scanN, if_pos h, e]
theorem scan_bad (b : List UInt8) (h : (opened b).err ≠ 0) : scan b = ([], 0) := by
  unfold scan
  rw [scanN, if_neg h]
end Fr

set_option maxHeartbeats 1000000 in
theorem scan_any (v : Value) (b : List UInt8) (w : World) (hv : Rd8 w v b) (hb : b.length ≤ 1000000000) :
    Calls Try.prog 49 #[v] w fun e w' => ∃ v', e = .returned (.tuple #[v', .int .i64 ((Fr.scan b).2 : Int)]) ∧ OwnPcs 100 w w' v' (Fr.scan b).1 ∧ Below w.heap.size w w' := by
  have H0 := Lib.hid hv
  obtain ⟨a, cap, rfl, hcap, hbig, hn, hc⟩ := hv.open
  unfold maxLen at hbig
  clear hc hn hv
  go_enter Try.func49, Try.ntmps49
  go_wp2_with fail
  go_step3
  go_wp2_with fail
  go_step3
  go_wp2_with fail
  go_loopw [4, 5, 6, 7, 8, 9] (fun out i _ _ _ _ wr => ∃ k : Nat, k ≤ b.length ∧ i = .int .i64 k ∧ (∃ ps, ps.length * 9 ≤ k ∧ Hid (OwnPcs 100 w wr out ps) ∧ Hid (Fr.scan b = (ps ++ (Fr.scan (b.drop k)).1, k + (Fr.scan (b.drop k)).2))) ∧ Hid (Below w.heap.size w wr)) (fun _ i _ _ _ _ _ => b.length - (intOf i).toNat)
  case atStart => exact ⟨0, by omega, rfl, ⟨[], by simp, Lib.hid (ownPcs_nil _ _ _), Lib.hid (by simp)⟩, Lib.hid (Below.refl _ _)⟩
  case round =>
    obtain ⟨k, hk, rfl, ⟨ps, hps, Hps, Hsc⟩, Hb⟩ := hrel
    go_wp2_with (with_reducible refine hold_slice ?_)
    unfold Hold
    refine wpList_cut8_lo ok23 b k rfl rfl rfl (H0.out.below Hb.out) hk ?_
    intro v1 hv1
    have Hv1 := Lib.hid hv1
    clear hv1
    go_wp2_with fail
    refine (open_any _ _ _ Hv1.out).mono ?_
    rintro e w1 ⟨pv, rfl, hm, hb1⟩
    by_cases hok : (Fr.opened (b.drop k)).err = 0
    · have Hs2 := Lib.hid (Fr.scan_ok (b.drop k) hok)
      obtain ⟨hu1, hu2, hu3⟩ := Fr.opened_used (b.drop k) hok
      simp only [List.length_drop, List.drop_drop] at hu2 Hs2
      generalize Fr.opened (b.drop k) = r at *
      obtain ⟨ap, cp, rfl, -, -, -, -⟩ := hm.rd.open
      have Hm1 : Hid (Mine8 5 w w1 _ r.body) := Lib.hid (hm.since Hb.out.size)
      have Hps1 := Lib.hid (Hps.out.below hb1)
      have Hb1 := Lib.hid (Hb.out.trans (hb1.mono Hb.out.size))
      have hok0 : ((r.err : Int) == 0) = true := by rw [beq_iff_eq]; omega
      have Hok := Lib.hid hok
      clear hm hb1 Hps Hb Hv1 hok
      unfold by8
      go_wp2_with (at_builtin; apply Hold.mk)
      unfold Hold
      refine wpList_app_pcs (k := r.kind) rfl _ _ 96 rfl ok38 (by decide) (by rfl) (by rfl) rfl w Hb1.out Hps1.out Hm1.out (by omega) ?_
      intro v2 w2 hps2 hb2
      have Hps2 := Lib.hid hps2
      have Hb2 := Lib.hid hb2
      clear hps2 hb2 Hps1 Hb1
      go_wp2_with fail
      go_roundw
      case rel => exact ⟨k + r.used, by omega, by go_num, ⟨ps ++ [(r.kind, r.body)], by simp; omega, Hps2, Lib.hid (by rw [Hsc.out, Hs2.out]; simp [Nat.add_assoc])⟩, Hb2⟩
      case measure => simp [intOf]; omega
    · have Hs2 := Lib.hid (Fr.scan_bad (b.drop k) hok)
      generalize Fr.opened (b.drop k) = r at *
      have Hps1 := Lib.hid (Hps.out.below hb1)
      have Hb1 := Lib.hid (Hb.out.trans (hb1.mono Hb.out.size))
      have hok0 : ((r.err : Int) == 0) = false := by rw [beq_eq_false_iff_ne]; omega
      clear hm hb1 Hps Hb Hv1
      go_wp2_with fail
      rw [Exit.noGoto_ret]
      go_ret2
      have e1 : Fr.scan b = (ps, k) := by rw [Hsc.out, Hs2.out]; simp
      rw [e1]
      exact ⟨_, rfl, Hps1.out, Hb1.out⟩

set_option maxHeartbeats 1000000 in
theorem refscan_any (v : Value) (b : List UInt8) (w : World) (hv : Rd8 w v b) (hb : b.length ≤ 1000000000) :
    Calls Try.prog 52 #[v] w fun e w' => ∃ v', e = .returned (.tuple #[v', .int .i64 ((Fr.scan b).2 : Int)]) ∧ OwnPcs 106 w w' v' (Fr.scan b).1 ∧ Below w.heap.size w w' := by
  have H0 := Lib.hid hv
  obtain ⟨a, cap, rfl, hcap, hbig, hn, hc⟩ := hv.open
  unfold maxLen at hbig
  clear hc hn hv
  go_enter Try.func52, Try.ntmps52
  go_wp2_with fail
  go_loopw [4, 5, 6, 7, 8, 9] (fun out i _ _ _ _ wr => ∃ k : Nat, k ≤ b.length ∧ i = .int .i64 k ∧ (∃ ps, ps.length * 9 ≤ k ∧ Hid (OwnPcs 106 w wr out ps) ∧ Hid (Fr.scan b = (ps ++ (Fr.scan (b.drop k)).1, k + (Fr.scan (b.drop k)).2))) ∧ Hid (Below w.heap.size w wr)) (fun _ i _ _ _ _ _ => b.length - (intOf i).toNat)
  case atStart => exact ⟨0, by omega, rfl, ⟨[], by simp, Lib.hid (ownPcs_nil _ _ _), Lib.hid (by simp)⟩, Lib.hid (Below.refl _ _)⟩
  case round =>
    obtain ⟨k, hk, rfl, ⟨ps, hps, Hps, Hsc⟩, Hb⟩ := hrel
    by_cases hend : k < b.length
    case neg =>
      obtain rfl : k = b.length := by omega
      have e1 : Fr.scan b = (ps, b.length) := by rw [Hsc.out, List.drop_length]; simp [Fr.scan, Fr.scanN, Fr.opened, Fr.bad]
      go_wp2_with fail
      go_ret2
      rw [e1]
      exact ⟨_, rfl, Hps.out, Hb.out⟩
    go_wp2_with (with_reducible refine hold_slice ?_)
    unfold Hold
    refine wpList_cut8_lo ok23 b k rfl rfl rfl (H0.out.below Hb.out) hk ?_
    intro v1 hv1
    have Hv1 := Lib.hid hv1
    clear hv1
    go_wp2_with fail
    refine (refopen_any _ _ _ Hv1.out).mono ?_
    rintro e w1 ⟨pv, rfl, hm, hb1⟩
    by_cases hok : (Fr.opened (b.drop k)).err = 0
    · have Hs2 := Lib.hid (Fr.scan_ok (b.drop k) hok)
      obtain ⟨hu1, hu2, hu3⟩ := Fr.opened_used (b.drop k) hok
      simp only [List.length_drop, List.drop_drop] at hu2 Hs2
      generalize Fr.opened (b.drop k) = r at *
      obtain ⟨ap, cp, rfl, -, -, -, -⟩ := hm.rd.open
      have Hm1 : Hid (Mine8 5 w w1 _ r.body) := Lib.hid (hm.since Hb.out.size)
      have Hps1 := Lib.hid (Hps.out.below hb1)
      have Hb1 := Lib.hid (Hb.out.trans (hb1.mono Hb.out.size))
      have hok0 : ((r.err : Int) != 0) = false := by simp; omega
      have Hok := Lib.hid hok
      clear hm hb1 Hps Hb Hv1 hok
      unfold by8
      go_wp2_with (at_builtin; apply Hold.mk)
      unfold Hold
      refine wpList_app_pcs (k := r.kind) rfl _ _ 103 rfl ok41 (by decide) (by rfl) (by rfl) rfl w Hb1.out Hps1.out Hm1.out (by omega) ?_
      intro v2 w2 hps2 hb2
      have Hps2 := Lib.hid hps2
      have Hb2 := Lib.hid hb2
      clear hps2 hb2 Hps1 Hb1
      go_wp2_with fail
      go_roundw
      case rel => exact ⟨k + r.used, by omega, by go_num, ⟨ps ++ [(r.kind, r.body)], by simp; omega, Hps2, Lib.hid (by rw [Hsc.out, Hs2.out]; simp [Nat.add_assoc])⟩, Hb2⟩
      case measure => simp [intOf]; omega
    · have Hs2 := Lib.hid (Fr.scan_bad (b.drop k) hok)
      generalize Fr.opened (b.drop k) = r at *
      have Hps1 := Lib.hid (Hps.out.below hb1)
      have Hb1 := Lib.hid (Hb.out.trans (hb1.mono Hb.out.size))
      have hok0 : ((r.err : Int) != 0) = true := by rw [bne_iff_ne]; omega
      clear hm hb1 Hps Hb Hv1
      go_wp2_with fail
      go_ret2
      have e1 : Fr.scan b = (ps, k) := by rw [Hsc.out, Hs2.out]; simp
      rw [e1]
      exact ⟨_, rfl, Hps1.out, Hb1.out⟩
end Go.Proofs.Ytokmiphgalpahaa.Fm
