/- Rules: match.Right (39), index.holds (55). -/
import Derived.Test.YtmmilgcbjpbelaaWG
namespace Go.Proofs.Ytmmilgcbjpbelaa
open Go.RowKit Go.Kt Go.Ix

/-- a rule -/
structure Rl where
  n : ByteArray
  op : Int
  v : ByteArray
def flatR : List Rl → List Value
  | [] => []
  | r :: t => .string r.n :: .int .i64 r.op :: .string r.v :: flatR t
theorem flatR_len (T : List Rl) : (flatR T).length = T.length * 3 := by
  induction T with
  | nil => rfl
  | cons x t ih => simp only [flatR, List.length_cons, ih]; omega
theorem flatR_append (T S : List Rl) : flatR (T ++ S) = flatR T ++ flatR S := by
  induction T with
  | nil => rfl
  | cons x t ih => simp only [List.cons_append, flatR, ih]
theorem flatR_get (T : List Rl) : ∀ (i : Nat) (x : Rl), T[i]? = some x → (flatR T)[i * 3]? = some (.string x.n) ∧ (flatR T)[i * 3 + 1]? = some (.int .i64 x.op) ∧ (flatR T)[i * 3 + 2]? = some (.string x.v) := by
  induction T with
  | nil => intro i x h; simp at h
  | cons y t ih =>
    intro i x h
    match i with
    | 0 => simp at h; subst h; exact ⟨rfl, rfl, rfl⟩
    | i + 1 =>
      simp only [List.getElem?_cons_succ] at h
      have := ih i x h
      rw [show (i + 1) * 3 = i * 3 + 1 + 1 + 1 by omega]
      exact this
theorem flatR_take (T : List Rl) (k : Nat) (x : Rl) (h : T[k]? = some x) : flatR (T.take (k + 1)) = flatR (T.take k) ++ [.string x.n, .int .i64 x.op, .string x.v] := by
  obtain ⟨hk, rfl⟩ := List.getElem?_eq_some_iff.1 h
  rw [List.take_succ_eq_append_getElem hk, flatR_append]; rfl
def RdR (w : World) (v : Value) (l : List Rl) : Prop := RdRow 3 w v l.length (flatR l)
theorem RdR.below {w w' : World} {v : Value} {l : List Rl} (h : RdR w v l) (hb : Below w.heap.size w w') : RdR w' v l := RdRow.below h hb
theorem RdR.open {w : World} {v : Value} {l : List Rl} (h : RdR w v l) : ∃ a cap, v = .slice a l.length cap ∧ l.length ≤ cap ∧ cap ≤ 9223372036854775807 ∧
    ∀ (i : Nat) (x : Rl), l[i]? = some x → ∃ b o, a = some ⟨b, o, none⟩ ∧ b < w.heap.size ∧ w.cell? ⟨b, o + i * 3, none⟩ = some (.string x.n) ∧ w.cell? ⟨b, o + i * 3 + 1, none⟩ = some (.int .i64 x.op) ∧ w.cell? ⟨b, o + i * 3 + 2, none⟩ = some (.string x.v) := by
  obtain ⟨_, a, cap, rfl, h1, h2, _, h5⟩ := h
  refine ⟨a, cap, rfl, h1, h2, fun i x hi => ?_⟩
  obtain ⟨c0, c1, c2⟩ := flatR_get l i x hi
  obtain ⟨b, o, rfl, hc⟩ := h5 _ _ c0
  have key : ∀ j u, (flatR l)[i * 3 + j]? = some u → w.cell? ⟨b, o + i * 3 + j, none⟩ = some u := by
    intro j u hj
    obtain ⟨b', o', e, hc'⟩ := h5 _ _ hj
    cases e
    rw [Nat.add_assoc]; exact hc'
  exact ⟨b, o, rfl, World.block_lt_of_cell? w _ hc, hc, key 1 _ c1, key 2 _ c2⟩
/-- a rule that may be -/
def RuleP (r : Rl) : Prop := NameP (bl r.n) ∧ 1 ≤ r.op ∧ r.op ≤ 4 ∧ (r.v.size = 0 ∨ ValP (bl r.v))
def RightR (l : List Rl) : Prop := l.length ≤ 16 ∧ ∀ r ∈ l, RuleP r
def FitR (l : List Rl) : Prop := ∀ r ∈ l, r.n.size ≤ maxLen ∧ r.v.size ≤ maxLen
/-- does a rule hold of a value? -/
def holdsB (r : Rl) (v : ByteArray) : Bool :=
  if r.op = 1 then (v.toList == r.v.toList) else if r.op = 2 then !(v.toList == r.v.toList) else if r.op = 3 then Lib.hasPrefix (bl v) (bl r.v) else Lib.contains (bl v) (bl r.v)
/-- the library's own variable -/
def Glob (w : World) : Prop := ∃ m, w.cell? ⟨0, 0, none⟩ = some (.int .i64 m)
theorem Glob.below {w w' : World} (h : Glob w) (hb : Below w.heap.size w w') : Glob w' := by
  obtain ⟨m, hm⟩ := h
  exact ⟨m, (hb.cell (p := ⟨0, 0, none⟩) (World.block_lt_of_cell? w _ hm)).trans hm⟩
theorem Glob.turn {F : Nat → Prop} {w w' : World} (h : Glob w) (ht : Turn F w w') (h0 : ¬ F 0) : Glob w' := by
  obtain ⟨m, hm⟩ := h
  exact ⟨m, (World.cell?_of_block (ht.block 0 (World.block_lt_of_cell? w _ hm) h0)).trans hm⟩
def ragg (r : Rl) : Value := .agg #[.string r.n, .int .i64 r.op, .string r.v]

set_option maxHeartbeats 1000000 in
theorem holds_any (r : Rl) (v : ByteArray) (w : World) (hr : 1 ≤ r.op ∧ r.op ≤ 4) (hv : v.size < 4294967281) (hg : Glob w) :
    Calls Try.prog 55 #[ragg r, .string v] w fun e w' => e = .returned (.bool (holdsB r v)) ∧ Below w.heap.size w w' := by
  obtain ⟨n, op, rv⟩ := r
  simp only at hr
  have HG := Lib.hid hg
  clear hg
  unfold ragg
  simp only
  have hc : op = 1 ∨ op = 2 ∨ op = 3 ∨ op = 4 := by omega
  rcases hc with rfl | rfl | rfl | rfl
  · clear hr
    have hh : holdsB ⟨n, 1, rv⟩ v = (v.toList == rv.toList) := by simp [holdsB]
    rw [hh]
    go_enter Try.func55, Try.ntmps55
    go_wp2_with fail
    go_ret
    exact ⟨rfl, by repeat (first | exact bel_refl _ | apply bel_drewN | apply bel_alloc | apply bel_drew)⟩
  · clear hr
    have hh : holdsB ⟨n, 2, rv⟩ v = !(v.toList == rv.toList) := by simp [holdsB]
    rw [hh]
    go_enter Try.func55, Try.ntmps55
    go_wp2_with fail
    go_ret
    exact ⟨rfl, by repeat (first | exact bel_refl _ | apply bel_drewN | apply bel_alloc | apply bel_drew)⟩
  · clear hr
    have hh : holdsB ⟨n, 3, rv⟩ v = Lib.hasPrefix (bl v) (bl rv) := by simp [holdsB]
    rw [hh]
    go_enter Try.func55, Try.ntmps55
    go_wp2_with (first | (go_at_call 63; refine (Try.strings_HasPrefix v rv _).mono ?_; rintro e w2 ⟨rfl, rfl⟩) | fail)
    go_ret
    exact ⟨rfl, by repeat (first | exact bel_refl _ | apply bel_drewN | apply bel_alloc | apply bel_drew)⟩
  · clear hr
    have hh : holdsB ⟨n, 4, rv⟩ v = Lib.contains (bl v) (bl rv) := by simp [holdsB]
    rw [hh]
    go_enter Try.func55, Try.ntmps55
    have hga := HG.out.below (below_alloc w (.cells #[.string n, .int .i64 4, .string rv] 104))
    obtain ⟨m, hm⟩ := hga
    go_wp2_with (first | (go_at_call 64; refine (Try.strings_Contains v rv m _ hv hm).mono ?_; rintro e w2 ⟨rfl, rfl⟩) | fail)
    go_ret
    exact ⟨rfl, by repeat (first | exact bel_refl _ | apply bel_drewN | apply bel_alloc | apply bel_drew)⟩

theorem rules_not {l : List Rl} {k : Nat} {r : Rl} (hp : l[k]? = some r) (h : ¬ RuleP r) : ¬ RightR l := fun hr => h (hr.2 r (List.mem_of_getElem? hp))
theorem size_cases (s : ByteArray) : (s.size = 0 ∧ s.toList.isEmpty = true) ∨ (0 < s.size ∧ s.toList.isEmpty = false) := by
  by_cases h : s.size = 0
  · exact .inl ⟨h, bytes_nil h⟩
  · exact .inr ⟨by omega, bytes_some (by omega)⟩

set_option maxHeartbeats 2000000 in
theorem mright_any (v : Value) (l : List Rl) (w : World) (hv : RdR w v l) (hf : FitR l) :
    Calls Try.prog 39 #[v] w fun e w' => Says (RightR l) e ∧ Below w.heap.size w w' := by
  obtain ⟨a, cap, rfl, hcap, hbig, hcell⟩ := hv.open
  have Hcell := Lib.hid hcell
  have Hf := Lib.hid hf
  clear hcell hv hf
  by_cases h16 : 16 < l.length
  · go_enter Try.func39, Try.ntmps39
    go_wp2_with fail
    go_ret
    exact ⟨says_no (fun h => by have := h.1; omega), bel_refl w⟩
  go_enter Try.func39, Try.ntmps39
  go_wp2_with fail
  go_loopw [4, 10] (fun _ i wr => ∃ k : Nat, k ≤ l.length ∧ i = .int .i64 k ∧ Hid (∀ r ∈ l.take k, RuleP r) ∧ Hid (Below w.heap.size w wr)) (fun _ i _ => l.length - (intOf i).toNat)
  case atStart => exact ⟨0, by omega, rfl, Lib.hid (fun r hr => by simp at hr), Lib.hid (bel_refl w)⟩
  case round =>
    obtain ⟨k, hk, rfl, HR, Hb⟩ := hrel
    by_cases hlt : k < l.length
    · obtain ⟨p, hp⟩ : ∃ x, l[k]? = some x := ⟨l[k], List.getElem?_eq_getElem hlt⟩
      obtain ⟨b, o, rfl, lb, c1, c2, c3⟩ := Hcell.out k p hp
      have hpf := Hf.out p (List.mem_of_getElem? hp)
      have c1' : wr.cell? ⟨b, o + k * 3, none⟩ = some (.string p.n) := (Hb.out.cell (p := ⟨b, o + k * 3, none⟩) lb).trans c1
      have c2' : wr.cell? ⟨b, o + k * 3 + 1, none⟩ = some (.int .i64 p.op) := (Hb.out.cell (p := ⟨b, o + k * 3 + 1, none⟩) lb).trans c2
      have c3' : wr.cell? ⟨b, o + k * 3 + 2, none⟩ = some (.string p.v) := (Hb.out.cell (p := ⟨b, o + k * 3 + 2, none⟩) lb).trans c3
      have hbb : b < wr.heap.size := Nat.lt_of_lt_of_le lb Hb.out.size
      have HN := Lib.hid (fun W => name_quiet p.n hpf.1 W)
      have HV := Lib.hid (fun W => value_quiet p.v hpf.2 W)
      have HP := Lib.hid hp
      have Hnext : Hid (RuleP p → ∀ r ∈ l.take (k + 1), RuleP r) := Lib.hid (fun h r hr => by
        obtain ⟨hk', e⟩ := List.getElem?_eq_some_iff.1 HP.out
        rw [List.take_succ_eq_append_getElem hk', e] at hr
        rcases List.mem_append.1 hr with hr | hr
        · exact HR.out r hr
        · rw [List.mem_singleton.1 hr]; exact h)
      clear c1 c2 c3 hp hpf lb
      by_cases hgood : RuleP p
      · have HX := Lib.hid (Hnext.out hgood)
        obtain ⟨g1, g2, g3, g4⟩ := hgood
        have HNt := Lib.hid (pb_yes g1)
        have d1 : decide (p.op < 1) = false := by simp only [decide_eq_false_iff_not]; omega
        have d2 : decide (4 < p.op) = false := by simp only [decide_eq_false_iff_not]; omega
        rcases size_cases p.v with ⟨hz, he⟩ | ⟨hz, he⟩
        · clear g1 g4 HV
          go_wp2_with (first | (go_at_call 53; refine (HN.out _).mono ?_; rintro e w1 ⟨rfl, rfl⟩; rw [HNt.out]) | fail)
          go_roundw
          case rel => exact ⟨k + 1, by omega, by go_num, HX, Lib.hid (bel_alloc Hb.out)⟩
          case measure => simp [intOf]; omega
        · have HVt := Lib.hid (pb_yes (g4.resolve_left (by omega)))
          clear g1 g4
          go_wp2_with (first | (go_at_call 53; refine (HN.out _).mono ?_; rintro e w1 ⟨rfl, rfl⟩; rw [HNt.out]) | (go_at_call 54; refine (HV.out _).mono ?_; rintro e w1 ⟨rfl, rfl⟩; rw [HVt.out]) | fail)
          go_roundw
          case rel => exact ⟨k + 1, by omega, by go_num, HX, Lib.hid (bel_alloc Hb.out)⟩
          case measure => simp [intOf]; omega
      · have HX := Lib.hid (rules_not HP.out hgood)
        have hbad : ¬ NameP (bl p.n) ∨ (NameP (bl p.n) ∧ p.op < 1) ∨ (NameP (bl p.n) ∧ 1 ≤ p.op ∧ 4 < p.op) ∨ (NameP (bl p.n) ∧ 1 ≤ p.op ∧ p.op ≤ 4 ∧ 0 < p.v.size ∧ ¬ ValP (bl p.v)) := by
          by_cases g1 : NameP (bl p.n)
          · by_cases g2 : p.op < 1
            · exact .inr (.inl ⟨g1, g2⟩)
            · by_cases g3 : 4 < p.op
              · exact .inr (.inr (.inl ⟨g1, by omega, g3⟩))
              · refine .inr (.inr (.inr ⟨g1, by omega, by omega, ?_, fun g4 => hgood ⟨g1, by omega, by omega, .inr g4⟩⟩))
                by_cases h0 : p.v.size = 0
                · exact absurd ⟨g1, by omega, by omega, .inl h0⟩ hgood
                · omega
          · exact .inl g1
        clear hgood
        rcases hbad with g1 | ⟨g1, g2⟩ | ⟨g1, g2, g3⟩ | ⟨g1, g2, g3, g4, g5⟩
        · have HNt := Lib.hid (pb_no g1)
          clear g1
          go_wp2_with (first | (go_at_call 53; refine (HN.out _).mono ?_; rintro e w1 ⟨rfl, rfl⟩; rw [HNt.out]) | fail)
          go_ret
          exact ⟨says_no HX.out, bel_alloc Hb.out⟩
        · have HNt := Lib.hid (pb_yes g1)
          have d1 : decide (p.op < 1) = true := by simp only [decide_eq_true_eq]; omega
          clear g1
          go_wp2_with (first | (go_at_call 53; refine (HN.out _).mono ?_; rintro e w1 ⟨rfl, rfl⟩; rw [HNt.out]) | fail)
          go_ret
          exact ⟨says_no HX.out, bel_alloc Hb.out⟩
        · have HNt := Lib.hid (pb_yes g1)
          have d1 : decide (p.op < 1) = false := by simp only [decide_eq_false_iff_not]; omega
          have d2 : decide (4 < p.op) = true := by simp only [decide_eq_true_eq]; omega
          clear g1
          go_wp2_with (first | (go_at_call 53; refine (HN.out _).mono ?_; rintro e w1 ⟨rfl, rfl⟩; rw [HNt.out]) | fail)
          go_ret
          exact ⟨says_no HX.out, bel_alloc Hb.out⟩
        · have HNt := Lib.hid (pb_yes g1)
          have HVt := Lib.hid (pb_no g5)
          have d1 : decide (p.op < 1) = false := by simp only [decide_eq_false_iff_not]; omega
          have d2 : decide (4 < p.op) = false := by simp only [decide_eq_false_iff_not]; omega
          have he := bytes_some g4
          clear g1 g5
          go_wp2_with (first | (go_at_call 53; refine (HN.out _).mono ?_; rintro e w1 ⟨rfl, rfl⟩; rw [HNt.out]) | (go_at_call 54; refine (HV.out _).mono ?_; rintro e w1 ⟨rfl, rfl⟩; rw [HVt.out]) | fail)
          go_ret
          exact ⟨says_no HX.out, bel_alloc Hb.out⟩
    · obtain rfl : k = l.length := by omega
      rw [List.take_length] at HR
      go_wp2_with fail
      go_ret
      exact ⟨says_yes ⟨by omega, HR.out⟩, Hb.out⟩
end Go.Proofs.Ytmmilgcbjpbelaa
