/- match.Right (74): whether rules may be. -/
import Derived.Test.YtbaflgddpciadaaGreatI9
set_option linter.unusedVariables false
set_option linter.unusedSimpArgs false
namespace Go.Proofs.YtbaflgddpciadaaGreat
open Go.RowKit Go.Kt Go.Ix
set_option maxRecDepth 100000
def RuleP (r : Rl) : Prop := NameP (bl r.n) ∧ 1 ≤ r.op ∧ r.op ≤ 4 ∧ (r.v.size = 0 ∨ ValP (bl r.v))
def RightR (l : List Rl) : Prop := l.length ≤ 16 ∧ ∀ r ∈ l, RuleP r
theorem rules_not {l : List Rl} {k : Nat} {r : Rl} (hp : l[k]? = some r) (h : ¬ RuleP r) : ¬ RightR l := fun hr => h (hr.2 r (List.mem_of_getElem? hp))
set_option maxHeartbeats 2000000 in
theorem mright_any (v : Value) (l : List Rl) (w : World) (hv : RdR w v l) (hf : FitR l) :
    Calls Tryz.prog 74 #[v] w fun e w' => Says (RightR l) e ∧ Below w.heap.size w w' := by
  obtain ⟨a, cap, rfl, hcap, hbig, hcell⟩ := hv.open
  have Hcell := Lib.hid hcell
  have Hf := Lib.hid hf
  clear hcell hv hf
  by_cases h16 : 16 < l.length
  · go_enter Tryz.func74, Tryz.ntmps74
    go_wp2_with fail
    go_ret
    exact ⟨says_no (fun h => by have := h.1; omega), bel_refl w⟩
  go_enter Tryz.func74, Tryz.ntmps74
  go_wp2_with fail
  go_loopw [4, 10] (fun _ i wr => ∃ k : Nat, k ≤ l.length ∧ i = .int .i64 k ∧ Hid (∀ r ∈ l.take k, RuleP r) ∧ Hid (Below w.heap.size w wr)) (fun _ i _ => l.length - (intOf i).toNat)
  case atStart => exact ⟨0, by omega, rfl, Lib.hid (fun r hr => by simp at hr), Lib.hid (bel_refl w)⟩
  case round =>
    obtain ⟨k, hk, rfl, HR, Hb⟩ := hrel
    by_cases hlt : k < l.length
    · obtain ⟨p, hp⟩ : ∃ x, l[k]? = some x := ⟨l[k], List.getElem?_eq_getElem hlt⟩
      obtain ⟨b, o, rfl, lb, c1, c2, c3⟩ := Hcell.out k p hp
      have hpf := Hf.out p (List.mem_of_getElem? hp)
      have c1' : wr.cell? ⟨b, o + k * 3, none⟩ = some (.string p.n) := (Hb.out.cell (p := ⟨b, o + k * 3, none⟩) lb).trans c1
      have c2' : wr.cell? ⟨b, o + k * 3 + 1, none⟩ = some (.int .i64 p.op) := (Hb.out.cell (p := ⟨b, o + k * 3 + 1, none⟩) lb).trans c2
      have c3' : wr.cell? ⟨b, o + k * 3 + 2, none⟩ = some (.string p.v) := (Hb.out.cell (p := ⟨b, o + k * 3 + 2, none⟩) lb).trans c3
      have hbb : b < wr.heap.size := Nat.lt_of_lt_of_le lb Hb.out.size
      have HN := Lib.hid (fun W => name_quiet p.n hpf.1 W)
      have HV := Lib.hid (fun W => value_quiet p.v hpf.2 W)
      have HP := Lib.hid hp
      have Hnext : Hid (RuleP p → ∀ r ∈ l.take (k + 1), RuleP r) := Lib.hid (fun h r hr => by
        obtain ⟨hk', e⟩ := List.getElem?_eq_some_iff.1 HP.out
        rw [List.take_succ_eq_append_getElem hk', e] at hr
        rcases List.mem_append.1 hr with hr | hr
        · exact HR.out r hr
        · rw [List.mem_singleton.1 hr]; exact h)
      clear c1 c2 c3 hp hpf lb
      by_cases hgood : RuleP p
      · have HX := Lib.hid (Hnext.out hgood)
        obtain ⟨g1, g2, g3, g4⟩ := hgood
        have HNt := Lib.hid (pb_yes g1)
        have d1 : decide (p.op < 1) = false := by simp only [decide_eq_false_iff_not]; omega
        have d2 : decide (4 < p.op) = false := by simp only [decide_eq_false_iff_not]; omega
        rcases size_cases p.v with ⟨hz, he⟩ | ⟨hz, he⟩
        · clear g1 g4 HV
          go_wp2_with (first | (go_at_call 146; refine (HN.out _).mono ?_; rintro e w1 ⟨rfl, rfl⟩; rw [HNt.out]) | fail)
          go_roundw
          case rel => exact ⟨k + 1, by omega, by go_num, HX, Lib.hid (bel_alloc Hb.out)⟩
          case measure => simp [intOf]; omega
        · have HVt := Lib.hid (pb_yes (g4.resolve_left (by omega)))
          clear g1 g4
          go_wp2_with (first | (go_at_call 146; refine (HN.out _).mono ?_; rintro e w1 ⟨rfl, rfl⟩; rw [HNt.out]) | (go_at_call 147; refine (HV.out _).mono ?_; rintro e w1 ⟨rfl, rfl⟩; rw [HVt.out]) | fail)
          go_roundw
          case rel => exact ⟨k + 1, by omega, by go_num, HX, Lib.hid (bel_alloc Hb.out)⟩
          case measure => simp [intOf]; omega
      · have HX := Lib.hid (rules_not HP.out hgood)
        have hbad : ¬ NameP (bl p.n) ∨ (NameP (bl p.n) ∧ p.op < 1) ∨ (NameP (bl p.n) ∧ 1 ≤ p.op ∧ 4 < p.op) ∨ (NameP (bl p.n) ∧ 1 ≤ p.op ∧ p.op ≤ 4 ∧ 0 < p.v.size ∧ ¬ ValP (bl p.v)) := by
          by_cases g1 : NameP (bl p.n)
          · by_cases g2 : p.op < 1
            · exact .inr (.inl ⟨g1, g2⟩)
            · by_cases g3 : 4 < p.op
              · exact .inr (.inr (.inl ⟨g1, by omega, g3⟩))
              · refine .inr (.inr (.inr ⟨g1, by omega, by omega, ?_, fun g4 => hgood ⟨g1, by omega, by omega, .inr g4⟩⟩))
                by_cases h0 : p.v.size = 0
                · exact absurd ⟨g1, by omega, by omega, .inl h0⟩ hgood
                · omega
          · exact .inl g1
        clear hgood
        rcases hbad with g1 | ⟨g1, g2⟩ | ⟨g1, g2, g3⟩ | ⟨g1, g2, g3, g4, g5⟩
        · have HNt := Lib.hid (pb_no g1)
          clear g1
          go_wp2_with (first | (go_at_call 146; refine (HN.out _).mono ?_; rintro e w1 ⟨rfl, rfl⟩; rw [HNt.out]) | fail)
          go_ret
          exact ⟨says_no HX.out, bel_alloc Hb.out⟩
        · have HNt := Lib.hid (pb_yes g1)
          have d1 : decide (p.op < 1) = true := by simp only [decide_eq_true_eq]; omega
          clear g1
          go_wp2_with (first | (go_at_call 146; refine (HN.out _).mono ?_; rintro e w1 ⟨rfl, rfl⟩; rw [HNt.out]) | fail)
          go_ret
          exact ⟨says_no HX.out, bel_alloc Hb.out⟩
        · have HNt := Lib.hid (pb_yes g1)
          have d1 : decide (p.op < 1) = false := by simp only [decide_eq_false_iff_not]; omega
          have d2 : decide (4 < p.op) = true := by simp only [decide_eq_true_eq]; omega
          clear g1
          go_wp2_with (first | (go_at_call 146; refine (HN.out _).mono ?_; rintro e w1 ⟨rfl, rfl⟩; rw [HNt.out]) | fail)
          go_ret
          exact ⟨says_no HX.out, bel_alloc Hb.out⟩
        · have HNt := Lib.hid (pb_yes g1)
          have HVt := Lib.hid (pb_no g5)
          have d1 : decide (p.op < 1) = false := by simp only [decide_eq_false_iff_not]; omega
          have d2 : decide (4 < p.op) = false := by simp only [decide_eq_false_iff_not]; omega
          have he := bytes_some g4
          clear g1 g5
          go_wp2_with (first | (go_at_call 146; refine (HN.out _).mono ?_; rintro e w1 ⟨rfl, rfl⟩; rw [HNt.out]) | (go_at_call 147; refine (HV.out _).mono ?_; rintro e w1 ⟨rfl, rfl⟩; rw [HVt.out]) | fail)
          go_ret
          exact ⟨says_no HX.out, bel_alloc Hb.out⟩
    · obtain rfl : k = l.length := by omega
      rw [List.take_length] at HR
      go_wp2_with fail
      go_ret
      exact ⟨says_yes ⟨by omega, HR.out⟩, Hb.out⟩
end Go.Proofs.YtbaflgddpciadaaGreat
