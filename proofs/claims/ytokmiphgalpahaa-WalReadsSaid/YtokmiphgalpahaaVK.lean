/- WalReads (4). -/
import Derived.Test.YtokmiphgalpahaaVC
import Derived.Test.YtokmiphgalpahaaVE
import Derived.Test.YtokmiphgalpahaaVI
import Derived.Test.YtokmiphgalpahaaVJ
namespace Go.Proofs.Ytokmiphgalpahaa
open Go.RowKit Go.Kt
set_option maxRecDepth 100000
variable {F G K : Nat → Prop} {w w' w0 w1 w2 W : World} {d mb wb : Nat} {P : Pd} {seg : Int}
theorem rd0 : openW ⟨4194304, -1, false, []⟩ = (0, some ⟨1, [], []⟩, onP 1 (segB [] []) 18 true) := by kernel_rfl
theorem onP_small (seg : Int) (b : List UInt8) (s : Nat) (k : Bool) (h : seg ≤ 4611686018427387904) : ∀ p ∈ (onP seg b s k).L, p.n ≤ 4611686018427387904 := by
  intro p hp
  simp only [onP, List.mem_cons, List.not_mem_nil, or_false] at hp
  subst hp
  exact h
theorem recsB_add (recs : List (List UInt8)) (p : List UInt8) : (recsB (recs ++ [p])).length = (recsB recs).length + (9 + p.length) := by
  have hs := Fm.Fr.sealed_len 1 p
  simp only [recsB, List.map_append, List.flatten_append, List.length_append, List.map_cons, List.map_nil, List.flatten_cons, List.flatten_nil, List.append_nil, hs]
/-- what holds behind k steps -/
structure RdInv (k : Nat) (seg : Int) (base : List UInt8) (recs : List (List UInt8)) : Prop where
  s1 : 1 ≤ seg
  s2 : seg ≤ 1 + k
  b : base.length ≤ 1500
  r : ∀ x ∈ recs, x.length ≤ 1500
  n : recs.length ≤ k
  z : (recsB recs).length ≤ 1509 * k
theorem RdInv.len {k : Nat} {base : List UInt8} {recs : List (List UInt8)} (h : RdInv k seg base recs) : (segB base recs).length ≤ 1518 + 1509 * k := by
  have := h.b
  have := h.z
  rw [segB_len]
  omega
theorem RdInv.push {k : Nat} {base : List UInt8} {recs : List (List UInt8)} (h : RdInv k seg base recs) {p : List UInt8} (hp : p.length ≤ 1500) : RdInv (k + 1) seg base (recs ++ [p]) := by
  refine ⟨h.s1, by have := h.s2; omega, h.b, fun x hx => ?_, by have := h.n; simp; omega, by have := h.z; rw [recsB_add]; omega⟩
  rcases List.mem_append.1 hx with hx | hx
  · exact h.r x hx
  · simp at hx; subst hx; exact hp
theorem RdInv.more {k : Nat} {base : List UInt8} {recs : List (List UInt8)} (h : RdInv k seg base recs) : RdInv (k + 1) seg base recs := ⟨h.s1, by have := h.s2; omega, h.b, h.r, by have := h.n; omega, by have := h.z; omega⟩
theorem RdInv.anew {k : Nat} {base : List UInt8} {recs : List (List UInt8)} (h : RdInv k seg base recs) {p : List UInt8} (hp : p.length ≤ 1500) : RdInv (k + 1) (seg + 1) p [] := ⟨by have := h.s1; omega, by have := h.s2; omega, hp, by simp, by simp, Nat.zero_le _⟩
set_option maxHeartbeats 4000000 in
theorem reads_any (v : Value) (l : List Op) (w : World) (hv : RdO9 w v l) : Calls Try.prog 4 #[v] w fun e w' => e = .returned (.bool true) ∧ Below w.heap.size w w' := by
  obtain ⟨sa, cap, rfl, hcap, hbig, hcell⟩ := hv.open
  have Hcell := Lib.hid hcell
  clear hcell hv
  go_enter Try.func4, Try.ntmps4
  go_wp2_with fail
  refine (new_ds 4194304 w (by omega)).mono ?_
  rintro e w1 ⟨d, mb, rfl, hd1⟩
  have HD1 := Lib.hid hd1
  clear hd1
  go_wp2_with fail
  refine (lg_open HD1.out (no_small _) rd0).mono ?_
  rintro e w2 ⟨wb, bv, rv, rfl, hl2, hb2, hr2⟩
  obtain ⟨ba, bc, rfl, -, -, -, -⟩ := hb2.open
  obtain ⟨ra, rc, rfl, -, -, -⟩ := hr2.open
  have HL2 := Lib.hid hl2
  clear hl2 hb2 hr2
  simp only [List.length_nil]
  go_wp2_with fail
  refine (awake_any _).mono ?_
  rintro e w3 ⟨rfl, hb3⟩
  have HL3 := Lib.hid (HL2.out.next hb3).with
  clear hb3
  go_wp2_with fail
  go_loopw [5, 9, 10, 11, 12, 44] (fun wv bv av _ _ iv wr => ∃ (k wb : Nat) (seg : Int) (s : Nat) (kk : Bool) (base : List UInt8) (recs : List (List UInt8)), k ≤ l.length ∧ k ≤ 60 ∧ iv = .int .i64 k ∧ wv = .pointer (some ⟨wb, 0, none⟩) ∧ Hid (LgA w wr d mb wb (onP seg (segB base recs) s kk) seg av recs (fun _ => False)) ∧ Hid (Rd8 w bv base) ∧ Hid (RdInv k seg base recs)) (fun _ _ _ _ _ iv _ => l.length - (intOf iv).toNat)
  case atStart => exact ⟨0, wb, 1, 18, true, [], [], by omega, by omega, rfl, rfl, HL3, Lib.hid (rd_nil _), Lib.hid ⟨by omega, by omega, by simp, by simp, by simp, by simp [recsB]⟩⟩
  case round =>
    clear HL3 HL2 HD1
    obtain ⟨k, wb, seg, s, kk, base, recs, hk, hk60, rfl, rfl, HL, HBs, HI⟩ := hrel
    by_cases hlt : k < l.length
    · obtain ⟨o, ho⟩ : ∃ x, l[k]? = some x := ⟨l[k], List.getElem?_eq_getElem hlt⟩
      obtain ⟨b, q, pv, kv, rfl, hok, c0, c1, c2, c3⟩ := Hcell.out k o ho
      have hbl := World.block_lt_of_cell? w _ c0
      have k0 : wr.cell? ⟨b, q + k * 4, none⟩ = some (.int .i64 o.kind) := (HL.out.bel.cell (p := ⟨b, q + k * 4, none⟩) hbl).trans c0
      have k1 : wr.cell? ⟨b, q + k * 4 + 1, none⟩ = some pv := (HL.out.bel.cell (p := ⟨b, q + k * 4 + 1, none⟩) hbl).trans c1
      have k2 : wr.cell? ⟨b, q + k * 4 + 2, none⟩ = some (.int .i64 o.n) := (HL.out.bel.cell (p := ⟨b, q + k * 4 + 2, none⟩) hbl).trans c2
      have k3 : wr.cell? ⟨b, q + k * 4 + 3, none⟩ = some kv := (HL.out.bel.cell (p := ⟨b, q + k * 4 + 3, none⟩) hbl).trans c3
      have Hok := Lib.hid hok
      obtain ⟨pa, pcap, rfl, hb1, hb2, _⟩ := hok.p.open
      obtain ⟨_, ka, kcap, rfl, _⟩ := hok.keep
      have HL1 := Lib.hid (HL.out.next (X' := fun x => x = wr.heap.size) (below_alloc wr (.cells #[.int .i64 o.kind, .slice pa o.p.length pcap, .int .i64 o.n, .slice ka o.keep.length kcap] 38)) (fun x hx => .inr (by omega)))
      have HX1 : Hid (∀ x, x = wr.heap.size → x < (wr.alloc (.cells #[.int .i64 o.kind, .slice pa o.p.length pcap, .int .i64 o.n, .slice ka o.keep.length kcap] 38)).heap.size) := Lib.hid (fun x hx => by simp; omega)
      have HB1 := Lib.hid (Blk.new wr #[.int .i64 o.kind, .slice pa o.p.length pcap, .int .i64 o.n, .slice ka o.keep.length kcap] 38)
      clear ho c0 c1 c2 c3 hok
      by_cases h60 : (60 : Int) ≤ (k : Int)
      · go_wp2_with fail
        go_ret
        exact ⟨rfl, HL1.out.bel⟩
      have d60 : decide ((60 : Int) ≤ (k : Int)) = false := by simp only [decide_eq_false_iff_not]; omega
      by_cases hlong : 1500 < o.p.length
      · have d3 : decide (1500 < (o.p.length : Int)) = true := by simp only [decide_eq_true_eq]; omega
        go_wp2_with fail
        go_ret
        exact ⟨rfl, HL1.out.bel⟩
      have d3 : decide (1500 < (o.p.length : Int)) = false := by simp only [decide_eq_false_iff_not]; omega
      have hpl : o.p.length ≤ 1500 := by omega
      have hseg : Rng seg := ⟨by have := HI.out.s1; omega, by have := HI.out.s2; omega⟩
      have hsl := HI.out.len
      have hs1 := HI.out.s1
      have hs2 := HI.out.s2
      have hrl := HI.out.n
      have Hv : Hid (∀ W, Below w.heap.size w W → Rd8 W (.slice pa o.p.length pcap) o.p) := Lib.hid (fun W hW => Hok.out.p.below hW)
      have hHv := Hv.out _ HL1.out.bel
      clear HL
      by_cases hk0 : o.kind = 0
      · have e0 : (o.kind == 0) = true := by rw [beq_iff_eq]; exact hk0
        clear hk0
        have HR := Lib.hid (recW_on (s := s) (k := kk) hs1 (p := o.p) (base := base) (recs := recs) (by omega) (by omega))
        go_wp2_with fail
        refine (lga_append HL1.out HX1.out hseg hHv).mono ?_
        rw [HR.out]
        rintro e w4 ⟨rfl, hl4, hb4⟩
        have HB4 := Lib.hid (hb4 _ _ _ rfl HB1.out)
        have HL4 := Lib.hid hl4
        have z1 : w4.cell? ⟨wr.heap.size, 1, none⟩ = some (.slice pa o.p.length pcap) := HB4.out.cell 1
        have z1' : (w4.alloc (.cells #[] 5)).cell? ⟨wr.heap.size, 1, none⟩ = some (.slice pa o.p.length pcap) := (HB4.out.next (below_alloc w4 _)).cell 1
        clear hl4 hb4
        go_wp2_with (at_builtin; apply Hold.mk)
        unfold Hold
        have hb5 := below_alloc w4 (.cells #[] 5)
        have hsz5 : (w4.alloc (.cells #[] 5)).heap.size = w4.heap.size + 1 := by simp
        have HL5 := Lib.hid (HL4.out.next (X' := fun _ => False) hb5 (fun x hx => hx.elim))
        have hp5 := Hv.out _ HL5.out.bel
        refine wpList_app8_mine rfl _ _ 22 rfl ok28 [] o.p (by rfl) (by rfl) w4 (below_alloc w4 _) (mine8_at (g := _) (n := 0) [] (by simp [maxLen]) rfl rfl (Nat.le_refl _) rfl) hp5 (by simp; omega) ?_
        intro v7 w7 hm7 hb7 hg7 hz7
        simp only [List.nil_append] at hm7
        obtain ⟨K, hK1, hK2, hK3⟩ := lga_push HL4.out
        have hb47 := hb7
        have hIn : In8 K w7 v7 o.p := (in8_mine hm7).more (fun x hx _ => hK2 x (by omega))
        have hOw := hK1.next hb47
        obtain ⟨va, vcap, rfl, _⟩ := hm7.rd.open
        obtain ⟨ra, rc, rfl, -, -, -⟩ := hOw.rd.open
        have HK3 := Lib.hid hK3
        have Hb47 := Lib.hid hb47
        have HIn := Lib.hid hIn
        have HOw := Lib.hid hOw
        clear hm7 hb7 hg7 hz7 hK1 hK2 hK3 hb47 hIn hOw HL5 hp5 hb5 hsz5 z1'
        go_wp2_with (at_builtin; apply Hold.mk)
        unfold Hold
        refine wpList_app_bs rfl _ _ 24 rfl ok24 (by rfl) (by rfl) rfl HOw.out HIn.out (by omega) ?_
        intro v8 w8 h81 h82 h83
        have HL8 := Lib.hid (HK3.out _ _ _ _ Hb47.out h81 h82)
        clear h81 h82 h83
        go_wp2_with fail
        go_roundw
        case rel => exact ⟨k + 1, wb, seg, _, _, base, recs ++ [o.p], by omega, by omega, by go_num, rfl, HL8, HBs, Lib.hid (HI.out.push hpl)⟩
        case measure => simp [intOf] <;> omega
      have e0 : (o.kind == 0) = false := by rw [beq_eq_false_iff_ne]; exact hk0
      clear hk0
      by_cases hk1 : o.kind = 1
      · have e1 : (o.kind == 1) = true := by rw [beq_iff_eq]; exact hk1
        clear hk1
        go_wp2_with fail
        refine (lga_sync HL1.out HX1.out hseg).mono ?_
        rw [onP_sync]
        rintro e w4 ⟨rfl, hl4⟩
        have HL4 := Lib.hid hl4.off
        clear hl4
        go_wp2_with fail
        go_roundw
        case rel => exact ⟨k + 1, wb, seg, _, _, base, recs, by omega, by omega, by go_num, rfl, HL4, HBs, Lib.hid HI.out.more⟩
        case measure => simp [intOf] <;> omega
      have e1 : (o.kind == 1) = false := by rw [beq_eq_false_iff_ne]; exact hk1
      clear hk1
      by_cases hk2 : o.kind = 2
      · have e2 : (o.kind == 2) = true := by rw [beq_iff_eq]; exact hk2
        clear hk2
        have HR := Lib.hid (rebaseW_on (s := s) (k := kk) (b := segB base recs) hs1 (p := o.p) (by omega) (by omega))
        go_wp2_with fail
        refine (lga_rebase HL1.out HX1.out (by omega) (by omega) hHv).mono ?_
        rw [HR.out]
        rintro e w4 ⟨rfl, hl4, hb4⟩
        have HB4 := Lib.hid (hb4 _ _ _ rfl HB1.out)
        have HL4 := Lib.hid hl4.bare.off
        have z1 : w4.cell? ⟨wr.heap.size, 1, none⟩ = some (.slice pa o.p.length pcap) := HB4.out.cell 1
        clear hl4 hb4
        go_wp2_with fail
        go_roundw
        case rel => exact ⟨k + 1, wb, seg + 1, _, _, o.p, [], by omega, by omega, by go_num, rfl, HL4, Lib.hid Hok.out.p, Lib.hid (HI.out.anew hpl)⟩
        case measure => simp [intOf] <;> omega
      have e2 : (o.kind == 2) = false := by rw [beq_eq_false_iff_ne]; exact hk2
      clear hk2
      have HO := Lib.hid (openW_on (seg := seg) (s := s) (k := kk) (base := base) (recs := recs) (by have := HI.out.b; omega) (fun r hr => by have := HI.out.r r hr; omega))
      go_wp2_with fail
      refine (lga_open HL1.out (onP_small _ _ _ _ (by omega)) HO.out).mono ?_
      rintro e w4 ⟨wb4, bv4, rv4, rfl, hl4, h8, hbs, K, F', q1, q2, q3, q4, q5, q6, q7, q8, q9⟩
      obtain ⟨ba4, bc4, rfl, -, -, -, -⟩ := h8.open
      obtain ⟨ra4, rc4, rfl, -, -, -⟩ := hbs.open
      simp only at q1 q2 h8 hbs
      have Q := Lib.hid (⟨q1, q2, q3, q4, q8, q9, hl4.bel⟩ : _ ∧ _ ∧ _ ∧ _ ∧ _ ∧ _ ∧ _)
      clear hl4 h8 hbs q1 q2 q3 q4 q5 q6 q7 q8 q9
      go_wp2_with fail
      obtain ⟨q1, q2, q3, q4, q8, q9, q10⟩ := Q.out
      refine (lga_open2 q3 q4 q10 q8 q1 q2 q9 (onP_small _ _ _ _ (by omega)) HO.out).mono ?_
      clear q1 q2 q3 q4 q8 q9 q10 Q
      rintro e w5 ⟨wb5, bv5, rv5, rfl, hl5, h8, hbs, h8', hbs'⟩
      obtain ⟨ba5, bc5, rfl, -, -, -, -⟩ := h8.open
      obtain ⟨ra5, rc5, rfl, -, -, -⟩ := hbs.open
      simp only at h8 hbs
      have HL5 := Lib.hid hl5
      have Hbs := Lib.hid hbs
      have Hbs' := Lib.hid hbs'
      obtain ⟨ra, rc, rfl, -, -, -⟩ := hl5.rd.open
      have hbase := HBs.out.below hl5.bel
      obtain ⟨ba, bc, rfl, -, -, -, -⟩ := hbase.open
      have s1 : (convert 22 9 (.slice ba4 base.length bc4)).run Try.prog w5 = .ok (.string ⟨base.toArray⟩) w5 := run_str8 (src := 22) (dst := 9) Try.underlying22 Try.underlying5 Try.underlying9 h8'
      have s2 : (convert 22 9 (.slice ba5 base.length bc5)).run Try.prog w5 = .ok (.string ⟨base.toArray⟩) w5 := run_str8 (src := 22) (dst := 9) Try.underlying22 Try.underlying5 Try.underlying9 h8
      have s3 : (convert 22 9 (.slice ba base.length bc)).run Try.prog w5 = .ok (.string ⟨base.toArray⟩) w5 := run_str8 (src := 22) (dst := 9) Try.underlying22 Try.underlying5 Try.underlying9 hbase
      clear hl5 h8 hbs h8' hbs' hbase
      go_wp2_with fail
      refine (same_any _ _ _ _ _ Hbs'.out HL5.out.rd).mono ?_
      rintro e w6 ⟨rfl, hb6⟩
      have HL6 := Lib.hid (HL5.out.next (X' := fun _ => False) hb6 (fun x hx => hx.elim))
      have Hbs6 := Lib.hid (Hbs.out.next hb6)
      clear hb6
      simp only [decide_true]
      go_wp2_with fail
      refine (same_any _ _ _ _ _ Hbs6.out HL6.out.rd).mono ?_
      rintro e w7 ⟨rfl, hb7⟩
      have HL7 := Lib.hid (HL6.out.next (X' := fun _ => False) hb7 (fun x hx => hx.elim))
      clear hb7
      simp only [decide_true]
      go_wp2_with fail
      go_roundw
      case rel => exact ⟨k + 1, wb5, seg, _, _, base, recs, by omega, by omega, by go_num, rfl, HL7, HBs, Lib.hid HI.out.more⟩
      case measure => simp [intOf] <;> omega
    · obtain rfl : k = l.length := by omega
      go_wp2_with fail
      go_ret
      exact ⟨rfl, HL.out.bel⟩
end Go.Proofs.Ytokmiphgalpahaa
