/- Seats: Load (17), May (11), ahead (14). -/
import Derived.Test.YtgfegadklkecdaaW4
namespace Go.Proofs.Ytgfegadklkecdaa
open Go.RowKit Go.Kt

def RdI (w : World) (v : Value) (l : List Int) : Prop := RdRow 1 w v l.length (l.map (Value.int .i64))
theorem RdI.below {w w' : World} {v : Value} {l : List Int} (h : RdI w v l) (hb : Below w.heap.size w w') : RdI w' v l := RdRow.below h hb
theorem RdI.open {w : World} {v : Value} {l : List Int} (h : RdI w v l) : ∃ a cap, v = .slice a l.length cap ∧ l.length ≤ cap ∧ cap ≤ 9223372036854775807 ∧
    ∀ (i : Nat) (x : Int), l[i]? = some x → ∃ b o, a = some ⟨b, o, none⟩ ∧ w.cell? ⟨b, o + i, none⟩ = some (.int .i64 x) := by
  obtain ⟨_, a, cap, rfl, h1, h2, _, h5⟩ := h
  exact ⟨a, cap, rfl, h1, h2, fun i x hi => h5 i _ (by rw [List.getElem?_map, hi]; rfl)⟩
theorem maxLoad_snoc (l : List Seat) (node : Int) (k : Nat) (x : Seat) (h : l[k]? = some x) : maxLoad (l.take (k + 1)) node = if x.node = node ∧ maxLoad (l.take k) node < x.load then x.load else maxLoad (l.take k) node := fold_snoc _ _ l k x h
theorem bump_snoc (node m : Int) (l : List Int) (k : Nat) (x : Int) (h : l[k]? = some x) : (l.take (k + 1)).foldl (bump node) m = bump node ((l.take k).foldl (bump node) m) x := fold_snoc _ _ l k x h

theorem maxLoad_nonneg (l : List Seat) (node : Int) : 0 ≤ maxLoad l node := by
  suffices h : ∀ (l : List Seat) (m : Int), 0 ≤ m → 0 ≤ l.foldl (fun m s => if s.node = node ∧ m < s.load then s.load else m) m from h l 0 (Int.le_refl _)
  intro l
  induction l with
  | nil => exact fun m h => h
  | cons x t ih =>
    intro m h
    refine ih _ ?_
    show 0 ≤ if x.node = node ∧ m < x.load then x.load else m
    split
    · rename_i hh; omega
    · exact h
theorem bump_nonneg (node : Int) : ∀ (l : List Int) (m : Int), 0 ≤ m → 0 ≤ l.foldl (bump node) m
  | [], _, h => h
  | x :: t, m, h => bump_nonneg node t _ (by unfold bump; split <;> omega)
set_option maxHeartbeats 2000000 in
theorem load_any (v vp : Value) (l : List Seat) (out : List Int) (node : Int) (w : World) (hv : RdS w v l) (hp : RdI w vp out) :
    Calls Try.prog 17 #[v, .int .i64 node, vp] w fun e w' => e = .returned (.int .i64 (loadN l out node)) ∧ w = w' := by
  obtain ⟨a, cap, rfl, hcap, hbig, hcell⟩ := hv.open
  obtain ⟨pa, pcap, rfl, hpcap, hpbig, hpcell⟩ := hp.open
  have Hcell := Lib.hid hcell
  have Hpcell := Lib.hid hpcell
  clear hcell hpcell hv hp
  go_enter Try.func17, Try.ntmps17
  go_wp2_with fail
  go_loop [7, 8] (fun mv iv => ∃ k : Nat, k ≤ l.length ∧ iv = .int .i64 k ∧ mv = .int .i64 (maxLoad (l.take k) node)) (fun _ iv => l.length - (intOf iv).toNat)
  case atStart => exact ⟨0, by omega, rfl, rfl⟩
  case round =>
    obtain ⟨k, hk, rfl, rfl⟩ := hrel
    by_cases hlt : k < l.length
    · obtain ⟨x, hx⟩ : ∃ x, l[k]? = some x := ⟨l[k], List.getElem?_eq_getElem hlt⟩
      obtain ⟨b, o, rfl, hat⟩ := Hcell.out k x hx
      have Hsn := Lib.hid (maxLoad_snoc l node k x hx)
      obtain ⟨c0, c1, c2, c3, c4, c5, c6, c7, c8, c9, c10, c11⟩ := hat
      clear c0 c2 c3 c4 c5 c6 c7 c8 c9 c10 hx
      generalize maxLoad (l.take k) node = m at *
      by_cases hn : x.node = node
      · have d : (x.node == node) = true := by rw [beq_iff_eq]; exact hn
        have Hn := Lib.hid hn
        clear hn
        by_cases hm : m < x.load
        · go_wp2_with fail
          go_round
          case rel => exact ⟨k + 1, by omega, by go_num, by rw [Hsn.out, if_pos ⟨Hn.out, hm⟩]⟩
          case measure => simp [intOf]; omega
        · have d2 : decide (m < x.load) = false := by simpa using hm
          go_wp2_with fail
          go_round
          case rel => exact ⟨k + 1, by omega, by go_num, by rw [Hsn.out, if_neg (fun h => by have := h.2; omega)]⟩
          case measure => simp [intOf]; omega
      · have d : (x.node == node) = false := by rw [beq_eq_false_iff_ne]; exact hn
        have Hn := Lib.hid hn
        clear hn
        go_wp2_with fail
        go_round
        case rel => exact ⟨k + 1, by omega, by go_num, by rw [Hsn.out, if_neg (fun h => Hn.out h.1)]⟩
        case measure => simp [intOf]; omega
    · obtain rfl : k = l.length := by omega
      rw [List.take_length]
      have HD : Hid (loadN l out node = out.foldl (bump node) (maxLoad l node)) := Lib.hid rfl
      have hm0 : 0 ≤ maxLoad l node := maxLoad_nonneg l node
      generalize maxLoad l node = m0 at *
      go_wp2_with fail
      go_loop [7, 9] (fun mv iv => ∃ k : Nat, k ≤ out.length ∧ iv = .int .i64 k ∧ mv = .int .i64 ((out.take k).foldl (bump node) m0)) (fun _ iv => out.length - (intOf iv).toNat)
      case atStart => exact ⟨0, by omega, rfl, rfl⟩
      case round =>
        obtain ⟨k, hk, rfl, rfl⟩ := hrel
        by_cases hlt : k < out.length
        · obtain ⟨x, hx⟩ : ∃ x, out[k]? = some x := ⟨out[k], List.getElem?_eq_getElem hlt⟩
          obtain ⟨b, o, rfl, c1⟩ := Hpcell.out k x hx
          have Hsn := Lib.hid (bump_snoc node m0 out k x hx)
          clear hx
          have hmm : 0 ≤ (out.take k).foldl (bump node) m0 := bump_nonneg node _ m0 hm0
          generalize (out.take k).foldl (bump node) m0 = m at *
          by_cases hn : x = node
          · have d : (x == node) = true := by rw [beq_iff_eq]; exact hn
            have Hn := Lib.hid hn
            clear hn
            by_cases hm : m < 4611686018427387904
            · go_wp2_with fail
              go_round
              case rel => exact ⟨k + 1, by omega, by go_num, by rw [Hsn.out]; unfold bump; rw [if_pos ⟨Hn.out, hm⟩]⟩
              case measure => simp [intOf]; omega
            · have d2 : decide (m < 4611686018427387904) = false := by simpa using hm
              go_wp2_with fail
              go_round
              case rel => exact ⟨k + 1, by omega, by go_num, by rw [Hsn.out]; unfold bump; rw [if_neg (fun h => by have := h.2; omega)]⟩
              case measure => simp [intOf]; omega
          · have d : (x == node) = false := by rw [beq_eq_false_iff_ne]; exact hn
            have Hn := Lib.hid hn
            clear hn
            go_wp2_with fail
            go_round
            case rel => exact ⟨k + 1, by omega, by go_num, by rw [Hsn.out]; unfold bump; rw [if_neg (fun h => Hn.out h.1)]⟩
            case measure => simp [intOf]; omega
        · obtain rfl : k = out.length := by omega
          rw [List.take_length]
          go_wp2_with fail
          go_ret
          exact ⟨by rw [HD.out]; rfl, rfl⟩

set_option maxHeartbeats 2000000 in
theorem may_any (x : Seat) (shard : Int) (t : St) (w : World) : Calls Try.prog 11 #[x.val, .int .i64 shard, t.val] w fun e w' => e = .returned (.bool (mayB x shard t)) ∧ Below w.heap.size w w' := by
  generalize hp : mayB x shard t = p
  have Hp := Lib.hid hp
  clear hp
  have HB : Hid (Blk ((w.alloc (.cells #[.int .i64 x.shard, .int .i64 x.node, .bool x.up, .bool x.prim, .int .i64 x.closed.wall, .int .u32 x.closed.tick, .int .u32 x.closed.mark, .int .i64 x.safe.wall, .int .u32 x.safe.tick, .int .u32 x.safe.mark, .bool x.held, .int .i64 x.load] 40)).alloc (.cells #[.int .i64 t.wall, .int .u32 t.tick, .int .u32 t.mark] 25)) w.heap.size #[.int .i64 x.shard, .int .i64 x.node, .bool x.up, .bool x.prim, .int .i64 x.closed.wall, .int .u32 x.closed.tick, .int .u32 x.closed.mark, .int .i64 x.safe.wall, .int .u32 x.safe.tick, .int .u32 x.safe.mark, .bool x.held, .int .i64 x.load] 40) :=
    Lib.hid ((Blk.new w _ 40).next (below_alloc _ _))
  have HT : Hid (Blk ((w.alloc (.cells #[.int .i64 x.shard, .int .i64 x.node, .bool x.up, .bool x.prim, .int .i64 x.closed.wall, .int .u32 x.closed.tick, .int .u32 x.closed.mark, .int .i64 x.safe.wall, .int .u32 x.safe.tick, .int .u32 x.safe.mark, .bool x.held, .int .i64 x.load] 40)).alloc (.cells #[.int .i64 t.wall, .int .u32 t.tick, .int .u32 t.mark] 25)) (w.heap.size + 1) #[.int .i64 t.wall, .int .u32 t.tick, .int .u32 t.mark] 25) := Lib.hid (by
    have hb := Blk.new (w.alloc (.cells #[.int .i64 x.shard, .int .i64 x.node, .bool x.up, .bool x.prim, .int .i64 x.closed.wall, .int .u32 x.closed.tick, .int .u32 x.closed.mark, .int .i64 x.safe.wall, .int .u32 x.safe.tick, .int .u32 x.safe.mark, .bool x.held, .int .i64 x.load] 40)) #[.int .i64 t.wall, .int .u32 t.tick, .int .u32 t.mark] 25
    simp only [World.size_alloc] at hb
    exact hb)
  unfold Seat.val St.val
  by_cases h1 : x.shard = shard
  case neg =>
    have HH : Hid (p = false) := Lib.hid (by rw [← Hp.out]; simp [mayB, h1])
    have d : (x.shard == shard) = false := by rw [beq_eq_false_iff_ne]; exact h1
    clear h1
    go_enter Try.func11, Try.ntmps11; go_wp2_with fail; go_ret; exact ⟨by rw [HH.out]; rfl, bel_alloc (bel_alloc (bel_refl _))⟩
  have d1 : (x.shard == shard) = true := by rw [beq_iff_eq]; exact h1
  have H1 := Lib.hid h1
  clear h1
  cases h2 : x.up with
  | false =>
    have HH : Hid (p = false) := Lib.hid (by rw [← Hp.out]; simp [mayB, h2])
    clear h2 HB HT
    go_enter Try.func11, Try.ntmps11; go_wp2_with fail; go_ret; exact ⟨by rw [HH.out]; rfl, bel_alloc (bel_alloc (bel_refl _))⟩
  | true =>
  rw [h2] at HB HT
  cases h3 : blw t x.safe with
  | true =>
    have HH : Hid (p = false) := Lib.hid (by rw [← Hp.out]; simp [mayB, h3])
    have H3 := Lib.hid h3
    clear h3 h2
    go_enter Try.func11, Try.ntmps11
    go_wp2_with fail
    refine (blw_any t x.safe _).mono ?_
    rw [H3.out]
    rintro e w1 ⟨rfl, hb⟩
    have Hb := Lib.hid (bel_trans (bel_alloc (bel_alloc (bel_refl w))) hb)
    clear hb
    go_wp2_with fail
    go_ret
    exact ⟨by rw [HH.out]; rfl, Hb.out⟩
  | false =>
  have H3 := Lib.hid h3
  cases h4 : blw x.closed t with
  | true =>
    have HH : Hid (p = false) := Lib.hid (by rw [← Hp.out]; simp [mayB, h4])
    have H4 := Lib.hid h4
    clear h3 h2 h4
    go_enter Try.func11, Try.ntmps11
    go_wp2_with fail
    refine (blw_any t x.safe _).mono ?_
    rw [H3.out]
    rintro e w1 ⟨rfl, hb⟩
    have hB1 := HB.out.next hb
    have hT1 := HT.out.next hb
    have HB1 := Lib.hid hB1
    have Hb := Lib.hid (bel_trans (bel_alloc (bel_alloc (bel_refl w))) hb)
    have k4 : w1.cell? ⟨w.heap.size, 4, none⟩ = some (.int .i64 x.closed.wall) := hB1.cell 4
    have k5 : w1.cell? ⟨w.heap.size, 5, none⟩ = some (.int .u32 x.closed.tick) := hB1.cell 5
    have k6 : w1.cell? ⟨w.heap.size, 6, none⟩ = some (.int .u32 x.closed.mark) := hB1.cell 6
    have m0 : w1.cell? ⟨w.heap.size + 1, 0, none⟩ = some (.int .i64 t.wall) := hT1.cell 0
    have m1 : w1.cell? ⟨w.heap.size + 1, 1, none⟩ = some (.int .u32 t.tick) := hT1.cell 1
    have m2 : w1.cell? ⟨w.heap.size + 1, 2, none⟩ = some (.int .u32 t.mark) := hT1.cell 2
    clear hb hB1 hT1
    go_wp2_with fail
    refine (blw_any x.closed t _).mono ?_
    rw [H4.out]
    rintro e w2 ⟨rfl, hb⟩
    have k10 : w2.cell? ⟨w.heap.size, 10, none⟩ = some (.bool x.held) := (HB1.out.next hb).cell 10
    have Hb2 := Lib.hid (bel_trans Hb.out hb)
    clear hb k4 k5 k6 m0 m1 m2
    go_wp2_with fail
    go_ret
    exact ⟨by rw [HH.out]; rfl, Hb2.out⟩
  | false =>
    have HH : Hid (p = !x.held) := Lib.hid (by rw [← Hp.out]; simp [mayB, H1.out, h2, h3, h4])
    have H4 := Lib.hid h4
    clear h3 h2 h4
    go_enter Try.func11, Try.ntmps11
    go_wp2_with fail
    refine (blw_any t x.safe _).mono ?_
    rw [H3.out]
    rintro e w1 ⟨rfl, hb⟩
    have hB1 := HB.out.next hb
    have hT1 := HT.out.next hb
    have HB1 := Lib.hid hB1
    have Hb := Lib.hid (bel_trans (bel_alloc (bel_alloc (bel_refl w))) hb)
    have k4 : w1.cell? ⟨w.heap.size, 4, none⟩ = some (.int .i64 x.closed.wall) := hB1.cell 4
    have k5 : w1.cell? ⟨w.heap.size, 5, none⟩ = some (.int .u32 x.closed.tick) := hB1.cell 5
    have k6 : w1.cell? ⟨w.heap.size, 6, none⟩ = some (.int .u32 x.closed.mark) := hB1.cell 6
    have m0 : w1.cell? ⟨w.heap.size + 1, 0, none⟩ = some (.int .i64 t.wall) := hT1.cell 0
    have m1 : w1.cell? ⟨w.heap.size + 1, 1, none⟩ = some (.int .u32 t.tick) := hT1.cell 1
    have m2 : w1.cell? ⟨w.heap.size + 1, 2, none⟩ = some (.int .u32 t.mark) := hT1.cell 2
    clear hb hB1 hT1
    go_wp2_with fail
    refine (blw_any x.closed t _).mono ?_
    rw [H4.out]
    rintro e w2 ⟨rfl, hb⟩
    have k10 : w2.cell? ⟨w.heap.size, 10, none⟩ = some (.bool x.held) := (HB1.out.next hb).cell 10
    have Hb2 := Lib.hid (bel_trans Hb.out hb)
    clear hb k4 k5 k6 m0 m1 m2
    go_wp2_with fail
    go_ret
    exact ⟨by rw [HH.out]; rfl, Hb2.out⟩
end Go.Proofs.Ytgfegadklkecdaa
