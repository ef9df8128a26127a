/- Seats: to (7). -/
import Derived.Test.YtgfegadklkecdaaW2
import Derived.Test.YtgfegadklkecdaaKtB
namespace Go.Proofs.Ytgfegadklkecdaa
open Go.RowKit Go.Kt

theorem flatS_one' (x : Seat) : ∀ u ∈ (#[.int .i64 x.shard, .int .i64 x.node, .bool x.up, .bool x.prim, .int .i64 x.closed.wall, .int .u32 x.closed.tick, .int .u32 x.closed.mark, .int .i64 x.safe.wall, .int .u32 x.safe.tick, .int .u32 x.safe.mark, .bool x.held, .int .i64 x.load] : Array Value).toList, u.oneCell' = true := fun u hu => flatS_one [x] u (by simpa [flatS, Seat.cells] using hu)
def To7 (l : List Seat) (w : World) (e : Ending) (w' : World) : Prop := ∃ v, e = .returned v ∧ RdS w' v l ∧ Below w.heap.size w w'
set_option maxRecDepth 100000 in
set_option maxHeartbeats 4000000 in
theorem to_any (v : Value) (l : List Seat) (w : World) (hv : RdS w v l) (hlen : l.length ≤ 1000000) : Calls Try.prog 7 #[v] w (To7 l w) := by
  have Hv := Lib.hid hv
  obtain ⟨a, cap, rfl, hcap, hbig, hcell⟩ := hv.open
  have Hcell := Lib.hid hcell
  clear hcell hv
  go_enter Try.func7, Try.ntmps7
  go_wp2_with fail
  go_loopw [3, 5, 8] (fun out _ iv wr => ∃ k : Nat, k ≤ l.length ∧ iv = .int .i64 k ∧ Hid (Own 45 12 wr out k (flatS (l.take k))) ∧ Hid (∀ b, out.ownBlock = some b → w.heap.size ≤ b) ∧ Hid (Below w.heap.size w wr)) (fun _ _ iv _ => l.length - (intOf iv).toNat)
  case atStart => exact ⟨0, by omega, rfl, Lib.hid (by simpa [flatS] using own_nil w 45 12), Lib.hid (fun b hb => (by cases hb)), Lib.hid (bel_refl _)⟩
  case round =>
    obtain ⟨k, hk, rfl, Ho, Hob, Hb⟩ := hrel
    by_cases hlt : k < l.length
    · obtain ⟨x, hx⟩ : ∃ x, l[k]? = some x := ⟨l[k], List.getElem?_eq_getElem hlt⟩
      obtain ⟨b, o, rfl, hat⟩ := Hcell.out k x hx
      have Htk := Lib.hid (flatS_take l k x hx)
      obtain ⟨c0, c1, c2, c3, c4, c5, c6, c7, c8, c9, c10, c11⟩ := hat.below Hb.out hat.lt
      have HBx := Lib.hid (Blk.new wr #[.int .i64 x.shard, .int .i64 x.node, .bool x.up, .bool x.prim, .int .i64 x.closed.wall, .int .u32 x.closed.tick, .int .u32 x.closed.mark, .int .i64 x.safe.wall, .int .u32 x.safe.tick, .int .u32 x.safe.mark, .bool x.held, .int .i64 x.load] 40)
      clear hat hx
      go_wp2_with fail
      clear c0 c1 c2 c3 c4 c5 c6 c7 c8 c9 c10 c11
      have k0 : (wr.alloc (.cells #[.int .i64 x.shard, .int .i64 x.node, .bool x.up, .bool x.prim, .int .i64 x.closed.wall, .int .u32 x.closed.tick, .int .u32 x.closed.mark, .int .i64 x.safe.wall, .int .u32 x.safe.tick, .int .u32 x.safe.mark, .bool x.held, .int .i64 x.load] 40)).cell? ⟨wr.heap.size, 0, none⟩ = some (.int .i64 x.shard) := HBx.out.cell 0
      have k1 : (wr.alloc (.cells #[.int .i64 x.shard, .int .i64 x.node, .bool x.up, .bool x.prim, .int .i64 x.closed.wall, .int .u32 x.closed.tick, .int .u32 x.closed.mark, .int .i64 x.safe.wall, .int .u32 x.safe.tick, .int .u32 x.safe.mark, .bool x.held, .int .i64 x.load] 40)).cell? ⟨wr.heap.size, 1, none⟩ = some (.int .i64 x.node) := HBx.out.cell 1
      have k2 : (wr.alloc (.cells #[.int .i64 x.shard, .int .i64 x.node, .bool x.up, .bool x.prim, .int .i64 x.closed.wall, .int .u32 x.closed.tick, .int .u32 x.closed.mark, .int .i64 x.safe.wall, .int .u32 x.safe.tick, .int .u32 x.safe.mark, .bool x.held, .int .i64 x.load] 40)).cell? ⟨wr.heap.size, 2, none⟩ = some (.bool x.up) := HBx.out.cell 2
      have k3 : (wr.alloc (.cells #[.int .i64 x.shard, .int .i64 x.node, .bool x.up, .bool x.prim, .int .i64 x.closed.wall, .int .u32 x.closed.tick, .int .u32 x.closed.mark, .int .i64 x.safe.wall, .int .u32 x.safe.tick, .int .u32 x.safe.mark, .bool x.held, .int .i64 x.load] 40)).cell? ⟨wr.heap.size, 3, none⟩ = some (.bool x.prim) := HBx.out.cell 3
      have k4 : (wr.alloc (.cells #[.int .i64 x.shard, .int .i64 x.node, .bool x.up, .bool x.prim, .int .i64 x.closed.wall, .int .u32 x.closed.tick, .int .u32 x.closed.mark, .int .i64 x.safe.wall, .int .u32 x.safe.tick, .int .u32 x.safe.mark, .bool x.held, .int .i64 x.load] 40)).cell? ⟨wr.heap.size, 4, none⟩ = some (.int .i64 x.closed.wall) := HBx.out.cell 4
      have k5 : (wr.alloc (.cells #[.int .i64 x.shard, .int .i64 x.node, .bool x.up, .bool x.prim, .int .i64 x.closed.wall, .int .u32 x.closed.tick, .int .u32 x.closed.mark, .int .i64 x.safe.wall, .int .u32 x.safe.tick, .int .u32 x.safe.mark, .bool x.held, .int .i64 x.load] 40)).cell? ⟨wr.heap.size, 5, none⟩ = some (.int .u32 x.closed.tick) := HBx.out.cell 5
      have k6 : (wr.alloc (.cells #[.int .i64 x.shard, .int .i64 x.node, .bool x.up, .bool x.prim, .int .i64 x.closed.wall, .int .u32 x.closed.tick, .int .u32 x.closed.mark, .int .i64 x.safe.wall, .int .u32 x.safe.tick, .int .u32 x.safe.mark, .bool x.held, .int .i64 x.load] 40)).cell? ⟨wr.heap.size, 6, none⟩ = some (.int .u32 x.closed.mark) := HBx.out.cell 6
      have k7 : (wr.alloc (.cells #[.int .i64 x.shard, .int .i64 x.node, .bool x.up, .bool x.prim, .int .i64 x.closed.wall, .int .u32 x.closed.tick, .int .u32 x.closed.mark, .int .i64 x.safe.wall, .int .u32 x.safe.tick, .int .u32 x.safe.mark, .bool x.held, .int .i64 x.load] 40)).cell? ⟨wr.heap.size, 7, none⟩ = some (.int .i64 x.safe.wall) := HBx.out.cell 7
      have k8 : (wr.alloc (.cells #[.int .i64 x.shard, .int .i64 x.node, .bool x.up, .bool x.prim, .int .i64 x.closed.wall, .int .u32 x.closed.tick, .int .u32 x.closed.mark, .int .i64 x.safe.wall, .int .u32 x.safe.tick, .int .u32 x.safe.mark, .bool x.held, .int .i64 x.load] 40)).cell? ⟨wr.heap.size, 8, none⟩ = some (.int .u32 x.safe.tick) := HBx.out.cell 8
      have k9 : (wr.alloc (.cells #[.int .i64 x.shard, .int .i64 x.node, .bool x.up, .bool x.prim, .int .i64 x.closed.wall, .int .u32 x.closed.tick, .int .u32 x.closed.mark, .int .i64 x.safe.wall, .int .u32 x.safe.tick, .int .u32 x.safe.mark, .bool x.held, .int .i64 x.load] 40)).cell? ⟨wr.heap.size, 9, none⟩ = some (.int .u32 x.safe.mark) := HBx.out.cell 9
      have k10 : (wr.alloc (.cells #[.int .i64 x.shard, .int .i64 x.node, .bool x.up, .bool x.prim, .int .i64 x.closed.wall, .int .u32 x.closed.tick, .int .u32 x.closed.mark, .int .i64 x.safe.wall, .int .u32 x.safe.tick, .int .u32 x.safe.mark, .bool x.held, .int .i64 x.load] 40)).cell? ⟨wr.heap.size, 10, none⟩ = some (.bool x.held) := HBx.out.cell 10
      have k11 : (wr.alloc (.cells #[.int .i64 x.shard, .int .i64 x.node, .bool x.up, .bool x.prim, .int .i64 x.closed.wall, .int .u32 x.closed.tick, .int .u32 x.closed.mark, .int .i64 x.safe.wall, .int .u32 x.safe.tick, .int .u32 x.safe.mark, .bool x.held, .int .i64 x.load] 40)).cell? ⟨wr.heap.size, 11, none⟩ = some (.int .i64 x.load) := HBx.out.cell 11
      have Hw1 : Hid (Below wr.heap.size wr (wr.alloc (.cells #[.int .i64 x.shard, .int .i64 x.node, .bool x.up, .bool x.prim, .int .i64 x.closed.wall, .int .u32 x.closed.tick, .int .u32 x.closed.mark, .int .i64 x.safe.wall, .int .u32 x.safe.tick, .int .u32 x.safe.mark, .bool x.held, .int .i64 x.load] 40))) := Lib.hid (below_alloc _ _)
      have hbl : wr.heap.size < (wr.alloc (.cells #[.int .i64 x.shard, .int .i64 x.node, .bool x.up, .bool x.prim, .int .i64 x.closed.wall, .int .u32 x.closed.tick, .int .u32 x.closed.mark, .int .i64 x.safe.wall, .int .u32 x.safe.tick, .int .u32 x.safe.mark, .bool x.held, .int .i64 x.load] 40)).heap.size := HBx.out.lt
      generalize (wr.alloc (.cells #[.int .i64 x.shard, .int .i64 x.node, .bool x.up, .bool x.prim, .int .i64 x.closed.wall, .int .u32 x.closed.tick, .int .u32 x.closed.mark, .int .i64 x.safe.wall, .int .u32 x.safe.tick, .int .u32 x.safe.mark, .bool x.held, .int .i64 x.load] 40)) = w1 at *
      have HK : Hid (∀ w', Below w1.heap.size w1 w' → w'.cell? ⟨wr.heap.size, 0, none⟩ = some (.int .i64 x.shard) ∧ w'.cell? ⟨wr.heap.size, 1, none⟩ = some (.int .i64 x.node) ∧ w'.cell? ⟨wr.heap.size, 2, none⟩ = some (.bool x.up) ∧ w'.cell? ⟨wr.heap.size, 3, none⟩ = some (.bool x.prim) ∧ w'.cell? ⟨wr.heap.size, 4, none⟩ = some (.int .i64 x.closed.wall) ∧ w'.cell? ⟨wr.heap.size, 5, none⟩ = some (.int .u32 x.closed.tick) ∧ w'.cell? ⟨wr.heap.size, 6, none⟩ = some (.int .u32 x.closed.mark) ∧ w'.cell? ⟨wr.heap.size, 7, none⟩ = some (.int .i64 x.safe.wall) ∧ w'.cell? ⟨wr.heap.size, 8, none⟩ = some (.int .u32 x.safe.tick) ∧ w'.cell? ⟨wr.heap.size, 9, none⟩ = some (.int .u32 x.safe.mark) ∧ w'.cell? ⟨wr.heap.size, 10, none⟩ = some (.bool x.held) ∧ w'.cell? ⟨wr.heap.size, 11, none⟩ = some (.int .i64 x.load)) := Lib.hid (fun w' h => ⟨(HBx.out.next h).cell 0, (HBx.out.next h).cell 1, (HBx.out.next h).cell 2, (HBx.out.next h).cell 3, (HBx.out.next h).cell 4, (HBx.out.next h).cell 5, (HBx.out.next h).cell 6, (HBx.out.next h).cell 7, (HBx.out.next h).cell 8, (HBx.out.next h).cell 9, (HBx.out.next h).cell 10, (HBx.out.next h).cell 11⟩)
      have hx1 := bel_refl w1
      have Ho1 := Lib.hid (Ho.out.below' Hw1.out)
      go_region_held3 (fun w' => w'.cell? ⟨wr.heap.size, 0, none⟩ = some (.int .i64 x.shard) ∧ w'.cell? ⟨wr.heap.size, 1, none⟩ = some (.int .i64 x.node) ∧ w'.cell? ⟨wr.heap.size, 2, none⟩ = some (.bool x.up) ∧ w'.cell? ⟨wr.heap.size, 3, none⟩ = some (.bool x.prim) ∧ w'.cell? ⟨wr.heap.size, 4, none⟩ = some (.int .i64 x.closed.wall) ∧ w'.cell? ⟨wr.heap.size, 5, none⟩ = some (.int .u32 x.closed.tick) ∧ w'.cell? ⟨wr.heap.size, 6, none⟩ = some (.int .u32 x.closed.mark) ∧ w'.cell? ⟨wr.heap.size, 7, none⟩ = some (.int .i64 x.safe.wall) ∧ w'.cell? ⟨wr.heap.size, 8, none⟩ = some (.int .u32 x.safe.tick) ∧ w'.cell? ⟨wr.heap.size, 9, none⟩ = some (.int .u32 x.safe.mark) ∧ w'.cell? ⟨wr.heap.size, 10, none⟩ = some (.bool x.held) ∧ w'.cell? ⟨wr.heap.size, 11, none⟩ = some (.int .i64 x.load))
        (first | (exact ⟨hB7.cell 0, hB7.cell 1, hB7.cell 2, hB7.cell 3, hB7.cell 4, hB7.cell 5, hB7.cell 6, hB7.cell 7, hB7.cell 8, hB7.cell 9, hB7.cell 10, hB7.cell 11⟩) | go_keep | (exact HK.out _ (by repeat (first | assumption | apply bel_alloc | apply bel_drew))))
        (first
          | (refine step_app (by rfl) _ _ 31 (by rfl) ok31 (by rfl) (by rfl) (Ho1.out.below' (by repeat (first | assumption | apply bel_alloc | apply bel_drew))) (own_lit_at (g := _) 45 12 #[.int .i64 x.shard, .int .i64 x.node, .bool x.up, .bool x.prim, .int .i64 x.closed.wall, .int .u32 x.closed.tick, .int .u32 x.closed.mark, .int .i64 x.safe.wall, .int .u32 x.safe.tick, .int .u32 x.safe.mark, .bool x.held, .int .i64 x.load] 1 (by simp [maxLen]) rfl (by simp)).rd (flatS_one' x) (by simp only [maxLen]; omega) (by omega) ?_; intro v7 w7 ho7 hg7 hn7; have hB7 := (HBx.out.next (by repeat (first | assumption | apply bel_alloc | apply bel_drew))).grown hg7 (own_no_blk (Ho1.out.below' (by repeat (first | assumption | apply bel_alloc | apply bel_drew))) (HBx.out.next (by repeat (first | assumption | apply bel_alloc | apply bel_drew))) (by decide)))
          | (go_at_call_of 8 (x.closed.wall); refine (to_any1 x.closed _).mono ?_; rintro e w3 ⟨rfl, hb⟩; unfold St.val; have hw3 : Below w1.heap.size w1 w3 := bel_trans (by repeat (first | assumption | apply bel_alloc | apply bel_drew)) hb; clear hb)
          | (go_at_call_of 8 (x.safe.wall); refine (to_any1 x.safe _).mono ?_; rintro e w4 ⟨rfl, hb⟩; unfold St.val; have hw4 : Below w1.heap.size w1 w4 := bel_trans (by repeat (first | assumption | apply bel_alloc | apply bel_drew)) hb; clear hb))
      have Ho7 : Hid (Own 45 12 w7 v7 (k + 1) (flatS (l.take (k + 1)))) := Lib.hid (by rw [Htk.out]; exact ho7)
      have hz : w.heap.size ≤ w1.heap.size := Nat.le_trans Hb.out.size Hw1.out.size
      have Hob7 : Hid (∀ b, v7.ownBlock = some b → w.heap.size ≤ b) := Lib.hid (fun b hb => (hn7 b hb).elim (Hob.out b) (fun h => by have := hw4.size; simp at h; omega))
      have Hb7 : Hid (Below w.heap.size w w7) := Lib.hid ((bel_trans (bel_trans Hb.out Hw1.out) (by repeat (first | assumption | apply bel_alloc | apply bel_drew))).grown hg7 (by have := hw4.size; simp; omega) Hob.out)
      clear ho7 hg7 hn7 Ho Hob Hb hB7
      go_wp2_with fail
      go_roundw
      case rel => exact ⟨k + 1, by omega, by go_num, Ho7, Hob7, Hb7⟩
      case measure => simp [intOf]; omega
    · obtain rfl : k = l.length := by omega
      go_wp2_with fail
      go_ret
      have := Ho.out.rd
      rw [List.take_length] at this
      exact ⟨u3, rfl, this, Hb.out⟩
end Go.Proofs.Ytgfegadklkecdaa
