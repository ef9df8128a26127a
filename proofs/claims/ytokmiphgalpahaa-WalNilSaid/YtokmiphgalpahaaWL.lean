/- Crash (13). -/
import Derived.Test.YtokmiphgalpahaaWK
namespace Go.Proofs.Ytokmiphgalpahaa
open Go.RowKit Go.Kt
set_option maxRecDepth 100000
variable {F : Nat → Prop} {w w' : World} {d mb : Nat} {room fuse : Int} {down : Bool} {l : List Sg}
theorem crash_nil (w : World) (v : Value) : Calls Try.prog 25 #[.pointer none, v] w fun e w' => e = .returned (.int .i64 2) ∧ w = w' := by
  go_enter Try.func25, Try.ntmps25
  go_wp2_with fail
  go_ret
  exact ⟨rfl, rfl⟩
theorem own_cut_run {w : World} {a : Option Addr} {n cap : Nat} {b : List UInt8} (h : Own8 5 w (.slice a n cap) b) (k : Nat) (hk : k ≤ n) (W : World) : (Instr.slice 22 (.slice a n cap) none (some (.int .i64 (k : Int))) none).run Try.prog W = .ok (.slice a k cap) W := by
  rcases h.2 with ⟨e, h0⟩ | ⟨g, cap', cur, e, hb, hg, hn, hm, hcs, ht⟩
  · injection e with e1 e2 e3
    subst e1 e2 e3
    obtain rfl : k = 0 := by omega
    rw [run_cut_hi ok28 W none 0 0 0 .i64 (by omega) (by omega)]
    rfl
  · injection e with e1 e2 e3
    subst e1 e2 e3
    rw [run_cut_hi ok28 W _ _ _ k .i64 hk (by omega)]
    split <;> simp [Addr.add]
theorem Turn.drewN {F : Nat → Prop} {w w' : World} (n : Nat) (h : Turn F w w') : Turn F w (w'.drewN n) := ⟨h.os, h.tape, h.output, h.size, h.block⟩
theorem Turn.drew {F : Nat → Prop} {w w' : World} (h : Turn F w w') : Turn F w w'.drew := ⟨h.os, h.tape, h.output, h.size, h.block⟩
theorem crash_gone {keep : List Int} {pre : List Sg} {s : Sg} (h : keepN keep pre.length s = 0 ∧ s.kept = false) : crashL keep 0 (pre ++ [s]) = crashL keep 0 pre := by
  rw [crashL_append, Nat.zero_add]
  show _ ++ (if keepN keep pre.length s = 0 ∧ s.kept = false then [] else _) = _
  rw [if_pos h, List.append_nil]
theorem crash_stay {keep : List Int} {pre : List Sg} {s : Sg} (h : ¬ (keepN keep pre.length s = 0 ∧ s.kept = false)) : crashL keep 0 (pre ++ [s]) = crashL keep 0 pre ++ [s.cutTo (keepN keep pre.length s) true] := by
  rw [crashL_append, Nat.zero_add]
  show _ ++ (if keepN keep pre.length s = 0 ∧ s.kept = false then [] else _) = _
  rw [if_neg h]
  rfl
theorem DiskIs.cut1 {a rest : List Sg} {s : Sg} (h : DiskIs F w d mb room fuse down (a ++ s :: rest)) {k : Nat} {kept : Bool} (hk : k ≤ s.b.length) (ht : Turn (fun x => x = s.g) w w') (hb : Blk w' s.g (s.cutTo k kept).cells 95) :
    DiskIs F w' d mb room fuse down (a ++ s.cutTo k kept :: rest) := by
  have hs : s ∈ a ++ s :: rest := by simp
  have hg := h.seg s hs
  have e := swap_mid (s := s) (s' := s.cutTo k kept) rfl a rest h.inc
  rw [← e]
  have hlen : (s.b.take k).length = k := by simp; omega
  refine h.turn (s := s) (s' := s.cutTo k kept) hs rfl rfl (ht.mono (fun x hx => .inl hx)) hb ?_ (by show k ≤ (s.b.take k).length; omega) (fun x hx => .inl (by rw [← cutV_block s.v k]; exact hx)) ?_ (fun x hx => hx) (fun x hx => (h.Fs s hs).2 x (by rw [← cutV_block s.v k]; exact hx))
  · have h1 : Own8 5 w' s.v s.b := Own.keep hg.2.1 fun b hb => ht.block b (hg.2.1.lt b hb) (fun e => own_no_blk hg.2.1 hg.1 (by decide) (e ▸ hb))
    exact own8_cut h1 k hk
  · rw [e]
    have h1 := h.tot
    rw [used_mid] at h1 ⊢
    have : (s.cutTo k kept).b.length = k := hlen
    omega
set_option maxRecDepth 100000 in
set_option maxHeartbeats 4000000 in
theorem crash_any (h : DiskIs F w d mb room fuse down l) {kv : Value} {keep : List Int} (hk : RdRow 1 w kv keep.length (keep.map encZ)) (hF : ∀ x, kv.ownBlock = some x → keep ≠ [] → ¬ F x) (hlt : ∀ x, kv.ownBlock = some x → keep ≠ [] → x < w.heap.size) :
    Calls Try.prog 25 #[.pointer (some ⟨d, 0, none⟩), kv] w fun e w' => e = .returned (.int .i64 0) ∧ DiskIs F w' d mb room (-1) false (crashL keep 0 l) ∧ Turn F w w' := by
  obtain ⟨c0, c1, c2, c3⟩ := h.cell
  obtain ⟨f, ⟨D, hD, hsz, hcf⟩, hf⟩ := h.map
  have hlen := h.len
  have cS := sorted_any mb l.length D anyElem w hD (by unfold maxLen; omega) (by omega)
  have CS := Lib.hid cS
  have HN : Hid (∀ ss : List Int, ss.Perm (intKeys D) → ss.mergeSort (fun x y => decide (x ≤ y)) = l.map (·.n)) := Lib.hid (fun ss hp => nums_sorted h.inc hf hcf hD hp)
  have H := Lib.hid h
  have HK := Lib.hid hk
  obtain ⟨_, ka, kcap, rfl, _⟩ := hk
  have HF := Lib.hid hF
  have Hlt := Lib.hid hlt
  clear h hD hsz hcf hf cS hF hlt
  go_enter Try.func25, Try.ntmps25
  go_wp2_with (first
    | (go_at_call 46; refine (keys_any (some mb) _).mono ?_; rintro e w1 ⟨rfl, rfl⟩)
    | (go_at_call 45; refine CS.out.mono ?_; rintro e w2 ⟨v, ss, rfl, hp, hrow, hnil, hb⟩; have hm := HN.out ss hp; have hll : ss.length = l.length := (by have := congrArg List.length hm; simpa using this); rw [hm, hll] at hrow; have HB2 : Hid (Below w.heap.size w w2) := Lib.hid (((Below.refl _ w).alloc (Nat.le_refl _) _).trans (hb.mono (by simp))); obtain ⟨_, va, vcap, rfl, _⟩ := (show Own 3 1 w2 v l.length ((l.map (·.n)).map encZ) from ownsRow_base_a hrow (by omega)).rd; have Hrow := Lib.hid hrow; clear hp hrow hnil hb hm hll))
  have HT2 : Hid (DiskIs (fun x => F x ∧ x < w.heap.size) w2 d mb room fuse down l) := Lib.hid (H.out.tight.next HB2.out)
  go_loopw [5, 6, 7, 8, 18] (fun _ _ _ _ iv wr => ∃ pre rest, Hid (l = pre ++ rest) ∧ iv = .int .i64 (pre.length : Int) ∧ Hid (DiskIs (fun x => F x ∧ x < w.heap.size) wr d mb room fuse down (crashL keep 0 pre ++ rest)) ∧ Hid (Turn (fun x => F x ∧ x < w.heap.size) w2 wr)) (fun _ _ _ _ iv _ => l.length - (intOf iv).toNat)
  case atStart => exact ⟨[], l, Lib.hid rfl, rfl, HT2, Lib.hid (Turn.refl _ _)⟩
  case round =>
    obtain ⟨pre, rest, Hl, rfl, HD, HT⟩ := hrel
    cases rest with
    | nil =>
      have hl2 : pre.length = l.length := by rw [Hl.out]; simp
      have hb := HD.out.blk
      have q3 : wr.frozen? ⟨d, 3, none⟩ = false := hb.free 3
      have q2 : wr.frozen? ⟨d, 2, none⟩ = false := hb.free 2
      have hdl := hb.lt
      obtain ⟨_, _, g2, g3⟩ := HD.out.cell
      have HTF : Hid (Turn (· = d) wr ((wr.setCell ⟨d, 3, none⟩ (.bool false)).setCell ⟨d, 2, none⟩ (.int .i64 (-1)))) := Lib.hid (((Turn.refl (· = d) wr).set (a := ⟨d, 3, none⟩) rfl _).set (a := ⟨d, 2, none⟩) rfl _)
      have HDF : Hid (DiskIs (fun x => F x ∧ x < w.heap.size) ((wr.setCell ⟨d, 3, none⟩ (.bool false)).setCell ⟨d, 2, none⟩ (.int .i64 (-1))) d mb room (-1) false (crashL keep 0 pre ++ [])) := Lib.hid (HD.out.own ((hb.set 3 _).set 2 _) HTF.out (by omega) (by omega))
      clear hb
      go_wp2_with fail
      go_ret
      have hz := HDF.out
      rw [List.append_nil] at hz
      have hpl : pre = l := by have := Hl.out; rw [List.append_nil] at this; exact this.symm
      subst hpl
      exact ⟨rfl, hz.more (fun x hx => hx.1), ((Turn.of (F := F) HB2.out).trans (HT.out.trans HTF.out (fun x hx => .inl (hx ▸ HD.out.Fd))) (fun x hx => .inl hx.1))⟩
    | cons s rest =>
      have hs : s ∈ crashL keep 0 pre ++ s :: rest := by simp
      have hi : pre.length < l.length := by rw [Hl.out]; simp
      have hsl : l[pre.length]? = some s := by rw [Hl.out]; simp
      have hgo := (HD.out.seg s hs)
      have hb := hgo.1
      have k0 : wr.cell? ⟨s.g, 0, none⟩ = some s.v := hb.cell 0
      have k1 : wr.cell? ⟨s.g, 1, none⟩ = some (.int .i64 s.sure) := hb.cell 1
      have k2 : wr.cell? ⟨s.g, 2, none⟩ = some (.bool s.kept) := hb.cell 2
      have f0 : wr.frozen? ⟨s.g, 0, none⟩ = false := hb.free 0
      have f1 : wr.frozen? ⟨s.g, 1, none⟩ = false := hb.free 1
      have f2 : wr.frozen? ⟨s.g, 2, none⟩ = false := hb.free 2
      have hgl := hb.lt
      have hl1 := HD.out.look1 hs
      unfold Sg.ptr at hl1
      obtain ⟨_, e1, _, _⟩ := HD.out.cell
      have hsm := HD.out.small hs
      have hsu := hgo.2.2.1
      obtain ⟨_, sa, scap, hsv, hsc, hsm2, _⟩ := hgo.2.1.rd
      rw [hsv] at k0
      have hcut : Hid (∀ (k : Nat), k ≤ s.b.length → ∀ W, (Instr.slice 22 (.slice sa s.b.length scap) none (some (.int .i64 (k : Int))) none).run Try.prog W = .ok (.slice sa k scap) W) := Lib.hid (fun k hk W => own_cut_run (by rw [← hsv]; exact hgo.2.1) k hk W)
      have Hgo := Lib.hid hgo
      have Hsv := Lib.hid hsv
      have Hs := Lib.hid hs
      obtain ⟨vb, hvb, hvc⟩ : ∃ b, va = some ⟨b, 0, none⟩ ∧ wr.cell? ⟨b, pre.length, none⟩ = some (.int .i64 s.n) := by
        have hrow := Hrow.out
        have hq := World.ownsRow.lt hrow
        rcases hrow.2 with ⟨e, h0⟩ | ⟨g, cap', cur, e, hb, hg, hn, hm, hcs, ht⟩
        · omega
        · injection e with e1 e2 e3
          subst e1
          refine ⟨g, rfl, ?_⟩
          have h5 := hq g rfl
          rw [World.cell?_of_block (w := w2) (HT.out.block g h5.2 (fun hx => by have := hx.2; omega)), cell_of_row w2 g _ cur 3 (0, 0) hg]
          have h2 := congrArg (fun z => z[pre.length]?) ht
          simp only [List.getElem?_take, if_pos (show pre.length < l.length * 1 by omega)] at h2
          rw [List.map_map, List.getElem?_map, hsl] at h2
          simpa [encZ] using h2
      subst hvb
      have j1 : (0 : Int) ≤ (pre.length : Int) := by omega
      have j2 : (pre.length : Int) < (l.length : Int) := by omega
      clear hgo hb hsv hs hsl
      by_cases hki : pre.length < keep.length
      · obtain ⟨kx, hkx⟩ : ∃ x, keep[pre.length]? = some x := ⟨keep[pre.length], List.getElem?_eq_getElem hki⟩
        obtain ⟨kb, ko, hka, hkc⟩ : ∃ b o, ka = some ⟨b, o, none⟩ ∧ wr.cell? ⟨b, o + pre.length, none⟩ = some (.int .i64 kx) := by
          have h1 := HK.out.below HB2.out
          have h2 : RdRow 1 wr (.slice ka keep.length kcap) keep.length (keep.map encZ) := h1.keep fun b hb => HT.out.block b (Nat.lt_of_lt_of_le (Hlt.out b hb (by rintro rfl; simp at hki)) HB2.out.size) (fun hx => HF.out b hb (by rintro rfl; simp at hki) hx.1)
          obtain ⟨_, a', c', e, _, _, _, h6⟩ := h2
          injection e with e1 _ _
          subst e1
          exact h6 pre.length _ (by rw [List.getElem?_map, hkx]; rfl)
        subst hka
        have j3 : (pre.length : Int) < (keep.length : Int) := by omega
        go_upto_region 9 with fail
        go_quiet (fail)
        go_upto_region 9 with fail
        have hm : moreOf keep pre.length (s.b.length - s.sure) = min kx.toNat (s.b.length - s.sure) := by unfold moreOf; rw [hkx]
        rw [show max 0 (min kx ((s.b.length : Int) - (s.sure : Int))) = ((moreOf keep pre.length (s.b.length - s.sure) : Nat) : Int) by omega]
        have hmle := moreOf_le keep pre.length (s.b.length - s.sure)
        have HKN : Hid (keepN keep pre.length s = s.sure + moreOf keep pre.length (s.b.length - s.sure)) := Lib.hid rfl
        clear hm
        generalize moreOf keep pre.length (s.b.length - s.sure) = m at *
        have hrun : ∀ W, (Instr.slice 22 (.slice sa s.b.length scap) none (some (.int .i64 ((s.sure : Int) + (m : Int)))) none).run Try.prog W = .ok (.slice sa (s.sure + m) scap) W := fun W => by
          have := hcut.out (s.sure + m) (by omega) W
          rwa [Int.natCast_add] at this
        go_region
        all_goals (go_upto_region 11 with fail)
        have hT3 : Turn (fun x => x = s.g) wr (((wr.drewN (nq + 1)).setCell ⟨s.g, 0, none⟩ (.slice sa (s.sure + m) scap)).setCell ⟨s.g, 1, none⟩ (.int .i64 ((s.sure : Int) + (m : Int)))) := ((Turn.drewN (nq + 1) (Turn.refl (fun x => x = s.g) wr)).set (a := ⟨s.g, 0, none⟩) rfl _).set (a := ⟨s.g, 1, none⟩) rfl _
        have hB3 : Blk (((wr.drewN (nq + 1)).setCell ⟨s.g, 0, none⟩ (.slice sa (s.sure + m) scap)).setCell ⟨s.g, 1, none⟩ (.int .i64 ((s.sure : Int) + (m : Int)))) s.g #[.slice sa (s.sure + m) scap, .int .i64 ((s.sure : Int) + (m : Int)), .bool s.kept] 95 := by
          have hz := Hgo.out.1
          have hz2 := (hz.set 0 (.slice sa (s.sure + m) scap)).set 1 (.int .i64 ((s.sure : Int) + (m : Int)))
          exact hz2
        have hkk : keepN keep pre.length s = s.sure + m := HKN.out
        generalize (((wr.drewN (nq + 1)).setCell ⟨s.g, 0, none⟩ (.slice sa (s.sure + m) scap)).setCell ⟨s.g, 1, none⟩ (.int .i64 ((s.sure : Int) + (m : Int)))) = W3 at *
        have HD3 : Hid (DiskIs (fun x => F x ∧ x < w.heap.size) W3 d mb room fuse down (crashL keep 0 pre ++ s.cutTo (s.sure + m) s.kept :: rest)) := Lib.hid (HD.out.cut1 (by omega) hT3 (by
          have e : (s.cutTo (s.sure + m) s.kept).cells = #[.slice sa (s.sure + m) scap, .int .i64 ((s.sure : Int) + (m : Int)), .bool s.kept] := by
            unfold Sg.cells Sg.cutTo cutV
            simp only [Hsv.out]
            rw [Int.natCast_add]
          rw [e]
          exact hB3))
        obtain ⟨_, e5, _, _⟩ := HD3.out.cell
        have m1 : W3.cell? ⟨s.g, 1, none⟩ = some (.int .i64 ((s.sure : Int) + (m : Int))) := hB3.cell 1
        have m2 : W3.cell? ⟨s.g, 2, none⟩ = some (.bool s.kept) := hB3.cell 2
        have m3 : W3.frozen? ⟨s.g, 2, none⟩ = false := hB3.free 2
        have hgl3 := hB3.lt
        have HT3 : Hid (Turn (fun x => F x ∧ x < w.heap.size) w2 W3) := Lib.hid (HT.out.trans hT3 (fun x hx => .inl (hx ▸ (HD.out.Fs s Hs.out).1)))
        have HB3 := Lib.hid hB3
        have HHl : Hid (l = (pre ++ [s]) ++ rest) := Lib.hid (by rw [Hl.out]; simp)
        clear hT3 hB3
        by_cases hgone : keepN keep pre.length s = 0 ∧ s.kept = false
        · have z1 : ((s.sure : Int) + (m : Int)) = 0 := by have := hgone.1; omega
          have z2 := hgone.2
          have Hgone := Lib.hid hgone
          obtain ⟨w5, hr5, hD5, hg5⟩ := HD3.out.drop (s := s.cutTo (s.sure + m) s.kept) (by simp) 0
          have hr5' : (Builtin.delete_ #[67, 3] 0 #[.map (some mb), .int .i64 s.n]).run Try.prog W3 = .ok (.tuple #[]) w5 := hr5
          have HD5 : Hid (DiskIs (fun x => F x ∧ x < w.heap.size) w5 d mb room fuse down (crashL keep 0 (pre ++ [s]) ++ rest)) := Lib.hid (by
            have hz := del_mid (crashL keep 0 pre) rest HD3.out.inc
            have hz2 := hD5
            rw [hz] at hz2
            rw [crash_gone Hgone.out]
            exact hz2)
          have HT5 : Hid (Turn (fun x => F x ∧ x < w.heap.size) w2 w5) := Lib.hid (HT3.out.trans (Turn.grown hg5 (F := fun x => F x ∧ x < w.heap.size) (fun x hx => by injection hx with hx; exact hx ▸ HD.out.Fm)) (fun x hx => .inl hx))
          rw [z2] at m2
          clear hgone hr5 hD5 hg5 hkk
          go_wp2_with fail
          go_roundw
          case rel => exact ⟨pre ++ [s], rest, HHl, by simp, HD5, HT5⟩
          case measure => simp [intOf] <;> omega
        · have HTF : Hid (Turn (fun x => x = s.g) W3 (W3.setCell ⟨s.g, 2, none⟩ (.bool true))) := Lib.hid ((Turn.refl (fun x => x = s.g) W3).set (a := ⟨s.g, 2, none⟩) rfl _)
          have HD5 : Hid (DiskIs (fun x => F x ∧ x < w.heap.size) (W3.setCell ⟨s.g, 2, none⟩ (.bool true)) d mb room fuse down (crashL keep 0 (pre ++ [s]) ++ rest)) := Lib.hid (by
            have hq := HD3.out.cut1 (k := s.sure + m) (kept := true) (by show _ ≤ (s.b.take (s.sure + m)).length; rw [List.length_take]; omega) HTF.out (by
              have hz := HB3.out.set 2 (.bool true)
              have e : ((s.cutTo (s.sure + m) s.kept).cutTo (s.sure + m) true).cells = #[.slice sa (s.sure + m) scap, .int .i64 ((s.sure : Int) + (m : Int)), .bool true] := by
                unfold Sg.cells Sg.cutTo cutV
                simp only [Hsv.out]
                rw [Int.natCast_add]
              rw [e]
              exact hz)
            have e2 : (s.cutTo (s.sure + m) s.kept).cutTo (s.sure + m) true = s.cutTo (s.sure + m) true := by
              unfold Sg.cutTo cutV
              simp only [Hsv.out]
              rw [List.take_take, Nat.min_self]
            rw [e2] at hq
            rw [crash_stay hgone, hkk, List.append_assoc]
            exact hq)
          have HT5 : Hid (Turn (fun x => F x ∧ x < w.heap.size) w2 (W3.setCell ⟨s.g, 2, none⟩ (.bool true))) := Lib.hid (HT3.out.trans HTF.out (fun x hx => .inl (hx ▸ (HD.out.Fs s Hs.out).1)))
          by_cases hz0 : ((s.sure : Int) + (m : Int)) = 0
          · have z2 : s.kept = true := by
              cases hkp : s.kept with
              | true => rfl
              | false => exact (hgone ⟨by omega, hkp⟩).elim
            rw [z2] at m2
            clear hgone hkk
            go_wp2_with fail
            go_roundw
            case rel => exact ⟨pre ++ [s], rest, HHl, by simp, HD5, HT5⟩
            case measure => simp [intOf] <;> omega
          · have z1 : decide (((s.sure : Int) + (m : Int)) = 0) = false := by simpa using hz0
            clear hgone hkk
            go_wp2_with fail
            go_roundw
            case rel => exact ⟨pre ++ [s], rest, HHl, by simp, HD5, HT5⟩
            case measure => simp [intOf] <;> omega
      · have j3 : decide ((pre.length : Int) < (keep.length : Int)) = false := by simp only [decide_eq_false_iff_not]; omega
        go_upto_region 9 with fail
        have HKN : Hid (keepN keep pre.length s = s.sure) := Lib.hid (by unfold keepN moreOf; rw [List.getElem?_eq_none (by omega)]; rfl)
        have hrun : ∀ W, (Instr.slice 22 (.slice sa s.b.length scap) none (some (.int .i64 (s.sure : Int))) none).run Try.prog W = .ok (.slice sa s.sure scap) W := fun W => hcut.out s.sure (by omega) W
        go_region
        all_goals (go_upto_region 11 with fail)
        have hT3 : Turn (fun x => x = s.g) wr ((wr.setCell ⟨s.g, 0, none⟩ (.slice sa s.sure scap)).setCell ⟨s.g, 1, none⟩ (.int .i64 s.sure)).drew := (((Turn.refl (fun x => x = s.g) wr)).set (a := ⟨s.g, 0, none⟩) rfl _).set (a := ⟨s.g, 1, none⟩) rfl _ |>.drew
        have hB3 : Blk ((wr.setCell ⟨s.g, 0, none⟩ (.slice sa s.sure scap)).setCell ⟨s.g, 1, none⟩ (.int .i64 s.sure)).drew s.g #[.slice sa (s.sure) scap, .int .i64 (s.sure : Int), .bool s.kept] 95 := by
          have hz := Hgo.out.1
          have hz2 := (hz.set 0 (.slice sa (s.sure) scap)).set 1 (.int .i64 (s.sure : Int))
          exact hz2
        have hkk : keepN keep pre.length s = s.sure := HKN.out
        generalize ((wr.setCell ⟨s.g, 0, none⟩ (.slice sa s.sure scap)).setCell ⟨s.g, 1, none⟩ (.int .i64 s.sure)).drew = W3 at *
        have HD3 : Hid (DiskIs (fun x => F x ∧ x < w.heap.size) W3 d mb room fuse down (crashL keep 0 pre ++ s.cutTo (s.sure) s.kept :: rest)) := Lib.hid (HD.out.cut1 (by omega) hT3 (by
          have e : (s.cutTo (s.sure) s.kept).cells = #[.slice sa (s.sure) scap, .int .i64 (s.sure : Int), .bool s.kept] := by
            unfold Sg.cells Sg.cutTo cutV
            simp only [Hsv.out]
          rw [e]
          exact hB3))
        obtain ⟨_, e5, _, _⟩ := HD3.out.cell
        have m1 : W3.cell? ⟨s.g, 1, none⟩ = some (.int .i64 (s.sure : Int)) := hB3.cell 1
        have m2 : W3.cell? ⟨s.g, 2, none⟩ = some (.bool s.kept) := hB3.cell 2
        have m3 : W3.frozen? ⟨s.g, 2, none⟩ = false := hB3.free 2
        have hgl3 := hB3.lt
        have HT3 : Hid (Turn (fun x => F x ∧ x < w.heap.size) w2 W3) := Lib.hid (HT.out.trans hT3 (fun x hx => .inl (hx ▸ (HD.out.Fs s Hs.out).1)))
        have HB3 := Lib.hid hB3
        have HHl : Hid (l = (pre ++ [s]) ++ rest) := Lib.hid (by rw [Hl.out]; simp)
        clear hT3 hB3
        by_cases hgone : keepN keep pre.length s = 0 ∧ s.kept = false
        · have z1 : (s.sure : Int) = 0 := by have := hgone.1; omega
          have z2 := hgone.2
          have Hgone := Lib.hid hgone
          obtain ⟨w5, hr5, hD5, hg5⟩ := HD3.out.drop (s := s.cutTo (s.sure) s.kept) (by simp) 0
          have hr5' : (Builtin.delete_ #[67, 3] 0 #[.map (some mb), .int .i64 s.n]).run Try.prog W3 = .ok (.tuple #[]) w5 := hr5
          have HD5 : Hid (DiskIs (fun x => F x ∧ x < w.heap.size) w5 d mb room fuse down (crashL keep 0 (pre ++ [s]) ++ rest)) := Lib.hid (by
            have hz := del_mid (crashL keep 0 pre) rest HD3.out.inc
            have hz2 := hD5
            rw [hz] at hz2
            rw [crash_gone Hgone.out]
            exact hz2)
          have HT5 : Hid (Turn (fun x => F x ∧ x < w.heap.size) w2 w5) := Lib.hid (HT3.out.trans (Turn.grown hg5 (F := fun x => F x ∧ x < w.heap.size) (fun x hx => by injection hx with hx; exact hx ▸ HD.out.Fm)) (fun x hx => .inl hx))
          rw [z2] at m2
          clear hgone hr5 hD5 hg5 hkk
          go_wp2_with fail
          go_roundw
          case rel => exact ⟨pre ++ [s], rest, HHl, by simp, HD5, HT5⟩
          case measure => simp [intOf] <;> omega
        · have HTF : Hid (Turn (fun x => x = s.g) W3 (W3.setCell ⟨s.g, 2, none⟩ (.bool true))) := Lib.hid ((Turn.refl (fun x => x = s.g) W3).set (a := ⟨s.g, 2, none⟩) rfl _)
          have HD5 : Hid (DiskIs (fun x => F x ∧ x < w.heap.size) (W3.setCell ⟨s.g, 2, none⟩ (.bool true)) d mb room fuse down (crashL keep 0 (pre ++ [s]) ++ rest)) := Lib.hid (by
            have hq := HD3.out.cut1 (k := s.sure) (kept := true) (by show _ ≤ (s.b.take (s.sure)).length; rw [List.length_take]; omega) HTF.out (by
              have hz := HB3.out.set 2 (.bool true)
              have e : ((s.cutTo (s.sure) s.kept).cutTo (s.sure) true).cells = #[.slice sa (s.sure) scap, .int .i64 (s.sure : Int), .bool true] := by
                unfold Sg.cells Sg.cutTo cutV
                simp only [Hsv.out]
              rw [e]
              exact hz)
            have e2 : (s.cutTo (s.sure) s.kept).cutTo (s.sure) true = s.cutTo (s.sure) true := by
              unfold Sg.cutTo cutV
              simp only [Hsv.out]
              rw [List.take_take, Nat.min_self]
            rw [e2] at hq
            rw [crash_stay hgone, hkk, List.append_assoc]
            exact hq)
          have HT5 : Hid (Turn (fun x => F x ∧ x < w.heap.size) w2 (W3.setCell ⟨s.g, 2, none⟩ (.bool true))) := Lib.hid (HT3.out.trans HTF.out (fun x hx => .inl (hx ▸ (HD.out.Fs s Hs.out).1)))
          by_cases hz0 : (s.sure : Int) = 0
          · have z2 : s.kept = true := by
              cases hkp : s.kept with
              | true => rfl
              | false => exact (hgone ⟨by omega, hkp⟩).elim
            rw [z2] at m2
            clear hgone hkk
            go_wp2_with fail
            go_roundw
            case rel => exact ⟨pre ++ [s], rest, HHl, by simp, HD5, HT5⟩
            case measure => simp [intOf] <;> omega
          · have z1 : decide ((s.sure : Int) = 0) = false := by simpa using hz0
            clear hgone hkk
            go_wp2_with fail
            go_roundw
            case rel => exact ⟨pre ++ [s], rest, HHl, by simp, HD5, HT5⟩
            case measure => simp [intOf] <;> omega
end Go.Proofs.Ytokmiphgalpahaa
