/- DiskKeeps (3). -/
import Derived.Test.YtnggihfggghigaaWR
namespace Go.Proofs.Ytnggihfggghigaa
open Go.RowKit Go.Kt
/-- what is known of a disk of one segment: its bytes are all that was appended, its sure ones those of the last Sync -/
def KInv (P : Pd) (all : List UInt8) (sure : Nat) : Prop := P.room = 1048576 ∧ ((P.L = [] ∧ all = [] ∧ sure = 0) ∨ ∃ kept, P.L = [⟨1, all, sure, kept⟩] ∧ sure ≤ all.length)
theorem KInv.sure {P : Pd} {all : List UInt8} {sure : Nat} (h : KInv P all sure) : sure ≤ all.length := by
  rcases h.2 with ⟨_, h1, h2⟩ | ⟨_, _, h⟩
  · omega
  · exact h
theorem KInv.len {P : Pd} {all : List UInt8} {sure : Nat} (h : KInv P all sure) (ht : (usedP P.L : Int) ≤ P.room) : all.length ≤ 1048576 := by
  obtain ⟨h1, h2⟩ := h
  rw [h1] at ht
  rcases h2 with ⟨_, h3, _⟩ | ⟨k, h3, _⟩
  · rw [h3]; simp
  · rw [h3] at ht
    simp [usedP] at ht
    omega
theorem app_kinv {P : Pd} {all : List UInt8} {sure : Nat} (h : KInv P all sure) (pl : List UInt8) : ((P.app 1 pl).1 = 0 ∧ KInv (P.app 1 pl).2 (all ++ pl) sure) ∨ ((P.app 1 pl).1 ≠ 0 ∧ KInv (P.app 1 pl).2 all sure) := by
  unfold Pd.app
  split
  · exact .inr ⟨by simp, h⟩
  split
  · exact .inr ⟨by simp, h⟩
  split
  · exact .inr ⟨by simp, h⟩
  split
  · exact .inr ⟨by simp, h⟩
  refine .inl ⟨rfl, h.1, .inr ?_⟩
  rcases h.2 with ⟨h1, h2, h3⟩ | ⟨k, h1, h2⟩
  · refine ⟨false, ?_, by omega⟩
    show appP 1 pl P.L = _
    rw [h1, h2, h3]
    rfl
  · refine ⟨k, ?_, by rw [List.length_append]; omega⟩
    show appP 1 pl P.L = _
    rw [h1]
    rfl
theorem sync_kinv {P : Pd} {all : List UInt8} {sure : Nat} (h : KInv P all sure) : ((P.sync 1).1 = 0 ∧ KInv (P.sync 1).2 all all.length) ∨ ((P.sync 1).1 ≠ 0 ∧ KInv (P.sync 1).2 all sure) := by
  unfold Pd.sync
  split
  · exact .inr ⟨by simp, h⟩
  split
  · exact .inr ⟨by simp, h⟩
  rename_i hh
  split
  · exact .inr ⟨by simp, h⟩
  refine .inl ⟨rfl, h.1, .inr ?_⟩
  rcases h.2 with ⟨h1, h2, h3⟩ | ⟨k, h1, h2⟩
  · rw [h1] at hh
    exact (hh (fun ⟨p, hp, _⟩ => by cases hp)).elim
  · refine ⟨true, ?_, Nat.le_refl _⟩
    show P.L.map (syncP 1) = _
    rw [h1]
    rfl
theorem fuse_kinv {P : Pd} {all : List UInt8} {sure : Nat} (h : KInv P all sure) (n : Int) : KInv (P.setFuse n).2 all sure := by
  unfold Pd.setFuse
  split
  · exact h
  · exact h
/-- what a crash leaves, and what Read tells of it -/
theorem crash_kinv {P : Pd} {all : List UInt8} {sure : Nat} (h : KInv P all sure) (keep : List Int) :
    ∃ b, readP (P.crash keep) 1 = ((readP (P.crash keep) 1).1, b) ∧ ((readP (P.crash keep) 1).1 = 0 ∨ (readP (P.crash keep) 1).1 = 6 ∧ sure = 0) ∧ sure ≤ b.length ∧ b.length ≤ all.length ∧ all.take b.length = b ∧ KInv (P.crash keep) b b.length := by
  rcases h.2 with ⟨h1, h2, h3⟩ | ⟨k, h1, h2⟩
  · refine ⟨[], ?_⟩
    have e : (P.crash keep) = ⟨P.room, -1, false, []⟩ := by unfold Pd.crash; rw [h1]; rfl
    rw [e]
    exact ⟨rfl, .inr ⟨rfl, h3⟩, by simp [h3], by simp, rfl, h.1, .inl ⟨rfl, rfl, rfl⟩⟩
  · have hk : keepP keep 0 ⟨1, all, sure, k⟩ ≤ all.length := by
      have := moreOf_le keep 0 (all.length - sure)
      show sure + _ ≤ _
      simp only
      omega
    have hk2 : sure ≤ keepP keep 0 ⟨1, all, sure, k⟩ := Nat.le_add_right _ _
    have e : (P.crash keep) = ⟨P.room, -1, false, if keepP keep 0 ⟨1, all, sure, k⟩ = 0 ∧ k = false then [] else [⟨1, all.take (keepP keep 0 ⟨1, all, sure, k⟩), keepP keep 0 ⟨1, all, sure, k⟩, true⟩]⟩ := by
      unfold Pd.crash
      rw [h1]
      rfl
    generalize keepP keep 0 ⟨1, all, sure, k⟩ = m at *
    by_cases hg : m = 0 ∧ k = false
    · rw [if_pos hg] at e
      rw [e]
      exact ⟨[], rfl, .inr ⟨rfl, by omega⟩, by simp; omega, by simp, rfl, h.1, .inl ⟨rfl, rfl, rfl⟩⟩
    · rw [if_neg hg] at e
      rw [e]
      have hl : (all.take m).length = m := by rw [List.length_take]; omega
      refine ⟨all.take m, rfl, .inl rfl, by omega, by omega, by rw [hl], h.1, .inr ⟨true, ?_, Nat.le_refl _⟩⟩
      simp only [hl]

/-- a disk and the bytes that were appended, apart -/
structure KS (w0 w : World) (d mb : Nat) (P : Pd) (allv : Value) (all : List UInt8) : Prop where
  disk : ∃ F, DAt F w d mb P ∧ (∀ x, F x → w0.heap.size ≤ x ∧ x < w.heap.size) ∧ ∀ b, allv.ownBlock = some b → ¬ F b
  all : Mine8 5 w0 w allv all
  bel : Below w0.heap.size w0 w
variable {w0 w w' W : World} {d mb : Nat} {P : Pd} {allv : Value} {all : List UInt8}
theorem KS.next (h : KS w0 w d mb P allv all) (hb : Below w.heap.size w w') : KS w0 w' d mb P allv all := by
  obtain ⟨⟨F, h1, h2, h3⟩, h4, h5⟩ := h
  exact ⟨⟨F, h1.next hb, fun x hx => ⟨(h2 x hx).1, Nat.lt_of_lt_of_le (h2 x hx).2 hb.size⟩, h3⟩, h4.below hb, bel_trans h5 hb⟩
theorem KS.fresh (h : KS w0 w d mb P allv all) (hb : Below w.heap.size w w') {v : Value} {b : List UInt8} (hm : Mine8 5 w w' v b) : KS w0 w' d mb P v b := by
  obtain ⟨⟨F, h1, h2, h3⟩, h4, h5⟩ := h
  exact ⟨⟨F, h1.next hb, fun x hx => ⟨(h2 x hx).1, Nat.lt_of_lt_of_le (h2 x hx).2 hb.size⟩, fun x hx hf => by have := hm.2 x hx; have := (h2 x hf).2; omega⟩, hm.since h5.size, bel_trans h5 hb⟩
theorem KS.did {F : Nat → Prop} (h4 : Mine8 5 w0 w allv all) (h5 : Below w0.heap.size w0 w) (h2 : ∀ x, F x → w0.heap.size ≤ x ∧ x < w.heap.size) (h3 : ∀ b, allv.ownBlock = some b → ¬ F b) {r : Int × Pd} {e : Ending} (hd : Done F w d mb r e w') :
    e = .returned (.int .i64 r.1) ∧ KS w0 w' d mb r.2 allv all := by
  obtain ⟨he, hD, hT⟩ := hd
  have hs := h5.size
  have hs' := hT.size
  refine ⟨he, ⟨_, hD, fun x hx => ?_, fun b hb hx => ?_⟩, ⟨Own.keep h4.1 fun b hb => hT.block b (h4.1.lt b hb) (h3 b hb), h4.2⟩, h5.trans (hT.bel hs (fun x hx => (h2 x hx).1))⟩
  · rcases hx with hx | hx
    · have := h2 x hx; exact ⟨this.1, by omega⟩
    · exact ⟨by omega, hx.2⟩
  · rcases hx with hx | hx
    · exact h3 b hb hx
    · have := h4.1.lt b hb; omega
theorem app_ks (h : KS w0 w d mb P allv all) (hb : Below w.heap.size w W) {n : Int} (hn : Rng n) {v : Value} {pl : List UInt8} (hv : Rd8 w0 v pl) : Calls Try.prog 10 #[.pointer (some ⟨d, 0, none⟩), .int .i64 n, v] W fun e w' => e = .returned (.int .i64 (P.app n pl).1) ∧ KS w0 w' d mb (P.app n pl).2 allv all ∧ ∀ k, w.heap.size ≤ k → k < W.heap.size → w'.heap[k]? = W.heap[k]? := by
  have hn' := h.next hb
  obtain ⟨⟨F, h1, h2, h3⟩, h4, h5⟩ := h
  have h2' : ∀ x, F x → w0.heap.size ≤ x ∧ x < W.heap.size := fun x hx => ⟨(h2 x hx).1, Nat.lt_of_lt_of_le (h2 x hx).2 hb.size⟩
  refine (app_any (h1.next hb) hn (hv.below hn'.bel) (fun x hx hp hf => by have := rd_lt hv (by simpa using hp) x hx; have := (h2 x hf).1; omega) (fun x hx hp => Nat.lt_of_lt_of_le (rd_lt hv (by simpa using hp) x hx) hn'.bel.size)).mono fun e w' hd => ?_
  have h6 := KS.did hn'.all hn'.bel h2' h3 hd
  exact ⟨h6.1, h6.2, fun k hk1 hk2 => hd.2.2.block k hk2 (fun hf => by have := (h2 k hf).2; omega)⟩
theorem sync_ks (h : KS w0 w d mb P allv all) {n : Int} (hn : Rng n) : Calls Try.prog 11 #[.pointer (some ⟨d, 0, none⟩), .int .i64 n] w fun e w' => e = .returned (.int .i64 (P.sync n).1) ∧ KS w0 w' d mb (P.sync n).2 allv all := by
  obtain ⟨⟨F, h1, h2, h3⟩, h4, h5⟩ := h
  exact (sync_any h1 hn).mono fun _ _ hd => KS.did h4 h5 h2 h3 hd
theorem fuse_ks (h : KS w0 w d mb P allv all) {n : Int} (hn : Rng n) : Calls Try.prog 12 #[.pointer (some ⟨d, 0, none⟩), .int .i64 n] w fun e w' => e = .returned (.int .i64 (P.setFuse n).1) ∧ KS w0 w' d mb (P.setFuse n).2 allv all := by
  obtain ⟨⟨F, h1, h2, h3⟩, h4, h5⟩ := h
  exact (setFuse_any h1 hn).mono fun _ _ hd => KS.did h4 h5 h2 h3 hd
theorem crash_ks (h : KS w0 w d mb P allv all) {v : Value} {keep : List Int} (hv : RdZ w0 v keep) : Calls Try.prog 13 #[.pointer (some ⟨d, 0, none⟩), v] w fun e w' => e = .returned (.int .i64 0) ∧ KS w0 w' d mb (P.crash keep) allv all := by
  obtain ⟨⟨F, h1, h2, h3⟩, h4, h5⟩ := h
  exact (crashD_any h1 (RdRow.below hv h5) (fun x hx hp hf => by have := rd_lt hv (by simpa using hp) x hx; have := (h2 x hf).1; omega) (fun x hx hp => Nat.lt_of_lt_of_le (rd_lt hv (by simpa using hp) x hx) h5.size)).mono fun _ _ hd => KS.did h4 h5 h2 h3 hd
theorem read_ks (h : KS w0 w d mb P allv all) {n : Int} (hn : Rng n) : Calls Try.prog 14 #[.pointer (some ⟨d, 0, none⟩), .int .i64 n] w fun e w' => ∃ v, e = .returned (.tuple #[v, .int .i64 (readP P n).1]) ∧ Mine8 5 w w' v (readP P n).2 ∧ Below w.heap.size w w' := by
  obtain ⟨⟨F, h1, h2, h3⟩, h4, h5⟩ := h
  exact read_ds ⟨h1.more h2, h5⟩ hn
theorem KS.tot (h : KS w0 w d mb P allv all) : (usedP P.L : Int) ≤ P.room := by
  obtain ⟨⟨F, h1, h2, h3⟩, h4, h5⟩ := h
  exact h1.tot
set_option maxRecDepth 100000 in
set_option maxHeartbeats 4000000 in
theorem keeps_any (v : Value) (l : List Op) (w : World) (hv : RdO w v l) : Calls Try.prog 3 #[v] w fun e w' => e = .returned (.bool true) ∧ Below w.heap.size w w' := by
  obtain ⟨sa, cap, rfl, hcap, hbig, hcell⟩ := hv.open
  have Hcell := Lib.hid hcell
  clear hcell hv
  go_enter Try.func3, Try.ntmps3
  go_wp2_with fail
  refine (new_ds 1048576 w (by omega)).mono ?_
  rintro e w1 ⟨d, mb, rfl, hd1⟩
  have HD1 := Lib.hid hd1
  clear hd1
  go_wp2_with fail
  refine (awake_any w1).mono ?_
  rintro e w2 ⟨rfl, hb⟩
  have HD2 : Hid (KS w w2 d mb ⟨1048576, -1, false, []⟩ (.slice none 0 0) []) := Lib.hid (by
    have h := HD1.out.next hb
    exact ⟨⟨_, h.1, fun x hx => hx, fun b hb => by cases hb⟩, mine8_nil 5 w w2, h.2⟩)
  have HI2 : Hid (KInv ⟨1048576, -1, false, []⟩ [] 0) := Lib.hid ⟨rfl, .inl ⟨rfl, rfl, rfl⟩⟩
  clear hb HD1
  go_wp2_with fail
  go_loopw [5, 6, 7, 8, 9, 10, 38, 51, 58, 64, 23] (fun av sv _ _ _ _ _ _ _ _ iv wr => ∃ (k : Nat) (P : Pd) (all : List UInt8) (sure : Nat), k ≤ l.length ∧ k ≤ 60 ∧ iv = .int .i64 k ∧ sv = .int .i64 sure ∧ Hid (KS w wr d mb P av all) ∧ Hid (KInv P all sure)) (fun _ _ _ _ _ _ _ _ _ _ iv _ => l.length - (intOf iv).toNat)
  case atStart => exact ⟨0, _, [], 0, by omega, by omega, rfl, rfl, HD2, HI2⟩
  case round =>
    clear HD2 HI2
    obtain ⟨k, P, all, sure, hk, hk60, rfl, rfl, HD, HI⟩ := hrel
    obtain ⟨aa, acap, rfl, _⟩ := HD.out.all.rd.open
    by_cases hend : k < l.length ∧ k < 60 ∧ ∀ o, l[k]? = some o → o.p.length ≤ 3000
    · obtain ⟨hlt, h60, hsm⟩ := hend
      obtain ⟨o, ho⟩ : ∃ x, l[k]? = some x := ⟨l[k], List.getElem?_eq_getElem hlt⟩
      have hpl := hsm o ho
      obtain ⟨b, q, pv, kv, rfl, hok, c0, c1, c2, c3⟩ := Hcell.out k o ho
      have hbl := World.block_lt_of_cell? w _ c0
      have k0 : wr.cell? ⟨b, q + k * 4, none⟩ = some (.int .i64 o.kind) := (HD.out.bel.cell (p := ⟨b, q + k * 4, none⟩) hbl).trans c0
      have k1 : wr.cell? ⟨b, q + k * 4 + 1, none⟩ = some (.int .i64 o.n) := (HD.out.bel.cell (p := ⟨b, q + k * 4 + 1, none⟩) hbl).trans c1
      have k2 : wr.cell? ⟨b, q + k * 4 + 2, none⟩ = some pv := (HD.out.bel.cell (p := ⟨b, q + k * 4 + 2, none⟩) hbl).trans c2
      have k3 : wr.cell? ⟨b, q + k * 4 + 3, none⟩ = some kv := (HD.out.bel.cell (p := ⟨b, q + k * 4 + 3, none⟩) hbl).trans c3
      have Hok := Lib.hid hok
      obtain ⟨pa, pcap, rfl, hb1, hb2, _⟩ := hok.p.open
      obtain ⟨_, ka, kcap, rfl, _⟩ := hok.keep
      have d60 : decide ((60 : Int) ≤ (k : Int)) = false := by simp only [decide_eq_false_iff_not]; omega
      have d3 : decide (3000 < (o.p.length : Int)) = false := by simp only [decide_eq_false_iff_not]; omega
      have HX1 : Hid (Blk (wr.alloc (.cells #[.int .i64 o.kind, .int .i64 o.n, .slice pa o.p.length pcap, .slice ka o.keep.length kcap] 31)) wr.heap.size #[.int .i64 o.kind, .int .i64 o.n, .slice pa o.p.length pcap, .slice ka o.keep.length kcap] 31) := Lib.hid (Blk.new wr _ 31)
      have HD1 : Hid (KS w (wr.alloc (.cells #[.int .i64 o.kind, .int .i64 o.n, .slice pa o.p.length pcap, .slice ka o.keep.length kcap] 31)) d mb P (.slice aa all.length acap) all) := Lib.hid (HD.out.next (below_alloc wr _))
      clear hsm ho c0 c1 c2 c3 hok
      by_cases hk0 : o.kind = 0
      · have e0 : (o.kind == 0) = true := by rw [beq_iff_eq]; exact hk0
        clear hk0
        go_wp2_with fail
        refine (app_ks HD.out (below_alloc wr _) (n := 1) (rng1 (by omega) (by omega)) Hok.out.p).mono ?_
        rintro e w4 ⟨rfl, hd4, hkp⟩
        have hX4 : Blk w4 wr.heap.size #[.int .i64 o.kind, .int .i64 o.n, .slice pa o.p.length pcap, .slice ka o.keep.length kcap] 31 := (hkp wr.heap.size (Nat.le_refl _) (by simp)).trans HX1.out
        have HD4 := Lib.hid hd4
        clear hkp hd4
        rcases app_kinv HI.out o.p with ⟨hc, hi⟩ | ⟨hc, hi⟩
        · have Hi := Lib.hid hi
          have x42 : w4.cell? ⟨wr.heap.size, 2, none⟩ = some (.slice pa o.p.length pcap) := hX4.cell 2
          have hxl := hX4.lt
          have HX4 := Lib.hid hX4
          have hal := HI.out.len HD.out.tot
          have hbr := bel_refl w4
          have HKx : Hid (∀ w', Below w4.heap.size w4 w' → w'.cell? ⟨wr.heap.size, 2, none⟩ = some (.slice pa o.p.length pcap)) := Lib.hid (fun w' h => (HX4.out.next h).cell 2)
          rw [hc]
          clear hi hX4 hc
          go_wp2_with fail
          go_region_law
            (first
              | (refine step_app8_mine (by rfl) _ _ 28 (by rfl) ok28 [] all (by rfl) (by rfl) w4 (by repeat (first | assumption | apply bel_alloc | apply bel_drew)) (by exact mine8_at [] (by simp [maxLen]) rfl rfl (by simp) rfl) (HD4.out.all.rd.below (by repeat (first | assumption | apply bel_alloc | apply bel_drew))) (by simp; omega) ?_; intro v7 w7 hm7 hb7 hg7 hz7; obtain ⟨va, vcap, rfl, _⟩ := hm7.rd.open; have Hm7 := Lib.hid hm7; have x72 := HKx.out _ hb7; have Hb7 := Lib.hid hb7; clear hm7 hg7)
              | (refine step_app8_mine (by rfl) _ _ 28 (by rfl) ok28 ([] ++ all) o.p (by rfl) (by rfl) w4 (by first | assumption | exact Hb7.out.drew) (by first | exact Hm7.out | exact ⟨Hm7.out.1, Hm7.out.2⟩) (Hok.out.p.below (by repeat (first | exact HD4.out.bel.trans (Hb7.out.mono HD4.out.bel.size) | apply bel_drew))) (by simp; omega) ?_; intro v8 w8 hm8 hb8 hg8 hz8; obtain ⟨vb, vcapb, rfl, _⟩ := hm8.rd.open; have Hm8 : Hid (Mine8 5 w4 w8 _ (all ++ o.p)) := Lib.hid hm8; have Hb8 := Lib.hid hb8; clear hm8 hg8))
          all_goals (have HD8 : Hid (KS w w8 d mb (P.app 1 o.p).2 (.slice vb (all.length + o.p.length) vcapb) (all ++ o.p)) := Lib.hid (by
            have h := HD4.out.fresh Hb8.out Hm8.out
            simpa only [List.nil_append, List.length_append] using h))
          all_goals (go_wp2_with fail)
          all_goals (go_roundw)
          all_goals (first
            | (simp [intOf] <;> omega; done)
            | (simp only [intOf]; omega)
            | exact ⟨k + 1, _, all ++ o.p, sure, by omega, by omega, by go_num, rfl, HD8, Hi⟩
            | exact ⟨k + 1, _, all ++ o.p, sure, by omega, by omega, by go_num, rfl, Lib.hid (HD8.out.next (bel_drew (bel_refl _))), Hi⟩)
        · have Hi := Lib.hid hi
          have x0 : ((P.app 1 o.p).1 == 0) = false := by rw [beq_eq_false_iff_ne]; exact hc
          have y0 : decide ((P.app 1 o.p).1 = 0) = false := by simpa using hc
          generalize hrr : P.app 1 o.p = rr at *
          clear hi hc hrr hX4
          go_wp2_with fail
          go_roundw
          case rel => exact ⟨k + 1, _, all, sure, by omega, by omega, by go_num, rfl, HD4, Hi⟩
          case measure => simp [intOf] <;> omega
      have e0 : (o.kind == 0) = false := by rw [beq_eq_false_iff_ne]; exact hk0
      by_cases hk1 : o.kind = 1
      · have e1 : (o.kind == 1) = true := by rw [beq_iff_eq]; exact hk1
        clear hk0 hk1
        go_wp2_with fail
        refine (sync_ks HD1.out (n := 1) (rng1 (by omega) (by omega))).mono ?_
        rintro e w4 ⟨rfl, hd4⟩
        have HD4 := Lib.hid hd4
        clear hd4
        rcases sync_kinv HI.out with ⟨hc, hi⟩ | ⟨hc, hi⟩
        · have Hi := Lib.hid hi
          rw [hc]
          clear hi hc
          go_wp2_with fail
          go_roundw
          case rel => exact ⟨k + 1, _, all, all.length, by omega, by omega, by go_num, rfl, HD4, Hi⟩
          case measure => simp [intOf] <;> omega
        · have Hi := Lib.hid hi
          have x0 : ((P.sync 1).1 == 0) = false := by rw [beq_eq_false_iff_ne]; exact hc
          have y0 : decide ((P.sync 1).1 = 0) = false := by simpa using hc
          generalize hrr : P.sync 1 = rr at *
          clear hi hc hrr
          go_wp2_with fail
          go_roundw
          case rel => exact ⟨k + 1, _, all, sure, by omega, by omega, by go_num, rfl, HD4, Hi⟩
          case measure => simp [intOf] <;> omega
      have e1 : (o.kind == 1) = false := by rw [beq_eq_false_iff_ne]; exact hk1
      by_cases hk3 : o.kind = 3
      · have e3 : (o.kind == 3) = true := by rw [beq_iff_eq]; exact hk3
        clear hk0 hk1 hk3
        go_wp2_with fail
        refine (fuse_ks HD1.out Hok.out.n).mono ?_
        rintro e w4 ⟨rfl, hd4⟩
        have HD4 := Lib.hid hd4
        have Hi := Lib.hid (fuse_kinv HI.out o.n)
        generalize P.setFuse o.n = rr at *
        clear hd4
        go_wp2_with fail
        go_roundw
        case rel => exact ⟨k + 1, _, all, sure, by omega, by omega, by go_num, rfl, HD4, Hi⟩
        case measure => simp [intOf] <;> omega
      have e3 : (o.kind == 3) = false := by rw [beq_eq_false_iff_ne]; exact hk3
      by_cases hk4 : o.kind = 4
      · have e4 : (o.kind == 4) = true := by rw [beq_iff_eq]; exact hk4
        clear hk0 hk1 hk3 hk4
        go_wp2_with fail
        refine (crash_ks HD1.out Hok.out.keep).mono ?_
        rintro e w4 ⟨rfl, hd4⟩
        obtain ⟨bl, hrd, hcode, hb1, hb2, hb3, hi⟩ := crash_kinv HI.out o.keep
        have HD4 := Lib.hid hd4
        have Hi := Lib.hid hi
        have hal := HI.out.len HD.out.tot
        clear hd4
        go_wp2_with fail
        refine (read_ks HD4.out (n := 1) (rng1 (by omega) (by omega))).mono ?_
        rw [hrd]
        rintro e w5 ⟨rv, rfl, hm5, hb5⟩
        have hbl5 : bl.length ≤ all.length := hb2
        have Hm5 : Hid (Mine8 5 w4 w5 rv bl) := Lib.hid hm5
        obtain ⟨ra, rcap, rfl, _⟩ := hm5.rd.open
        have HD5 := Lib.hid (HD4.out.fresh hb5 hm5)
        have HA5 := Lib.hid (HD4.out.next hb5)
        have hs1 : ∀ n, (convert 28 9 (.slice ra bl.length rcap)).run Try.prog (w5.drewN n) = .ok (.string ⟨bl.toArray⟩) (w5.drewN n) := fun n => run_str8 (src := 28) (dst := 9) Try.underlying28 Try.underlying5 Try.underlying9 (hm5.rd.drewN n)
        have hs2 : ∀ W, (Instr.slice 28 (.slice aa all.length acap) none (some (.int .i64 (bl.length : Int))) none).run Try.prog W = .ok (.slice aa bl.length acap) W := fun W => own_cut_run HA5.out.all.1 bl.length hb2 W
        have hs3 : ∀ n, (convert 28 9 (.slice aa bl.length acap)).run Try.prog (w5.drewN n) = .ok (.string ⟨bl.toArray⟩) (w5.drewN n) := fun n => run_str8 (src := 28) (dst := 9) Try.underlying28 Try.underlying5 Try.underlying9 (by
          have h := (own8_cut HA5.out.all.1 bl.length hb2).rd
          rw [hb3] at h
          exact h.drewN n)
        have hs1' := hs1 0
        have hs3' := hs3 0
        have dlt : decide ((bl.length : Int) < (sure : Int)) = false := by simp only [decide_eq_false_iff_not]; omega
        have dgt : decide ((all.length : Int) < (bl.length : Int)) = false := by simp only [decide_eq_false_iff_not]; omega
        clear hm5 hi hb3 hb5
        rcases hcode with hc | ⟨hc, hsz⟩
        · rw [hc]
          clear hc hrd
          go_wp2_with fail
          go_quiet (fail)
          go_wp2_with fail
          go_roundw
          case rel => exact ⟨k + 1, _, bl, bl.length, by omega, by omega, by go_num, rfl, Lib.hid (HD5.out.next (bel_drewN (bel_refl _) _)), Hi⟩
          case measure => simp [intOf] <;> omega
        · rw [hc]
          subst hsz
          clear hc hrd
          go_wp2_with fail
          go_quiet (fail)
          go_wp2_with fail
          go_roundw
          case rel => exact ⟨k + 1, _, bl, bl.length, by omega, by omega, by go_num, rfl, Lib.hid (HD5.out.next (bel_drewN (bel_refl _) _)), Hi⟩
          case measure => simp [intOf] <;> omega
      have e4 : (o.kind == 4) = false := by rw [beq_eq_false_iff_ne]; exact hk4
      clear hk0 hk1 hk3 hk4
      go_wp2_with fail
      go_roundw
      case rel => exact ⟨k + 1, P, all, sure, by omega, by omega, by go_num, rfl, HD1, HI⟩
      case measure => simp [intOf] <;> omega
    · by_cases hlt : k < l.length
      · obtain ⟨o, ho⟩ : ∃ x, l[k]? = some x := ⟨l[k], List.getElem?_eq_getElem hlt⟩
        obtain ⟨b, q, pv, kv, rfl, hok, c0, c1, c2, c3⟩ := Hcell.out k o ho
        have hbl := World.block_lt_of_cell? w _ c0
        have k0 : wr.cell? ⟨b, q + k * 4, none⟩ = some (.int .i64 o.kind) := (HD.out.bel.cell (p := ⟨b, q + k * 4, none⟩) hbl).trans c0
        have k1 : wr.cell? ⟨b, q + k * 4 + 1, none⟩ = some (.int .i64 o.n) := (HD.out.bel.cell (p := ⟨b, q + k * 4 + 1, none⟩) hbl).trans c1
        have k2 : wr.cell? ⟨b, q + k * 4 + 2, none⟩ = some pv := (HD.out.bel.cell (p := ⟨b, q + k * 4 + 2, none⟩) hbl).trans c2
        have k3 : wr.cell? ⟨b, q + k * 4 + 3, none⟩ = some kv := (HD.out.bel.cell (p := ⟨b, q + k * 4 + 3, none⟩) hbl).trans c3
        obtain ⟨pa, pcap, rfl, hb1, hb2, _⟩ := hok.p.open
        obtain ⟨_, ka, kcap, rfl, _⟩ := hok.keep
        clear c0 c1 c2 c3 hok
        by_cases h60 : (60 : Int) ≤ (k : Int)
        · clear hend ho
          go_wp2_with fail
          go_ret
          exact ⟨rfl, bel_alloc HD.out.bel⟩
        · have d60 : decide ((60 : Int) ≤ (k : Int)) = false := by simp only [decide_eq_false_iff_not]; omega
          have d3 : decide (3000 < (o.p.length : Int)) = true := by
            simp only [decide_eq_true_eq]
            refine Int.not_le.1 fun hle => hend ⟨hlt, by omega, fun o' ho' => ?_⟩
            rw [ho] at ho'
            cases ho'
            omega
          clear hend ho
          go_wp2_with fail
          go_ret
          exact ⟨rfl, bel_alloc HD.out.bel⟩
      · obtain rfl : k = l.length := by omega
        clear hend
        go_wp2_with fail
        go_ret
        exact ⟨rfl, HD.out.bel⟩
end Go.Proofs.Ytnggihfggghigaa
