/- DiskFuses (5). -/
import Derived.Test.YtnggihfggghigaaWQ
namespace Go.Proofs.Ytnggihfggghigaa
open Go.RowKit Go.Kt
/-- with a fuse: what is known of the disk after k steps -/
structure FInv (P : Pd) (left k : Nat) : Prop where
  room : P.room = 1048576
  len : P.L.length ≤ k
  st : (P.down = false ∧ P.fuse = left) ∨ (P.down = true ∧ left = 0)
/-- what a step does to it -/
def Stepped (r : Int × Pd) (left k : Nat) : Prop :=
  (r.1 = 0 ∧ 0 < left ∧ FInv r.2 (left - 1) (k + 1) ∧ r.2.down = false) ∨ (r.1 = 5 ∧ left = 0 ∧ r.2.down = true ∧ FInv r.2 left (k + 1)) ∨ (r.1 ≠ 0 ∧ r.1 ≠ 5 ∧ FInv r.2 left (k + 1))
theorem insP_len (q : Pg) : ∀ L, (insP q L).length = L.length + 1
  | [] => rfl
  | t :: ks => by
    unfold insP
    split
    · rw [List.length_cons, insP_len q ks, List.length_cons]
    · rfl
theorem appP_len (n : Int) (pl : List UInt8) (L : List Pg) : (appP n pl L).length ≤ L.length + 1 := by
  unfold appP
  split
  · rw [List.length_map]; omega
  · rw [insP_len]; exact Nat.le_refl _
theorem dropP_len (n : Int) (L : List Pg) : (dropP n L).length ≤ L.length := List.length_filter_le _ _
theorem crashP_len (keep : List Int) : ∀ (i : Nat) (L : List Pg), (crashP keep i L).length ≤ L.length
  | _, [] => Nat.le_refl _
  | i, p :: t => by
    have ih := crashP_len keep (i + 1) t
    unfold crashP
    split
    · rw [List.length_cons]; omega
    · rw [List.length_cons, List.length_cons]; omega
theorem fstep {P : Pd} {left k : Nat} (h : FInv P left k) (hd : P.down = false) {L : List Pg} (hL : L.length ≤ k + 1) :
    Stepped (if P.fuse = 0 then (5, { P with down := true }) else (0, { P with fuse := powF P.fuse, L := L })) left k := by
  have hf : P.fuse = left := by
    rcases h.st with h | h
    · exact h.2
    · rw [hd] at h; cases h.1
  split
  · rename_i h0
    exact .inr (.inl ⟨rfl, by omega, rfl, h.room, by have := h.len; show P.L.length ≤ _; omega, .inr ⟨rfl, by omega⟩⟩)
  · rename_i h0
    refine .inl ⟨rfl, by omega, ⟨h.room, hL, .inl ⟨hd, ?_⟩⟩, hd⟩
    show powF P.fuse = _
    unfold powF
    rw [if_pos (by omega)]
    omega
theorem FInv.more {P : Pd} {left k : Nat} (h : FInv P left k) : FInv P left (k + 1) := ⟨h.room, by have := h.len; omega, h.st⟩
theorem fdown {P : Pd} {left k : Nat} (h : FInv P left k) (hd : P.down = true) : Stepped (5, P) left k := by
  have hf : left = 0 := by
    rcases h.st with h | h
    · rw [hd] at h; cases h.1
    · exact h.2
  exact .inr (.inl ⟨rfl, hf, hd, h.more⟩)
theorem app_step {P : Pd} {left k : Nat} (h : FInv P left k) (n : Int) (pl : List UInt8) : Stepped (P.app n pl) left k := by
  unfold Pd.app
  split
  · rename_i hd
    exact fdown h hd
  rename_i hd
  split
  · exact .inr (.inr ⟨by simp, by simp, h.more⟩)
  split
  · exact .inr (.inr ⟨by simp, by simp, h.more⟩)
  exact fstep h (by simpa using hd) (Nat.le_trans (appP_len _ _ _) (by have := h.len; omega))
theorem sync_step {P : Pd} {left k : Nat} (h : FInv P left k) (n : Int) : Stepped (P.sync n) left k := by
  unfold Pd.sync
  split
  · rename_i hd
    exact fdown h hd
  rename_i hd
  split
  · exact .inr (.inr ⟨by simp, by simp, h.more⟩)
  exact fstep h (by simpa using hd) (by rw [List.length_map]; have := h.len; omega)
theorem drop_step {P : Pd} {left k : Nat} (h : FInv P left k) (n : Int) : Stepped (P.drop n) left k := by
  unfold Pd.drop
  split
  · rename_i hd
    exact fdown h hd
  rename_i hd
  split
  · exact .inr (.inr ⟨by simp, by simp, h.more⟩)
  exact fstep h (by simpa using hd) (Nat.le_trans (dropP_len _ _) (by have := h.len; omega))
theorem DAt.tot {F : Nat → Prop} {w : World} {d mb : Nat} {P : Pd} (h : DAt F w d mb P) : (usedP P.L : Int) ≤ P.room := by
  obtain ⟨l, h1, h2⟩ := h
  rw [← h2, ← used_pg]
  exact h1.tot
theorem last_app {P : Pd} (hd : P.down = false) (hf : P.fuse = -1) (ht : (usedP P.L : Int) ≤ P.room) (hl : P.L.length < 1024) : (P.app 1 []).1 = 0 := by
  unfold Pd.app
  rw [if_neg (by rw [hd]; simp), if_neg (by omega), if_neg (by
    rintro (h | h)
    · simp only [List.length_nil] at h; omega
    · omega), if_neg (by omega)]
theorem rd_lt {size : Nat} {w : World} {v : Value} {n : Nat} {xs : List Value} (h : RdRow size w v n xs) (hn : xs ≠ []) : ∀ x, v.ownBlock = some x → x < w.heap.size := by
  obtain ⟨hl, a, cap, rfl, _, _, _, h5⟩ := h
  obtain ⟨u, us, rfl⟩ := List.exists_cons_of_ne_nil hn
  obtain ⟨b, o, rfl, hc⟩ := h5 0 u rfl
  intro x hx
  cases hx
  exact World.block_lt_of_cell? w _ hc
theorem aside_arg8 {w0 w W : World} {v : Value} {pl : List UInt8} (h : Rd8 w0 v pl) (hb : w0.heap.size ≤ W.heap.size) : Aside w0 w W v pl := fun x hx hp => by
  have := rd_lt h (by simpa using hp) x hx
  exact ⟨.inl this, by omega⟩
theorem aside_argz {w0 w W : World} {v : Value} {pl : List Int} (h : RdZ w0 v pl) (hb : w0.heap.size ≤ W.heap.size) : Aside w0 w W v pl := fun x hx hp => by
  have := rd_lt h (by simpa using hp) x hx
  exact ⟨.inl this, by omega⟩
theorem u8_wf {a : Int} (h : (Lit.int .u8 a).wf = true) : 0 ≤ a ∧ a ≤ 255 := by
  simpa [Lit.wf, IntKind.min, IntKind.max, IntKind.signed, IntKind.bits] using h
set_option maxRecDepth 100000 in
set_option maxHeartbeats 4000000 in
theorem fuses_any (a : Int) (v : Value) (l : List Op) (w : World) (ha : 0 ≤ a ∧ a ≤ 255) (hv : RdO w v l) : Calls Try.prog 5 #[.int .u8 a, v] w fun e w' => e = .returned (.bool true) ∧ Below w.heap.size w w' := by
  obtain ⟨sa, cap, rfl, hcap, hbig, hcell⟩ := hv.open
  have Hcell := Lib.hid hcell
  clear hcell hv
  obtain ⟨N, rfl⟩ : ∃ N : Nat, a = (N : Int) := ⟨a.toNat, by omega⟩
  have hN : N ≤ 255 := by omega
  clear ha
  have hM : N % 20 < 20 := Nat.mod_lt _ (by omega)
  go_enter Try.func5, Try.ntmps5
  go_wp2_with fail
  refine (new_ds 1048576 w (by omega)).mono ?_
  rintro e w1 ⟨d, mb, rfl, hd1⟩
  have HD1 := Lib.hid hd1
  clear hd1
  go_wp2_with fail
  refine (awake_any w1).mono ?_
  rintro e w2 ⟨rfl, hb⟩
  have HD2 : Hid (DS w w2 d mb ⟨1048576, -1, false, []⟩) := Lib.hid (HD1.out.next hb)
  clear hb
  go_wp2_with fail
  refine (fuse_ds HD2.out (n := (N : Int) % 20) ⟨by omega, by omega⟩).mono ?_
  rintro e w3 ⟨rfl, hd3⟩
  have HD3 : Hid (DS w w3 d mb ⟨1048576, ((N % 20 : Nat) : Int), false, []⟩) := Lib.hid (by
    have e : (Pd.setFuse ⟨1048576, -1, false, []⟩ ((N : Int) % 20)).2 = ⟨1048576, ((N % 20 : Nat) : Int), false, []⟩ := by
      show (⟨1048576, max ((N : Int) % 20) (-1), false, []⟩ : Pd) = _
      rw [show max ((N : Int) % 20) (-1) = ((N % 20 : Nat) : Int) by omega]
    rw [← e]
    exact hd3)
  rw [show (Pd.setFuse ⟨1048576, -1, false, []⟩ ((N : Int) % 20)).1 = 0 from rfl]
  clear hd3
  go_wp2_with fail
  rw [show (N : Int) % 20 = ((N % 20 : Nat) : Int) by omega]
  generalize N % 20 = M at *
  have HI : Hid (FInv ⟨1048576, (M : Int), false, []⟩ M 0) := Lib.hid ⟨rfl, Nat.le_refl _, .inl ⟨rfl, rfl⟩⟩
  clear HD1 HD2
  go_loopw [7, 8, 9, 10, 49, 57, 63, 69, 80, 34] (fun lv _ _ _ _ _ _ _ _ iv wr => ∃ (k left : Nat) (P : Pd), k ≤ l.length ∧ left ≤ 20 ∧ k ≤ 60 ∧ iv = .int .i64 k ∧ lv = .int .i64 left ∧ Hid (DS w wr d mb P) ∧ Hid (FInv P left k)) (fun _ _ _ _ _ _ _ _ _ iv _ => l.length - (intOf iv).toNat)
  case atStart => exact ⟨0, M, _, by omega, by omega, by omega, rfl, rfl, HD3, HI⟩
  case round =>
    clear HD3 HI hM hN
    obtain ⟨k, left, P, hk, hleft, hk60, rfl, rfl, HD, HI⟩ := hrel
    by_cases hend : k < l.length ∧ k < 60 ∧ ∀ o, l[k]? = some o → o.p.length ≤ 3000
    · obtain ⟨hlt, h60, hsm⟩ := hend
      obtain ⟨o, ho⟩ : ∃ x, l[k]? = some x := ⟨l[k], List.getElem?_eq_getElem hlt⟩
      have hpl := hsm o ho
      obtain ⟨b, q, pv, kv, rfl, hok, c0, c1, c2, c3⟩ := Hcell.out k o ho
      have hbl := World.block_lt_of_cell? w _ c0
      have k0 : wr.cell? ⟨b, q + k * 4, none⟩ = some (.int .i64 o.kind) := (HD.out.2.cell (p := ⟨b, q + k * 4, none⟩) hbl).trans c0
      have k1 : wr.cell? ⟨b, q + k * 4 + 1, none⟩ = some (.int .i64 o.n) := (HD.out.2.cell (p := ⟨b, q + k * 4 + 1, none⟩) hbl).trans c1
      have k2 : wr.cell? ⟨b, q + k * 4 + 2, none⟩ = some pv := (HD.out.2.cell (p := ⟨b, q + k * 4 + 2, none⟩) hbl).trans c2
      have k3 : wr.cell? ⟨b, q + k * 4 + 3, none⟩ = some kv := (HD.out.2.cell (p := ⟨b, q + k * 4 + 3, none⟩) hbl).trans c3
      have Hok := Lib.hid hok
      obtain ⟨pa, pcap, rfl, hb1, hb2, _⟩ := hok.p.open
      obtain ⟨_, ka, kcap, rfl, _⟩ := hok.keep
      have d60 : decide ((60 : Int) ≤ (k : Int)) = false := by simp only [decide_eq_false_iff_not]; omega
      have d3 : decide (3000 < (o.p.length : Int)) = false := by simp only [decide_eq_false_iff_not]; omega
      have HD1 : Hid (DS w (wr.alloc (.cells #[.int .i64 o.kind, .int .i64 o.n, .slice pa o.p.length pcap, .slice ka o.keep.length kcap] 31)) d mb P) := Lib.hid (HD.out.next (below_alloc wr _))
      have Hp : Hid (Rd8 (wr.alloc (.cells #[.int .i64 o.kind, .int .i64 o.n, .slice pa o.p.length pcap, .slice ka o.keep.length kcap] 31)) (.slice pa o.p.length pcap) o.p) := Lib.hid ((hok.p.below HD.out.2).below (below_alloc wr _))
      have Has : Hid (∀ W W' : World, w.heap.size ≤ W.heap.size → Aside w W' W (.slice pa o.p.length pcap) o.p) := Lib.hid (fun W W' hz => aside_arg8 hok.p hz)
      clear hsm ho c0 c1 c2 c3 hok
      by_cases hk0 : o.kind = 0
      · have e0 : (o.kind == 0) = true := by rw [beq_iff_eq]; exact hk0
        have Hst := Lib.hid (app_step HI.out o.n o.p)
        clear hk0
        go_wp2_with fail
        refine (app_ds HD1.out (bel_refl _) Hok.out.n Hp.out (Has.out _ _ HD1.out.2.size)).mono ?_
        rintro e w4 ⟨rfl, hd4⟩
        have HD4 := Lib.hid hd4
        clear hd4
        rcases Hst.out with ⟨hc, hl0, hi, hdn⟩ | ⟨hc, hl0, hdn, hi⟩ | ⟨hc, hc5, hi⟩
        · have Hi := Lib.hid hi
          rw [hc]
          have hdd := down_ds HD4.out
          rw [hdn] at hdd
          have Hdd := Lib.hid hdd
          have hl1 : ((left - 1 : Nat) : Int) = (left : Int) - 1 := by omega
          have dl : decide ((left : Int) - 1 < 0) = false := by simp only [decide_eq_false_iff_not]; omega
          clear hi hdn hdd
          go_wp2_with (go_at_call 16; refine Hdd.out.mono ?_; rintro e w5 ⟨rfl, rfl⟩)
          go_roundw
          case rel => exact ⟨k + 1, left - 1, _, by omega, by omega, by omega, by go_num, by rw [hl1], HD4, Hi⟩
          case measure => simp [intOf] <;> omega
        · have Hi := Lib.hid hi
          rw [hc]
          have hdd := down_ds HD4.out
          rw [hdn] at hdd
          have Hdd := Lib.hid hdd
          subst hl0
          clear hi hdn hdd
          go_wp2_with (go_at_call 16; refine Hdd.out.mono ?_; rintro e w5 ⟨rfl, rfl⟩)
          go_roundw
          case rel => exact ⟨k + 1, 0, _, by omega, by omega, by omega, by go_num, rfl, HD4, Hi⟩
          case measure => simp [intOf] <;> omega
        · have Hi := Lib.hid hi
          have x0 : ((P.app o.n o.p).1 == 0) = false := by rw [beq_eq_false_iff_ne]; exact hc
          have x5 : ((P.app o.n o.p).1 == 5) = false := by rw [beq_eq_false_iff_ne]; exact hc5
          have y0 : decide ((P.app o.n o.p).1 = 0) = false := by simpa using hc
          have y5 : decide ((P.app o.n o.p).1 = 5) = false := by simpa using hc5
          generalize hrr : P.app o.n o.p = rr at *
          clear hi hc hc5 hrr
          go_wp2_with fail
          go_roundw
          case rel => exact ⟨k + 1, left, _, by omega, by omega, by omega, by go_num, rfl, HD4, Hi⟩
          case measure => simp [intOf] <;> omega
      have e0 : (o.kind == 0) = false := by rw [beq_eq_false_iff_ne]; exact hk0
      by_cases hk1 : o.kind = 1
      · have e1 : (o.kind == 1) = true := by rw [beq_iff_eq]; exact hk1
        have Hst := Lib.hid (sync_step HI.out o.n)
        clear hk0 hk1
        go_wp2_with fail
        refine (sync_ds HD1.out Hok.out.n).mono ?_
        rintro e w4 ⟨rfl, hd4⟩
        have HD4 := Lib.hid hd4
        clear hd4
        rcases Hst.out with ⟨hc, hl0, hi, hdn⟩ | ⟨hc, hl0, hdn, hi⟩ | ⟨hc, hc5, hi⟩
        · have Hi := Lib.hid hi
          rw [hc]
          have hdd := down_ds HD4.out
          rw [hdn] at hdd
          have Hdd := Lib.hid hdd
          have hl1 : ((left - 1 : Nat) : Int) = (left : Int) - 1 := by omega
          have dl : decide ((left : Int) - 1 < 0) = false := by simp only [decide_eq_false_iff_not]; omega
          clear hi hdn hdd
          go_wp2_with (go_at_call 16; refine Hdd.out.mono ?_; rintro e w5 ⟨rfl, rfl⟩)
          go_roundw
          case rel => exact ⟨k + 1, left - 1, _, by omega, by omega, by omega, by go_num, by rw [hl1], HD4, Hi⟩
          case measure => simp [intOf] <;> omega
        · have Hi := Lib.hid hi
          rw [hc]
          have hdd := down_ds HD4.out
          rw [hdn] at hdd
          have Hdd := Lib.hid hdd
          subst hl0
          clear hi hdn hdd
          go_wp2_with (go_at_call 16; refine Hdd.out.mono ?_; rintro e w5 ⟨rfl, rfl⟩)
          go_roundw
          case rel => exact ⟨k + 1, 0, _, by omega, by omega, by omega, by go_num, rfl, HD4, Hi⟩
          case measure => simp [intOf] <;> omega
        · have Hi := Lib.hid hi
          have x0 : ((P.sync o.n).1 == 0) = false := by rw [beq_eq_false_iff_ne]; exact hc
          have x5 : ((P.sync o.n).1 == 5) = false := by rw [beq_eq_false_iff_ne]; exact hc5
          have y0 : decide ((P.sync o.n).1 = 0) = false := by simpa using hc
          have y5 : decide ((P.sync o.n).1 = 5) = false := by simpa using hc5
          generalize hrr : P.sync o.n = rr at *
          clear hi hc hc5 hrr
          go_wp2_with fail
          go_roundw
          case rel => exact ⟨k + 1, left, _, by omega, by omega, by omega, by go_num, rfl, HD4, Hi⟩
          case measure => simp [intOf] <;> omega
      have e1 : (o.kind == 1) = false := by rw [beq_eq_false_iff_ne]; exact hk1
      by_cases hk2 : o.kind = 2
      · have e2 : (o.kind == 2) = true := by rw [beq_iff_eq]; exact hk2
        have Hst := Lib.hid (drop_step HI.out o.n)
        clear hk0 hk1 hk2
        go_wp2_with fail
        refine (drop_ds HD1.out Hok.out.n).mono ?_
        rintro e w4 ⟨rfl, hd4⟩
        have HD4 := Lib.hid hd4
        clear hd4
        rcases Hst.out with ⟨hc, hl0, hi, hdn⟩ | ⟨hc, hl0, hdn, hi⟩ | ⟨hc, hc5, hi⟩
        · have Hi := Lib.hid hi
          rw [hc]
          have hdd := down_ds HD4.out
          rw [hdn] at hdd
          have Hdd := Lib.hid hdd
          have hl1 : ((left - 1 : Nat) : Int) = (left : Int) - 1 := by omega
          have dl : decide ((left : Int) - 1 < 0) = false := by simp only [decide_eq_false_iff_not]; omega
          clear hi hdn hdd
          go_wp2_with (go_at_call 16; refine Hdd.out.mono ?_; rintro e w5 ⟨rfl, rfl⟩)
          go_roundw
          case rel => exact ⟨k + 1, left - 1, _, by omega, by omega, by omega, by go_num, by rw [hl1], HD4, Hi⟩
          case measure => simp [intOf] <;> omega
        · have Hi := Lib.hid hi
          rw [hc]
          have hdd := down_ds HD4.out
          rw [hdn] at hdd
          have Hdd := Lib.hid hdd
          subst hl0
          clear hi hdn hdd
          go_wp2_with (go_at_call 16; refine Hdd.out.mono ?_; rintro e w5 ⟨rfl, rfl⟩)
          go_roundw
          case rel => exact ⟨k + 1, 0, _, by omega, by omega, by omega, by go_num, rfl, HD4, Hi⟩
          case measure => simp [intOf] <;> omega
        · have Hi := Lib.hid hi
          have x0 : ((P.drop o.n).1 == 0) = false := by rw [beq_eq_false_iff_ne]; exact hc
          have x5 : ((P.drop o.n).1 == 5) = false := by rw [beq_eq_false_iff_ne]; exact hc5
          have y0 : decide ((P.drop o.n).1 = 0) = false := by simpa using hc
          have y5 : decide ((P.drop o.n).1 = 5) = false := by simpa using hc5
          generalize hrr : P.drop o.n = rr at *
          clear hi hc hc5 hrr
          go_wp2_with fail
          go_roundw
          case rel => exact ⟨k + 1, left, _, by omega, by omega, by omega, by go_num, rfl, HD4, Hi⟩
          case measure => simp [intOf] <;> omega
      have e2 : (o.kind == 2) = false := by rw [beq_eq_false_iff_ne]; exact hk2
      clear hk0 hk1 hk2
      have Hi := Lib.hid HI.out.more
      go_wp2_with fail
      go_roundw
      case rel => exact ⟨k + 1, left, P, by omega, by omega, by omega, by go_num, rfl, HD1, Hi⟩
      case measure => simp [intOf] <;> omega
    · by_cases hlt : k < l.length
      · obtain ⟨o, ho⟩ : ∃ x, l[k]? = some x := ⟨l[k], List.getElem?_eq_getElem hlt⟩
        obtain ⟨b, q, pv, kv, rfl, hok, c0, c1, c2, c3⟩ := Hcell.out k o ho
        have hbl := World.block_lt_of_cell? w _ c0
        have k0 : wr.cell? ⟨b, q + k * 4, none⟩ = some (.int .i64 o.kind) := (HD.out.2.cell (p := ⟨b, q + k * 4, none⟩) hbl).trans c0
        have k1 : wr.cell? ⟨b, q + k * 4 + 1, none⟩ = some (.int .i64 o.n) := (HD.out.2.cell (p := ⟨b, q + k * 4 + 1, none⟩) hbl).trans c1
        have k2 : wr.cell? ⟨b, q + k * 4 + 2, none⟩ = some pv := (HD.out.2.cell (p := ⟨b, q + k * 4 + 2, none⟩) hbl).trans c2
        have k3 : wr.cell? ⟨b, q + k * 4 + 3, none⟩ = some kv := (HD.out.2.cell (p := ⟨b, q + k * 4 + 3, none⟩) hbl).trans c3
        obtain ⟨pa, pcap, rfl, hb1, hb2, _⟩ := hok.p.open
        obtain ⟨_, ka, kcap, rfl, _⟩ := hok.keep
        have HDx : Hid (DS w (wr.alloc (.cells #[.int .i64 o.kind, .int .i64 o.n, .slice pa o.p.length pcap, .slice ka o.keep.length kcap] 31)) d mb P) := Lib.hid (HD.out.next (below_alloc wr _))
        clear c0 c1 c2 c3 hok
        by_cases h60 : (60 : Int) ≤ (k : Int)
        · clear hend ho
          go_wp2_with fail
          refine (crash_ds HDx.out (bel_refl _) (keep := []) (own_nil _ 3 1).rd (aside_nil _ _ _ _)).mono ?_
          rintro e w5 ⟨rfl, hd5⟩
          have Hlast : Hid (((P.crash []).app 1 []).1 = 0) := Lib.hid (last_app rfl rfl hd5.1.tot (by have h1 := crashP_len [] 0 P.L; have h2 := HI.out.len; show (crashP [] 0 P.L).length < 1024; omega))
          have HD5 := Lib.hid hd5
          have Hdd : Hid (Calls Try.prog 16 #[.pointer (some ⟨d, 0, none⟩)] w5 fun e w' => e = .returned (.bool false) ∧ w5 = w') := Lib.hid (down_ds hd5)
          clear hd5
          go_wp2_with (go_at_call 16; refine Hdd.out.mono ?_; rintro e w6 ⟨rfl, rfl⟩)
          refine (app_ds HD5.out (bel_refl _) (n := 1) (pl := []) (rng1 (by omega) (by omega)) (rd_nil _) (aside_nil _ _ _ _)).mono ?_
          rintro e w7 ⟨rfl, hd7⟩
          have HD7 := Lib.hid hd7
          rw [Hlast.out]
          clear hd7
          go_wp2_with fail
          go_ret
          exact ⟨rfl, HD7.out.2⟩
        · have d60 : decide ((60 : Int) ≤ (k : Int)) = false := by simp only [decide_eq_false_iff_not]; omega
          have d3 : decide (3000 < (o.p.length : Int)) = true := by
            simp only [decide_eq_true_eq]
            refine Int.not_le.1 fun hle => hend ⟨hlt, by omega, fun o' ho' => ?_⟩
            rw [ho] at ho'
            cases ho'
            omega
          clear hend ho
          go_wp2_with fail
          refine (crash_ds HDx.out (bel_refl _) (keep := []) (own_nil _ 3 1).rd (aside_nil _ _ _ _)).mono ?_
          rintro e w5 ⟨rfl, hd5⟩
          have Hlast : Hid (((P.crash []).app 1 []).1 = 0) := Lib.hid (last_app rfl rfl hd5.1.tot (by have h1 := crashP_len [] 0 P.L; have h2 := HI.out.len; show (crashP [] 0 P.L).length < 1024; omega))
          have HD5 := Lib.hid hd5
          have Hdd : Hid (Calls Try.prog 16 #[.pointer (some ⟨d, 0, none⟩)] w5 fun e w' => e = .returned (.bool false) ∧ w5 = w') := Lib.hid (down_ds hd5)
          clear hd5
          go_wp2_with (go_at_call 16; refine Hdd.out.mono ?_; rintro e w6 ⟨rfl, rfl⟩)
          refine (app_ds HD5.out (bel_refl _) (n := 1) (pl := []) (rng1 (by omega) (by omega)) (rd_nil _) (aside_nil _ _ _ _)).mono ?_
          rintro e w7 ⟨rfl, hd7⟩
          have HD7 := Lib.hid hd7
          rw [Hlast.out]
          clear hd7
          go_wp2_with fail
          go_ret
          exact ⟨rfl, HD7.out.2⟩
      · obtain rfl : k = l.length := by omega
        have HDx := HD
        clear hend
        go_wp2_with fail
        refine (crash_ds HDx.out (bel_refl _) (keep := []) (own_nil _ 3 1).rd (aside_nil _ _ _ _)).mono ?_
        rintro e w5 ⟨rfl, hd5⟩
        have Hlast : Hid (((P.crash []).app 1 []).1 = 0) := Lib.hid (last_app rfl rfl hd5.1.tot (by have h1 := crashP_len [] 0 P.L; have h2 := HI.out.len; show (crashP [] 0 P.L).length < 1024; omega))
        have HD5 := Lib.hid hd5
        have Hdd : Hid (Calls Try.prog 16 #[.pointer (some ⟨d, 0, none⟩)] w5 fun e w' => e = .returned (.bool false) ∧ w5 = w') := Lib.hid (down_ds hd5)
        clear hd5
        go_wp2_with (go_at_call 16; refine Hdd.out.mono ?_; rintro e w6 ⟨rfl, rfl⟩)
        refine (app_ds HD5.out (bel_refl _) (n := 1) (pl := []) (rng1 (by omega) (by omega)) (rd_nil _) (aside_nil _ _ _ _)).mono ?_
        rintro e w7 ⟨rfl, hd7⟩
        have HD7 := Lib.hid hd7
        rw [Hlast.out]
        clear hd7
        go_wp2_with fail
        go_ret
        exact ⟨rfl, HD7.out.2⟩
end Go.Proofs.Ytnggihfggghigaa
