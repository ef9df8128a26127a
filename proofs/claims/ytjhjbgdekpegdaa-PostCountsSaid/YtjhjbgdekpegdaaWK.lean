/- PostCounts (5). -/
import Derived.Test.YtjhjbgdekpegdaaWJ
import Derived.IntWalk
namespace Go.Proofs.Ytjhjbgdekpegdaa
open Go.RowKit Go.Kt Go.Conc

theorem u64_mod (x d : Int) (h0 : 0 < d) (h1 : d ≤ 1000000) : ∃ y : Int, 0 ≤ y ∧ y < d ∧ wrap64 ((IntKind.u64.wrap x).tmod d) = y := by
  have h0' := wrap_u64_nonneg x
  have h2 := Int.emod_nonneg (IntKind.u64.wrap x) (b := d) (by omega)
  have h3 := Int.emod_lt_of_pos (IntKind.u64.wrap x) (b := d) (by omega)
  refine ⟨(IntKind.u64.wrap x) % d, h2, h3, ?_⟩
  rw [Int.tmod_eq_emod_of_nonneg h0', IntWalk.wrap64_in _ ⟨by omega, by omega⟩]
/-- the post and the counts -/
structure CtSt (w wr : World) (pb mb N : Nat) (L : List M) (ks : List Int) (n : Nat) : Prop where
  post : PostAt w.heap.size wr pb N L
  map : CntMap wr mb L ks n
  bel : Below w.heap.size w wr
  hz : w.heap.size ≤ mb
  len : L.length ≤ N
theorem CtSt.below {w wr w' : World} {pb mb N : Nat} {L : List M} {ks : List Int} {n : Nat} (h : CtSt w wr pb mb N L ks n) (hb : Below wr.heap.size wr w') : CtSt w w' pb mb N L ks n :=
  ⟨h.post.below hb, h.map.below hb, bel_trans h.bel hb, h.hz, h.len⟩
theorem In64.of {L : List M} {ks : List Int} {n mb : Nat} {w : World} (h : CntMap w mb L ks n) {m : M} (hm : m ∈ L) : In64 m.dst := h.keys _ (h.dom m hm)
/-- one more of a place, or one less -/
theorem CtSt.turn {w wr w4 : World} {pb mb N : Nat} {L L' : List M} {ks : List Int} {n : Nat} {t c : Int} (h : CtSt w wr pb mb N L ks n) (hc : Calm wr w4) (hp : PostAt w.heap.size w4 pb N L') (hb : Below w.heap.size w w4) (ht : In64 t) (hn : n < 1000000)
    (hs : ∀ s, s ≠ t → cnt L' s = cnt L s) (hd : ∀ m ∈ L', m.dst ∈ ks ∨ m.dst = t) (hl : L'.length ≤ N) (he : cnt L' t = c) :
    ∃ w5 ks' n', (Instr.mapUpdate 52 (.map (some mb)) (.int .i64 t) (.int .i64 c)).run Try.prog w4 = .ok () w5 ∧ n' ≤ n + 1 ∧ CtSt w w5 pb mb N L' ks' n' := by
  subst he
  have hm := h.map.calm hc
  obtain ⟨w5, hr, ⟨n', hn', hm'⟩, hg⟩ := hm.put ht hn L' hs hd
  obtain ⟨es, k, hblk⟩ := hm.block
  exact ⟨w5, _, n', hr, hn', ⟨hp.map hg hblk, hm', hb.grown hg hb.size (fun b e => by injection e with e; have := h.hz; omega), h.hz, hl⟩⟩
/-- the same while the copies are counted -/
structure TlSt (w wi : World) (pb mb hb N : Nat) (L : List M) (ks : List Int) (n : Nat) (lv : Value) (ms : List (M × Value)) (J : List M) (ks3 : List Int) (n3 : Nat) : Prop where
  st : CtSt w wi pb mb N L ks n
  own : Own 32 3 wi lv ms.length (mcells ms)
  hav : CntMap wi hb J ks3 n3
  ne : mb ≠ hb
  hz : w.heap.size ≤ hb
theorem TlSt.below {w wi w' : World} {pb mb hb N : Nat} {L : List M} {ks : List Int} {n : Nat} {lv : Value} {ms : List (M × Value)} {J : List M} {ks3 : List Int} {n3 : Nat} (h : TlSt w wi pb mb hb N L ks n lv ms J ks3 n3) (hbl : Below wi.heap.size wi w') : TlSt w w' pb mb hb N L ks n lv ms J ks3 n3 :=
  ⟨h.st.below hbl, h.own.below' hbl, h.hav.below hbl, h.ne, h.hz⟩
theorem own_map {e : TypeId} {size k mb : Nat} {w w' : World} {v : Value} {xs : List Value} (h : Own e size w v k xs) (hg : w.grownBy w' (some mb)) {es : Array MapEntry} {c : Nat} (hm : w.heap[mb]? = some (.map es c)) : Own e size w' v k xs :=
  h.keep fun b hb => by
    obtain ⟨cs', k', hgo⟩ := own_block h hb
    exact hg.block b (h.lt b hb) (fun e => by injection e with e; rw [e, hm] at hgo; cases hgo)
theorem TlSt.turn {w wi : World} {pb mb hb N : Nat} {L : List M} {ks : List Int} {n : Nat} {lv : Value} {ms : List (M × Value)} {J J' : List M} {ks3 : List Int} {n3 : Nat} {t c : Int} (h : TlSt w wi pb mb hb N L ks n lv ms J ks3 n3) (ht : In64 t) (hn : n3 < 1000000)
    (hs : ∀ s, s ≠ t → cnt J' s = cnt J s) (hd : ∀ m ∈ J', m.dst ∈ ks3 ∨ m.dst = t) (he : cnt J' t = c) :
    ∃ w5 ks' n', (Instr.mapUpdate 52 (.map (some hb)) (.int .i64 t) (.int .i64 c)).run Try.prog wi = .ok () w5 ∧ n' ≤ n3 + 1 ∧ TlSt w w5 pb mb hb N L ks n lv ms J' ks' n' := by
  subst he
  obtain ⟨w5, hr, ⟨n', hn', hm'⟩, hg⟩ := h.hav.put ht hn J' hs hd
  obtain ⟨es, k, hblk⟩ := h.hav.block
  refine ⟨w5, _, n', hr, hn', ⟨⟨h.st.post.map hg hblk, ⟨h.st.map.map.grown hg (fun e => by injection e with e; exact h.ne e), h.st.map.nodup, h.st.map.dom, h.st.map.keys⟩, h.st.bel.grown hg h.st.bel.size (fun b e => by injection e with e; have := h.hz; omega), h.st.hz, h.st.len⟩, own_map h.own hg hblk, hm', h.ne, h.hz⟩⟩

theorem same_key (t x : Int) : (Lit.int .i64 t).sameKey (.int .i64 x) = (t == x) := by
  by_cases h : t = x
  · subst h
    rw [WideAt.sameKey_self (show WideAt.IsKeyLit (.int .i64 t) from trivial)]
    simp
  · cases hh : (Lit.int .i64 t).sameKey (.int .i64 x)
    · simp [h]
    · have := WideAt.sameKey_eq hh
      injection this with _ this
      exact absurd this h
/-- the entry that comes is the count of its key -/
theorem entry_of {L : List M} {ks : List Int} {D : DataW Value} (hcf : ∀ kl, (cf L ks kl = none → Maps.has D kl = false) ∧ ∀ v, cf L ks kl = some v → Maps.has D kl = true ∧ ∀ z, D.atKey kl z = .held v)
    {x : Int} {kl : Lit} {c0 : Value} {y : DataW Value × List MemPlace} (hkey : Maps.Keyed Try.prog 3) (hk : keyOf Try.prog 3 (.int .i64 x) = some kl) (hd : Maps.has D kl = true) (hR : anyElem c0 = some y) (hat : ∀ zd, D.atKey kl zd = y.1) : kl = .int .i64 x ∧ x ∈ ks ∧ c0 = .int .i64 (cnt L x) := by
  obtain ⟨x', e, rfl, _⟩ := Maps.keyOf_int_inv Try.underlying3 hk
  cases e
  refine ⟨rfl, ?_⟩
  by_cases hx : x ∈ ks
  · have h1 := ((hcf (.int .i64 x)).2 (.int .i64 (cnt L x)) (by simp [cf, hx])).2 (.held (.int .i64 0))
    rw [hat] at h1
    unfold anyElem at hR
    injection hR with hR
    rw [← hR] at h1
    simp only at h1
    injection h1 with h1
    exact ⟨hx, h1⟩
  · have h1 := (hcf (.int .i64 x)).1 (by simp [cf, hx])
    rw [h1] at hd
    cases hd
set_option maxRecDepth 100000 in
set_option maxHeartbeats 8000000 in
theorem counts_any (room : Int) (v : Value) (l : List Op) (w : World) (hv : RdO w v l) (hI : ∀ op ∈ l, In64 op.m.dst) : Calls Try.prog 5 #[.int .i64 room, v] w fun e w' => e = .returned (.bool true) ∧ Below w.heap.size w w' := by
  obtain ⟨r, hr0, hr1, hr⟩ := u64_mod room 9 (by omega) (by omega)
  obtain ⟨N, rfl⟩ : ∃ N : Nat, r = (N : Int) := ⟨r.toNat, by omega⟩
  obtain ⟨a, cap, rfl, hcap, hbig, hcell⟩ := hv.open
  have Hcell := Lib.hid hcell
  have HI := Lib.hid hI
  clear hcell hv hI
  have hmm := @run_makeMap Try.prog
  go_enter Try.func5, Try.ntmps5
  go_wp2_with fail
  rw [hr]
  have Hr := Lib.hid hr
  clear hr
  refine (new_yes N _ (by omega)).mono ?_
  intro e w1 h1
  obtain ⟨pb, rfl, hp1, hb1⟩ := h1
  have HP1 := Lib.hid hp1
  have HB1 := Lib.hid hb1
  clear hp1 hb1
  go_wp2_with fail
  refine (awake_any _).mono ?_
  rintro e w2 ⟨rfl, hb⟩
  have HS0 : Hid (CtSt w (w2.alloc (.map #[] 0)) pb w2.heap.size N [] [] 0) := Lib.hid
    ⟨(HP1.out.below hb).below (below_alloc w2 _), CntMap.made w2, bel_alloc (bel_trans HB1.out hb), (bel_trans HB1.out hb).size, by simp⟩
  clear hb
  go_wp2_with fail
  generalize (w2.alloc (.map #[] 0)) = w3 at *
  generalize w2.heap.size = mb at *
  clear HP1 HB1 hmm
  have hN : N ≤ 8 := by omega
  go_loopw [8, 9, 10, 11, 12, 13, 14, 15, 17, 18, 19, 42] (fun _ _ _ _ _ _ _ _ _ _ _ iv wr => ∃ (k : Nat) (L : List M) (ks : List Int) (n : Nat), k ≤ l.length ∧ iv = .int .i64 k ∧ n ≤ k ∧ Hid (CtSt w wr pb mb N L ks n)) (fun _ _ _ _ _ _ _ _ _ _ _ iv _ => l.length - (intOf iv).toNat)
  case atStart => exact ⟨0, [], [], 0, by omega, rfl, by omega, HS0⟩
  case round =>
    clear HS0
    obtain ⟨k, L, ks, n, hk, rfl, hnk, HS⟩ := hrel
    obtain ⟨wo, rfl⟩ : ∃ wo, wo = wr := ⟨_, rfl⟩
    by_cases hlt : k < l.length
    · obtain ⟨op, hop⟩ : ∃ x, l[k]? = some x := ⟨l[k], List.getElem?_eq_getElem hlt⟩
      obtain ⟨b, o, bv, rfl, c0, c1, c2, c3, c4, hrd⟩ := Hcell.out k op hop
      have HIn := Lib.hid (HI.out op (List.mem_of_getElem? hop))
      have hbl := World.block_lt_of_cell? w _ c0
      have k0 : wo.cell? ⟨b, o + k * 5, none⟩ = some (.int .i64 op.kind) := (HS.out.bel.cell (p := ⟨b, o + k * 5, none⟩) hbl).trans c0
      have k1 : wo.cell? ⟨b, o + k * 5 + 1, none⟩ = some (.int .i64 op.m.frm) := (HS.out.bel.cell (p := ⟨b, o + k * 5 + 1, none⟩) hbl).trans c1
      have k2 : wo.cell? ⟨b, o + k * 5 + 2, none⟩ = some (.int .i64 op.m.dst) := (HS.out.bel.cell (p := ⟨b, o + k * 5 + 2, none⟩) hbl).trans c2
      have k3 : wo.cell? ⟨b, o + k * 5 + 3, none⟩ = some bv := (HS.out.bel.cell (p := ⟨b, o + k * 5 + 3, none⟩) hbl).trans c3
      have k4 : wo.cell? ⟨b, o + k * 5 + 4, none⟩ = some (.int .i64 op.i) := (HS.out.bel.cell (p := ⟨b, o + k * 5 + 4, none⟩) hbl).trans c4
      obtain ⟨ba, bcap, rfl, hb1, hb2, _⟩ := hrd.open
      clear hop c0 c1 c2 c3 c4 hrd
      by_cases h80 : (80 : Int) ≤ (k : Int)
      · go_wp2_with fail
        go_ret
        exact ⟨rfl, bel_alloc HS.out.bel⟩
      have d80 : decide ((80 : Int) ≤ (k : Int)) = false := by simp only [decide_eq_false_iff_not]; omega
      have d80' : decide (80 ≤ k) = false := by simp only [decide_eq_false_iff_not]; omega
      by_cases hlong : 3000 < op.m.body.length
      · have d3 : decide (3000 < (op.m.body.length : Int)) = true := by simp only [decide_eq_true_eq]; omega
        have d3' : decide (3000 < op.m.body.length) = true := by simp only [decide_eq_true_eq]; omega
        go_wp2_with fail
        go_ret
        exact ⟨rfl, bel_alloc HS.out.bel⟩
      have d3 : decide (3000 < (op.m.body.length : Int)) = false := by simp only [decide_eq_false_iff_not]; omega
      have d3' : decide (3000 < op.m.body.length) = false := by simp only [decide_eq_false_iff_not]; omega
      have HS1 := Lib.hid (HS.out.below (below_alloc wo (.cells #[.int .i64 op.kind, .int .i64 op.m.frm, .int .i64 op.m.dst, .slice ba op.m.body.length bcap, .int .i64 op.i] 43)))
      have HX1 : Hid (Blk (wo.alloc (.cells #[.int .i64 op.kind, .int .i64 op.m.frm, .int .i64 op.m.dst, .slice ba op.m.body.length bcap, .int .i64 op.i] 43)) wo.heap.size #[.int .i64 op.kind, .int .i64 op.m.frm, .int .i64 op.m.dst, .slice ba op.m.body.length bcap, .int .i64 op.i] 43) := Lib.hid (Blk.new wo _ 43)
      go_upto_block 2 with (fail)
      generalize (wo.alloc (.cells #[.int .i64 op.kind, .int .i64 op.m.frm, .int .i64 op.m.dst, .slice ba op.m.body.length bcap, .int .i64 op.i] 43)) = w1 at *
      have hzo : w.heap.size ≤ wo.heap.size := HS.out.bel.size
      clear HS k0 k1 k2 k3 k4
      generalize wo.heap.size = b9 at *
      have hn80 : n < 100 := by omega
      obtain ⟨okind, om, oi⟩ := op
      simp only at *
      have x0 : w1.cell? ⟨b9, 0, none⟩ = some (.int .i64 okind) := HX1.out.cell 0
      have x2 : w1.cell? ⟨b9, 2, none⟩ = some (.int .i64 om.dst) := HX1.out.cell 2
      have x4 : w1.cell? ⟨b9, 4, none⟩ = some (.int .i64 oi) := HX1.out.cell 4
      have hx9 := HX1.out.lt
      go_cut [10, 11, 12, 13] (fun _ _ _ _ wc => ∃ (L2 : List M) (ks2 : List Int) (n2 : Nat), n2 ≤ n + 1 ∧ Hid (CtSt w wc pb mb N L2 ks2 n2))
      case first =>
        by_cases hk0 : okind = 0
        · have e0 : (okind == 0) = true := by rw [beq_iff_eq]; exact hk0
          clear hk0
          by_cases hfl : L.length < N
          · go_wp2_with fail
            refine (send_ok w.heap.size pb N L ⟨0, om.dst, []⟩ _ w1 HS1.out.post HS1.out.bel.size (rd_nil _) (by simp) hfl).mono ?_
            rintro e w4 ⟨rfl, hp4, hc4, hbl4⟩
            have HX4 := Lib.hid (Blk.calm HX1.out hc4 (by decide) (by decide))
            have y2 : w4.cell? ⟨b9, 2, none⟩ = some (.int .i64 om.dst) := HX4.out.cell 2
            have hlk := (HS1.out.map.calm hc4).look HIn.out
            have hcl := cnt_le L om.dst
            have hcn := cnt_nonneg L om.dst
            obtain ⟨w5, ks5, n5, hr5, hn5, hst5⟩ := HS1.out.turn (L' := L ++ [⟨0, om.dst, []⟩]) (t := om.dst) (c := cnt L om.dst + 1) hc4 hp4 (HS1.out.bel.trans hbl4) HIn.out (by omega)
              (fun s hs => by rw [cnt_snoc, if_neg (fun e => hs e.symm)]; omega)
              (fun m hm => by
                rcases List.mem_append.1 hm with hm | hm
                · exact .inl (HS1.out.map.dom m hm)
                · simp at hm; subst hm; exact .inr rfl)
              (by simp; omega) (by rw [cnt_snoc, if_pos rfl])
            have HS5 := Lib.hid hst5
            clear hp4 hc4 hbl4 hst5 x0 x2 x4
            generalize cnt L om.dst = cc at *
            go_wp2_with fail
            go_meet
            exact ⟨_, ks5, n5, by omega, HS5⟩
          · go_wp2_with fail
            refine (send_full' w.heap.size pb N L 0 om.dst _ [] w1 HS1.out.post (rd_nil _) (by simp) (by omega)).mono ?_
            rintro e w4 ⟨rfl, hb4⟩
            have HS4 := Lib.hid (HS1.out.below hb4)
            clear hb4
            go_wp2_with fail
            go_meet
            exact ⟨L, ks, n, by omega, HS4⟩
        have e0 : (okind == 0) = false := by rw [beq_eq_false_iff_ne]; exact hk0
        clear hk0
        by_cases hk1 : okind = 1
        · have e1 : (okind == 1) = true := by rw [beq_iff_eq]; exact hk1
          clear hk1
          by_cases hi : 0 ≤ oi ∧ oi < (L.length : Int)
          · obtain ⟨i, rfl⟩ : ∃ i : Nat, oi = (i : Int) := ⟨oi.toNat, by omega⟩
            have hil : i < L.length := by omega
            obtain ⟨m, hm⟩ : ∃ m, L[i]? = some m := ⟨L[i], List.getElem?_eq_getElem hil⟩
            have Hm := Lib.hid hm
            have HIm := Lib.hid (In64.of HS1.out.map (List.mem_of_getElem? hm))
            clear hm hi
            go_wp2_with fail
            refine (take_yes w.heap.size pb N L i m w1 HS1.out.post HS1.out.bel.size Hm.out).mono ?_
            intro e w4 h4
            obtain ⟨tv, rfl, htv, hp4, hc4, hbl4⟩ := h4
            obtain ⟨ta, tcap, rfl, _⟩ := htv.rd.open
            have hb5 := below_alloc w4 (.cells #[.int .i64 m.frm, .int .i64 m.dst, .slice ta m.body.length tcap] 32)
            have hlk := (HS1.out.map.calm (hc4.trans (Calm.of hb5))).look HIm.out
            have hcl := cnt_le L m.dst
            have hcn := cnt_nonneg L m.dst
            obtain ⟨w5, ks5, n5, hr5, hn5, hst5⟩ := HS1.out.turn (L' := L.eraseIdx i) (t := m.dst) (c := cnt L m.dst - 1) (hc4.trans (Calm.of hb5)) (hp4.below hb5) ((HS1.out.bel.trans hbl4).trans (hb5.mono (HS1.out.bel.trans hbl4).size)) HIm.out (by omega)
              (fun s hs => by rw [cnt_erase L i m Hm.out, if_neg (fun e => hs e.symm)]; omega)
              (fun m' hm' => .inl (HS1.out.map.dom m' (List.mem_of_mem_eraseIdx hm')))
              (Nat.le_trans (List.length_eraseIdx_le _ _) HS1.out.len) (by rw [cnt_erase L i m Hm.out, if_pos rfl])
            have HS5 := Lib.hid hst5
            have hNL := HS1.out.len
            have hwr : wrap64 (cnt L m.dst - 1) = cnt L m.dst - 1 := IntWalk.wrap64_in _ ⟨by omega, by omega⟩
            clear hp4 hc4 hbl4 hst5 hb5 htv x0 x2 x4
            generalize cnt L m.dst = cc at *
            go_wp2_with fail
            go_meet
            exact ⟨_, ks5, n5, by omega, HS5⟩
          · have hin : oi < 0 ∨ (L.length : Int) ≤ oi := by omega
            have Hin := Lib.hid hin
            clear hi hin
            go_wp2_with fail
            refine (take_no w.heap.size pb N L oi w1 HS1.out.post Hin.out).mono ?_
            unfold noMsg
            rintro e w4 ⟨rfl, hb4⟩
            have HS4 := Lib.hid ((HS1.out.below hb4).below (below_alloc w4 (.cells #[.int .i64 0, .int .i64 0, .slice none 0 0] 32)))
            clear hb4
            go_wp2_with fail
            go_meet
            exact ⟨L, ks, n, by omega, HS4⟩
        have e1 : (okind == 1) = false := by rw [beq_eq_false_iff_ne]; exact hk1
        clear hk1
        by_cases hk2 : okind = 2
        · have e2 : (okind == 2) = true := by rw [beq_iff_eq]; exact hk2
          clear hk2
          by_cases hi : 0 ≤ oi ∧ oi < (L.length : Int)
          · obtain ⟨i, rfl⟩ : ∃ i : Nat, oi = (i : Int) := ⟨oi.toNat, by omega⟩
            have hil : i < L.length := by omega
            obtain ⟨m, hm⟩ : ∃ m, L[i]? = some m := ⟨L[i], List.getElem?_eq_getElem hil⟩
            have Hm := Lib.hid hm
            have HIm := Lib.hid (In64.of HS1.out.map (List.mem_of_getElem? hm))
            clear hm hi
            go_wp2_with fail
            refine (look_yes w.heap.size pb N L i m w1 HS1.out.post Hm.out).mono ?_
            intro e w4 h4
            obtain ⟨tv, rfl, htv, hb4⟩ := h4
            obtain ⟨ta, tcap, rfl, _⟩ := htv.rd.open
            have HX4 := Lib.hid (HX1.out.next hb4)
            have HS4 := Lib.hid (HS1.out.below hb4)
            have z4 : w4.cell? ⟨b9, 4, none⟩ = some (.int .i64 i) := HX4.out.cell 4
            have hx94 := HX4.out.lt
            have HS5 := Lib.hid (HS4.out.below (below_alloc w4 (.cells #[.int .i64 m.frm, .int .i64 m.dst, .slice ta m.body.length tcap] 32)))
            have HQ5 : Hid (Blk (w4.alloc (.cells #[.int .i64 m.frm, .int .i64 m.dst, .slice ta m.body.length tcap] 32)) w4.heap.size #[.int .i64 m.frm, .int .i64 m.dst, .slice ta m.body.length tcap] 32) := Lib.hid (Blk.new w4 _ 32)
            have HL5 := Lib.hid (HS4.out.post.l (g := w4.heap.size) (Nat.le_refl _) (below_alloc w4 (.cells #[.int .i64 m.frm, .int .i64 m.dst, .slice ta m.body.length tcap] 32)))
            clear htv hb4 x0 x2 x4
            by_cases hfl : L.length < N
            · go_wp2_with fail
              refine (copy_box w4.heap.size _ w.heap.size pb N L i m _ HL5.out HQ5.out HS5.out.bel.size Hm.out hfl).mono ?_
              rintro e w6 ⟨rfl, hp6, hc6, hbl6, hq6⟩
              have y1 : w6.cell? ⟨w4.heap.size, 1, none⟩ = some (.int .i64 m.dst) := hq6.cell 1
              have hlk := (HS5.out.map.calm hc6).look HIm.out
              have hcl := cnt_le L m.dst
              have hcn := cnt_nonneg L m.dst
              obtain ⟨w7, ks7, n7, hr7, hn7, hst7⟩ := HS5.out.turn (L' := L ++ [m]) (t := m.dst) (c := cnt L m.dst + 1) hc6 hp6 (HS5.out.bel.trans hbl6) HIm.out (by omega)
                (fun s hs => by rw [cnt_snoc, if_neg (fun e => hs e.symm)]; omega)
                (fun m' hm' => by
                  rcases List.mem_append.1 hm' with hm' | hm'
                  · exact .inl (HS5.out.map.dom m' hm')
                  · simp at hm'; subst hm'; exact .inr rfl)
                (by simp; omega) (by rw [cnt_snoc, if_pos rfl])
              have HS7 := Lib.hid hst7
              clear hp6 hc6 hbl6 hst7 hq6 z4
              generalize cnt L m.dst = cc at *
              go_wp2_with fail
              go_meet
              exact ⟨_, ks7, n7, by omega, HS7⟩
            · have HC := Lib.hid (copy_yes w.heap.size pb N L i m (w4.alloc (.cells #[.int .i64 m.frm, .int .i64 m.dst, .slice ta m.body.length tcap] 32)) HS5.out.post HS5.out.bel.size Hm.out)
              rw [if_neg hfl] at HC
              go_wp2_with fail
              refine HC.out.mono ?_
              rintro e w6 ⟨rfl, hp6, hc6, hbl6⟩
              have HS6 : Hid (CtSt w w6 pb mb N L ks n) := Lib.hid ⟨hp6, HS5.out.map.calm hc6, HS5.out.bel.trans hbl6, HS5.out.hz, HS5.out.len⟩
              clear hp6 hc6 hbl6 HC
              go_wp2_with fail
              go_meet
              exact ⟨L, ks, n, by omega, HS6⟩
          · have hin : oi < 0 ∨ (L.length : Int) ≤ oi := by omega
            have Hin := Lib.hid hin
            clear hi hin
            go_wp2_with fail
            refine (look_no w.heap.size pb N L oi w1 HS1.out.post Hin.out).mono ?_
            unfold noMsg
            rintro e w4 ⟨rfl, hb4⟩
            have HS4 := Lib.hid ((HS1.out.below hb4).below (below_alloc w4 (.cells #[.int .i64 0, .int .i64 0, .slice none 0 0] 32)))
            clear hb4
            go_wp2_with fail
            go_meet
            exact ⟨L, ks, n, by omega, HS4⟩
        have e2 : (okind == 2) = false := by rw [beq_eq_false_iff_ne]; exact hk2
        clear hk2
        go_wp2_with fail
        go_meet
        exact ⟨L, ks, n, by omega, HS1⟩
      case rest =>
        obtain ⟨L2, ks2, n2, hn2, HS2⟩ := hcut
        clear HS1 HX1 x0 x2 x4 hx9 HIn hzo
        have hmm := @run_makeMap Try.prog
        go_wp2_with fail
        refine (all_any w.heap.size pb N L2 _ (HS2.out.post.below (below_alloc wc _))).mono ?_
        intro e wa ha
        obtain ⟨lv, ms, rfl, hms, hcp⟩ := ha
        have hwcs : mb < wc.heap.size := by
          obtain ⟨es, c9, hb9⟩ := HS2.out.map.block
          exact (Array.getElem?_eq_some_iff.1 hb9).1
        have hwz := HS2.out.bel.size
        obtain ⟨_, va, vcap, rfl, _⟩ := hcp.own.rd
        have HT0 : Hid (TlSt w wa pb mb wc.heap.size N L2 ks2 n2 (.slice va ms.length vcap) ms [] [] 0) := Lib.hid
          ⟨(HS2.out.below (below_alloc wc _)).below hcp.bel, hcp.own, (CntMap.made wc).below hcp.bel, by omega, hwz⟩
        have Hform : Hid (∀ x ∈ ms, ∃ a n c, x.2 = Value.slice a n c) := Lib.hid (fun x hx => by
          obtain ⟨a, c, e, _⟩ := (hcp.bod x hx).1.rd.open
          exact ⟨a, _, c, e⟩)
        have Hms := Lib.hid hms
        have hml : ms.length = L2.length := by rw [← hms, List.length_map]
        have Hml := Lib.hid hml
        have hL8 : L2.length ≤ N := HS2.out.len
        have hm8 : ms.length ≤ 8 := by omega
        generalize wc.heap.size = hb at *
        clear hcp hms hmm HS2 hml
        go_wp2_with fail
        go_loopw [17, 116] (fun _ iv wi => ∃ (j n3 : Nat) (ks3 : List Int), j ≤ ms.length ∧ iv = .int .i64 j ∧ n3 ≤ j ∧ Hid (TlSt w wi pb mb hb N L2 ks2 n2 (.slice va ms.length vcap) ms (L2.take j) ks3 n3)) (fun _ iv _ => ms.length - (intOf iv).toNat)
        case atStart => exact ⟨0, 0, [], by omega, rfl, by omega, HT0⟩
        case round =>
          clear HT0
          obtain ⟨j, n3, ks3, hj, rfl, hn3, HT⟩ := hrel
          obtain ⟨wi, rfl⟩ : ∃ wi, wi = wr := ⟨_, rfl⟩
          by_cases hjl : j < ms.length
          · obtain ⟨⟨m, bv⟩, hx⟩ : ∃ x, ms[j]? = some x := ⟨ms[j], List.getElem?_eq_getElem hjl⟩
            obtain ⟨fa, fn, fc, hf⟩ := Hform.out _ (List.mem_of_getElem? hx)
            simp only at hf
            subst hf
            obtain ⟨g, cap', hg, c0, c1, c2⟩ := own_msg HT.out.own hx
            cases hg
            simp only at c0 c1 c2
            have hLj : L2[j]? = some m := by rw [← Hms.out, List.getElem?_map, hx]; rfl
            have HIm := Lib.hid (In64.of HT.out.st.map (List.mem_of_getElem? hLj))
            have Htk : Hid (L2.take (j + 1) = L2.take j ++ [m]) := Lib.hid (by
              obtain ⟨hk', e⟩ := List.getElem?_eq_some_iff.1 hLj
              rw [List.take_succ_eq_append_getElem hk', e])
            have hgl := World.block_lt_of_cell? wi _ c0
            have HT5 := Lib.hid (HT.out.below (below_alloc wi (.cells #[.int .i64 m.frm, .int .i64 m.dst, .slice fa fn fc] 32)))
            have hlk := HT5.out.hav.look HIm.out
            have hcl := cnt_le (L2.take j) m.dst
            have hcn := cnt_nonneg (L2.take j) m.dst
            have hcl2 : (L2.take j).length ≤ 8 := by rw [List.length_take]; omega
            obtain ⟨w7, ks7, n7, hr7, hn7, hst7⟩ := HT5.out.turn (J' := L2.take j ++ [m]) (t := m.dst) (c := cnt (L2.take j) m.dst + 1) HIm.out (by omega)
              (fun s hs => by rw [cnt_snoc, if_neg (fun e => hs e.symm)]; omega)
              (fun m' hm' => by
                rcases List.mem_append.1 hm' with hm' | hm'
                · exact .inl (HT5.out.hav.dom m' hm')
                · simp at hm'; subst hm'; exact .inr rfl)
              (by rw [cnt_snoc, if_pos rfl])
            have HT7 : Hid (TlSt w w7 pb mb hb N L2 ks2 n2 (.slice (some ⟨g, 0, none⟩) ms.length vcap) ms (L2.take (j + 1)) ks7 n7) := Lib.hid (by rw [Htk.out]; exact hst7)
            have hj1 : (0 : Int) ≤ (j : Int) := by omega
            have hj2 : (j : Int) < (ms.length : Int) := by omega
            clear hst7 hx hLj
            generalize cnt (L2.take j) m.dst = cc at *
            go_wp2_with fail
            go_roundw
            case rel => exact ⟨j + 1, n7, ks7, by omega, by go_num, by omega, HT7⟩
            case measure => simp [intOf]; omega
          · obtain rfl : j = ms.length := by omega
            have HT8 : Hid (TlSt w wi pb mb hb N L2 ks2 n2 (.slice va ms.length vcap) ms L2 ks3 n3) := Lib.hid (by have := HT.out; rw [Hml.out, List.take_length] at this; rw [Hml.out]; exact this)
            clear HT
            obtain ⟨D, hD, hsz, hcf⟩ := HT8.out.st.map.map
            have HD := Lib.hid hD
            have Hcf := Lib.hid hcf
            clear hD hsz hcf
            go_wp2_with (first
              | (at_range; refine wpList_range_own _ rfl _ 52 rfl 3 3 key3 Try.underlying52 _ mb n2 D rfl HD.out ?_; intro w0 hrg0 hg0 hs0)
              | fail)
            have HB0 : Hid (Below wi.heap.size wi w0) := Lib.hid ((Below.refl _ _).grown hg0 (Nat.le_refl _) (fun b e => by cases e))
            have Hsum : Hid ((0 : Int) + total L2 (fun t => Maps.has D (.int .i64 t)) ks2 = L2.length) := Lib.hid (by
              rw [total_congr L2 _ (fun _ => true) ks2 (fun t ht => (Hcf.out (.int .i64 t)).2 (.int .i64 (cnt L2 t)) (by simp [cf, ht]) |>.1), total_all ks2 HT8.out.st.map.nodup _ L2 rfl HT8.out.st.map.dom]
              omega)
            have hHas : Hid (∀ kl, Maps.has D kl = true → Maps.has D kl = true) := Lib.hid (fun _ h => h)
            have hrgi := hrg0
            clear hg0 hs0 hrg0
            go_frame
            go_loopw [14, 18, 19] (fun nv _ _ wr => ∃ (left : Lit → Bool) (c : Nat) (s : Int), wr.ranges Try.prog 3 anyElem mb wi.heap.size n2 D left c ∧ nv = .int .i64 s ∧ Hid (0 ≤ s ∧ s + total L2 (fun t => left (.int .i64 t)) ks2 = L2.length) ∧ Hid (∀ kl, left kl = true → Maps.has D kl = true) ∧ Hid (Below wi.heap.size wi wr)) (fun _ _ _ wr => wr.rangeLeft mb wi.heap.size)
            case atStart => exact ⟨_, _, 0, hrgi, rfl, Lib.hid ⟨by omega, Hsum.out⟩, hHas, HB0⟩
            case round =>
              clear hrgi HB0 Hsum hHas
              obtain ⟨left, c, s, hrg, rfl, Hsum, Hhas, HB⟩ := hrel
              obtain ⟨wt, rfl⟩ : ∃ wt, wt = wr := ⟨_, rfl⟩
              go_wp2_with (first
                | (at_next; refine wpList_next_ranges _ rfl _ rfl 3 key3 anyElem (Value.int .i64) id (fun key kl h => by obtain ⟨x, e, _⟩ := Maps.keyOf_int_inv Try.underlying3 h; exact ⟨x, e⟩) (fun v y h => ⟨v, rfl⟩) mb wi.heap.size n2 D left c rfl hrg ?_ ?_)
                | fail)
              · intro hc0 hl0
                have hs0 : s = (L2.length : Int) := by
                  have := Hsum.out.2
                  rw [total_none L2 _ ks2 (fun t _ => hl0 _)] at this
                  omega
                subst hs0
                have HT9 := Lib.hid (HT8.out.below HB.out)
                have hdN : decide ((N : Int) < (L2.length : Int)) = false := by simp only [decide_eq_false_iff_not]; omega
                have hdN' : decide (N < L2.length) = false := by simp only [decide_eq_false_iff_not]; omega
                clear hl0 hrg
                go_wp2_with fail
                refine (len_any w.heap.size pb N L2 _ HT9.out.st.post).mono ?_
                rintro e w9 ⟨rfl, rfl⟩
                go_wp2_with fail
                go_roundw
                case rel => exact ⟨k + 1, L2, ks2, n2, by omega, by go_num, by omega, Lib.hid HT9.out.st⟩
                case measure => simp [intOf]; omega
              · intro x c0 kl ya yb w1' cnt1 hkey hlx hR hat hrg1 hlt1 hg1 hs1 hen
                obtain ⟨rfl, hxk, hc0⟩ := entry_of Hcf.out key3 hkey (Hhas.out kl hlx) hR hat
                have hc0' : c0 = .int .i64 (cnt L2 x) := hc0
                subst hc0'
                have hB1 : Below wi.heap.size wi w1' := HB.out.grown hg1 HB.out.size (fun b e => by injection e with e; omega)
                have HB1 := Lib.hid hB1
                have HT9 := Lib.hid (HT8.out.below hB1)
                have hlk := HT9.out.hav.look (HT9.out.st.map.keys x hxk)
                have hcn := cnt_nonneg L2 x
                have hcl := cnt_le L2 x
                have hdr := total_drop L2 (fun t => left (.int .i64 t)) x hlx ks2 HT9.out.st.map.nodup hxk
                have htn := total_nonneg L2 (fun z => left (.int .i64 z) && !(z == x)) ks2
                have hsum1 := Hsum.out.1
                have hsum2 : s + cnt L2 x ≤ 8 := by have := Hsum.out.2; omega
                have HS1 : Hid (0 ≤ s + cnt L2 x ∧ (s + cnt L2 x) + total L2 (fun t => left (.int .i64 t) && !(Lit.int .i64 t).sameKey (.int .i64 x)) ks2 = L2.length) := Lib.hid ⟨by omega, by
                  have e : (fun t => left (.int .i64 t) && !(Lit.int .i64 t).sameKey (.int .i64 x)) = fun z => left (.int .i64 z) && !(z == x) := by
                    funext t
                    rw [same_key]
                  rw [e]
                  have := Hsum.out.2
                  omega⟩
                have HH1 : Hid (∀ kl, (left kl && !kl.sameKey (.int .i64 x)) = true → Maps.has D kl = true) := Lib.hid (fun kl h => Hhas.out kl (by simp at h; exact h.1))
                have Hmeas : Hid (w1'.rangeLeft mb wi.heap.size < wt.rangeLeft mb wi.heap.size) := Lib.hid (by rw [hrg1.left_eq, hrg.left_eq]; exact hlt1)
                have Hrg1 := Lib.hid hrg1
                have hdneg : decide (cnt L2 x < 0) = false := by simp only [decide_eq_false_iff_not]; omega
                try simp only [id] at hen
                clear hR hat hkey hlx hrg hrg1 hg1 hs1 hB1 hdr htn hc0 hlt1
                try simp only [id]
                generalize cnt L2 x = cc at *
                go_wp2_with fail
                go_roundw
                case rel => exact ⟨_, cnt1, s + cc, Hrg1.out, rfl, HS1, HH1, HB1⟩
                case measure => exact Hmeas.out
    · obtain rfl : k = l.length := by omega
      go_wp2_with fail
      go_ret
      exact ⟨rfl, HS.out.bel⟩
end Go.Proofs.Ytjhjbgdekpegdaa
