/- The document's Append (28). -/
import Derived.Test.YtokmiphgalpahaaX2
import Derived.Test.YtokmiphgalpahaaWR
namespace Go.Proofs.Ytokmiphgalpahaa
open Go.RowKit Go.Kt
set_option maxRecDepth 100000
variable {F G : Nat → Prop} {w w' w0 : World} {m : Nat} {P : Pd} {lv : Value} {rs : List RS}
theorem used_refq (h : RefIs G w m P lv rs) (hok : PdOk P) : Calls Try.prog 39 #[.pointer (some ⟨m, 0, none⟩)] w fun e w' => e = .returned (.int .i64 (usedP P.L)) ∧ ∃ t, w' = w.drewN t := by
  have H := Lib.hid h
  obtain ⟨a, cap, rfl⟩ := h.form
  have hlen : rs.length ≤ 1024 := by rw [h.len]; exact hok.len
  have Hle : Hid (∀ k, usedP ((rs.take k).map RS.pg) ≤ 67108864) := Lib.hid (fun k => by
    have h1 := usedP_le rs k
    rw [h.eq] at h1
    have := hok.tot
    have := hok.room1
    omega)
  obtain ⟨c0, c1, c2, c3⟩ := h.cell
  clear h hok
  go_enter Try.func39, Try.ntmps39
  go_wp2_with fail
  go_loopw [3, 4] (fun nv iv wr => ∃ (k s : Nat), k ≤ rs.length ∧ iv = .int .i64 k ∧ nv = .int .i64 s ∧ Hid (s = usedP ((rs.take k).map RS.pg)) ∧ Hid (∃ t, wr = w.drewN t)) (fun _ iv _ => rs.length - (intOf iv).toNat)
  case atStart => exact ⟨0, 0, by omega, rfl, rfl, Lib.hid rfl, Lib.hid ⟨0, rfl⟩⟩
  case round =>
    obtain ⟨k, s, hk, rfl, rfl, Hs, HQ⟩ := hrel
    have HB : Hid (Below w.heap.size w wr) := Lib.hid (by
      obtain ⟨t, ht⟩ := HQ.out
      rw [ht]
      exact bel_drewN (bel_refl w) t)
    have hs1 : s ≤ 67108864 := by rw [Hs.out]; exact Hle.out k
    have HR := Lib.hid (H.out.next HB.out)
    have r1 : wr.cell? ⟨m, 1, none⟩ = some (.slice a rs.length cap) := HR.out.cell.2.1
    by_cases hlt : k < rs.length
    · obtain ⟨r, hr⟩ : ∃ x, rs[k]? = some x := ⟨rs[k], List.getElem?_eq_getElem hlt⟩
      obtain ⟨g, cap', e, k0, k1, k2, _⟩ := HR.out.seg hr
      injection e with e1 e2 e3
      subst e1 e3
      have hk1 : (0 : Int) ≤ (k : Int) := by omega
      have hk2 : (k : Int) < (rs.length : Int) := by omega
      have hro := HR.out.rows r (List.mem_of_getElem? hr)
      obtain ⟨_, sa, sc, hsv, _⟩ := hro.1.rd
      obtain ⟨_, la, lc, hlv, _⟩ := hro.2.1.rd
      rw [hsv] at k1
      rw [hlv] at k2
      have Hst := Lib.hid (usedP_take rs k r hr)
      have hs2 : s + r.sure.length + r.loose.length ≤ 67108864 := by rw [Hs.out, ← Hst.out]; exact Hle.out (k + 1)
      clear hr hro hsv hlv
      go_wp2_with fail
      go_quiet (fail)
      go_wp2_with fail
      go_roundw
      case rel => exact ⟨k + 1, s + r.sure.length + r.loose.length, by omega, by go_num, by go_num, Lib.hid (by rw [Hst.out, Hs.out]), Lib.hid (by
        obtain ⟨t, ht⟩ := HQ.out
        rw [ht]
        exact ⟨_, World.drewN_drewN _ _ _⟩)⟩
      case measure => simp [intOf]; omega
    · obtain rfl : k = rs.length := by omega
      have Hs' : Hid (s = usedP P.L) := Lib.hid (by rw [Hs.out, List.take_length, H.out.eq])
      go_wp2_with fail
      go_ret
      exact ⟨by rw [Hs'.out]; rfl, HQ.out⟩
/-- bytes laid behind a segment's loose ones, behind calls that turned nothing -/
theorem ref_store1 {w1 w3 : World} {P1 P' : Pd} {g cap i : Nat} {r : RS} {v : Value} {b : List UInt8} (hT : Turn G w w1) (h : RefIs G w1 m P1 (.slice (some ⟨g, 0, none⟩) rs.length cap) rs) (hb : Below w1.heap.size w1 w3) (hr : rs[i]? = some r)
    (h1 : Mine8 5 w1 w3 v b) (e1 : P'.room = P1.room) (e2 : P'.fuse = P1.fuse) (e3 : P'.down = P1.down) (hP : P'.L = P1.L.set i ⟨r.n, r.sure ++ b, r.sure.length, r.kept⟩) :
    RefIs (fun x => G x ∨ (w1.heap.size ≤ x ∧ x < (w3.setCell ⟨g, i * 4 + 2, none⟩ v).heap.size)) (w3.setCell ⟨g, i * 4 + 2, none⟩ v) m P' (.slice (some ⟨g, 0, none⟩) rs.length cap) (rs.set i { r with lv := v, loose := b }) ∧ Turn G w (w3.setCell ⟨g, i * 4 + 2, none⟩ v) := by
  have hil := (List.getElem?_eq_some_iff.1 hr).1
  have h3 := h.next hb
  have hTs : Turn (· = g) w3 (w3.setCell ⟨g, i * 4 + 2, none⟩ v) := (Turn.refl (· = g) w3).set (a := ⟨g, i * 4 + 2, none⟩) rfl _
  have hgG : G g := h.Gl g rfl
  have hT4 : Turn G w (w3.setCell ⟨g, i * 4 + 2, none⟩ v) := (hT.trans (Turn.of (F := fun _ => False) hb) (fun _ hx => hx.elim)).trans hTs (fun x hx => .inl (hx ▸ hgG))
  have hgb : ∀ {v' : Value} {b : List UInt8}, Own8 5 w3 v' b → Own8 5 (w3.setCell ⟨g, i * 4 + 2, none⟩ v) v' b := fun ho => Own.keep ho fun b hbb => hTs.block b (ho.lt b hbb) (fun e => by
    subst e
    rcases h3.own.2 with ⟨e, _⟩ | ⟨g', cap', cur, e, _, hg, _⟩
    · cases e
    · injection e with e _ _
      injection e with e
      injection e with e
      subst e
      exact own_no_blk ho (show Blk w3 _ cur 80 from hg) (by decide) hbb)
  have hmg : m ≠ g := fun e => by
    subst e
    exact own_no_blk h3.own h3.blk (by decide) rfl
  have hro := h3.rows r (List.mem_of_getElem? hr)
  refine ⟨(h3.more (H := fun x => G x ∨ (w1.heap.size ≤ x ∧ x < (w3.setCell ⟨g, i * 4 + 2, none⟩ v).heap.size)) (fun x hx => .inl hx)).put hr ?_ ?_ (fun x hx => ?_) ⟨hgb hro.1, hgb h1.1, fun x hx => .inl (hro.2.2.1 x hx), fun x hx => .inr ⟨h1.2 x hx, Nat.lt_of_lt_of_le (h1.1.lt x hx) hTs.size⟩⟩ hP, hT4⟩
  · rw [e1, e2, e3]
    exact (hTs.block m h3.blk.lt hmg).trans h3.blk
  · rw [rcells_set2 rs i r v b hr]
    exact own_setCell h3.own (j := i * 4 + 2) (by omega) v
  · have hx3 := h3.rows x hx
    exact ⟨hgb hx3.1, hgb hx3.2.1, fun y hy => .inl (hx3.2.2.1 y hy), fun y hy => .inl (hx3.2.2.2 y hy)⟩
theorem insP_mid (q : Pg) : ∀ (a b : List Pg), (∀ p ∈ a, p.n < q.n) → (∀ p, b.head? = some p → ¬ p.n < q.n) → insP q (a ++ b) = a ++ q :: b
  | [], [], _, _ => rfl
  | [], t :: ks, _, h => by
    show insP q (t :: ks) = _
    unfold insP
    rw [if_neg (h t rfl)]
    rfl
  | t :: a, b, h, h2 => by
    rw [List.cons_append]
    unfold insP
    rw [if_pos (h t (by simp)), insP_mid q a b (fun p hp => h p (by simp [hp])) h2]
    rfl
theorem set_mid {α : Type} (a b : List α) (q q' : α) : (a ++ q :: b).set a.length q' = a ++ q' :: b := by
  rw [List.set_append_right _ _ (Nat.le_refl _), Nat.sub_self]
  rfl
/-- the row while a new segment is being put into its place -/
def midN (q : RS) (rs : List RS) (k j : Nat) : List RS := rs.take k ++ q :: (rs.take j).drop k
theorem midN_start (q : RS) (rs : List RS) (k : Nat) : midN q rs k k = rs.take k ++ [q] := by
  unfold midN
  rw [List.drop_eq_nil_of_le (by rw [List.length_take]; omega)]
theorem midN_succ (q : RS) (rs : List RS) (k j : Nat) (r : RS) (hr : rs[j]? = some r) (h : k ≤ j) : midN q rs k (j + 1) = midN q rs k j ++ [r] := by
  obtain ⟨hj, rfl⟩ := List.getElem?_eq_some_iff.1 hr
  unfold midN
  rw [List.take_succ_eq_append_getElem hj, List.drop_append_of_le_length (by rw [List.length_take]; omega)]
  simp
theorem midN_len (q : RS) (rs : List RS) (k j : Nat) (h : k ≤ j) (hj : j ≤ rs.length) : (midN q rs k j).length = j + 1 := by
  unfold midN
  rw [List.length_append, List.length_take, List.length_cons, List.length_drop, List.length_take]
  omega
theorem own_form {e : TypeId} {size n : Nat} {w : World} {v : Value} {xs : List Value} (h : Own e size w v n xs) (hn : 0 < n) : ∃ g cap, v = .slice (some ⟨g, 0, none⟩) n cap := by
  rcases h.2 with ⟨_, h0⟩ | ⟨g, cap, _, hv, _⟩
  · omega
  · exact ⟨g, cap, hv⟩
/-- which segment bytes are laid to, and the disk then -/
structure ApAt (G : Nat → Prop) (w wc : World) (m : Nat) (P' : Pd) (at_ : Int) (pl : List UInt8) : Prop where
  ex : ∃ (P1 : Pd) (g cap i : Nat) (rs : List RS) (r : RS), at_ = (i : Int) ∧ RefIs (Plus G w wc) wc m P1 (.slice (some ⟨g, 0, none⟩) rs.length cap) rs ∧ rs[i]? = some r ∧ rs.length ≤ 1024 ∧
    r.loose.length ≤ 67108864 ∧ P'.room = P1.room ∧ P'.fuse = P1.fuse ∧ P'.down = P1.down ∧ P'.L = P1.L.set i ⟨r.n, r.sure ++ (r.loose ++ pl), r.sure.length, r.kept⟩
  turn : Turn G w wc
set_option maxRecDepth 100000 in
set_option maxHeartbeats 4000000 in
theorem app_ref (h : RefIs G w m P lv rs) (hok : PdOk P) (n : Int) {v : Value} {pl : List UInt8} (hv : Rd8 w v pl) (hF : ∀ x, v.ownBlock = some x → pl ≠ [] → ¬ G x) : Calls Try.prog 30 #[.pointer (some ⟨m, 0, none⟩), .int .i64 n, v] w (RDone G w m (P.app n pl)) := by
  have H := Lib.hid h
  have Hok := Lib.hid hok
  have HV := Lib.hid hv
  have HF := Lib.hid hF
  obtain ⟨c0, c1, c2, c3⟩ := h.cell
  have hlen : rs.length ≤ 1024 := by rw [h.len]; exact hok.len
  have hPl : P.L.length = rs.length := h.len.symm
  have hr0 := hok.room0
  have hr1 := hok.room1
  have ht := hok.tot
  obtain ⟨va, vc, rfl, hvc, hvb, _⟩ := hv.open
  obtain ⟨la, lc, rfl⟩ := h.form
  unfold Pd.app
  cases hd : P.down with
  | true =>
    rw [hd] at c3
    clear h hok hv hF
    go_enter Try.func30, Try.ntmps30
    go_wp2_with fail
    go_ret
    exact ⟨rfl, ⟨_, _, H.out.more (fun x hx => .inl hx)⟩, Turn.refl _ _⟩
  | false =>
  rw [hd] at c3
  rw [if_neg (by simp)]
  by_cases hn1 : n < 1
  · rw [if_pos hn1]
    have d1 : decide (n < 1) = true := by simpa using hn1
    clear h hok hv hF
    go_enter Try.func30, Try.ntmps30
    go_wp2_with fail
    go_ret
    exact ⟨rfl, ⟨_, _, H.out.more (fun x hx => .inl hx)⟩, Turn.refl _ _⟩
  rw [if_neg hn1]
  have d1 : decide (n < 1) = false := by simpa using hn1
  have hw : IntKind.wrap .i64 (P.room - (usedP P.L : Int)) = P.room - usedP P.L := by
    generalize usedP P.L = u at *
    simp [IntKind.wrap, IntKind.bits, IntKind.signed]
    omega
  have HU : Hid (∀ n, Calls Try.prog 39 #[.pointer (some ⟨m, 0, none⟩)] (w.drewN n) fun e w' => e = .returned (.int .i64 (usedP P.L)) ∧ ∃ t, w' = (w.drewN n).drewN t) := Lib.hid (fun n => used_refq (h.next (bel_drewN (bel_refl w) n)) hok)
  have HC : Hid (∀ W, Below w.heap.size w W → W.cell? ⟨m, 0, none⟩ = some (.int .i64 P.room) ∧ W.cell? ⟨m, 1, none⟩ = some (.slice la rs.length lc)) := Lib.hid (fun W hW => by
    have := (h.next hW).cell
    exact ⟨this.1, this.2.1⟩)
  have hx1 := bel_refl w
  generalize hat : idxOf n rs = at_ at *
  have Hat := Lib.hid hat
  have hatb : at_ = -1 ∨ 0 ≤ at_ := by
    by_cases hh : HasP n P.L
    · obtain ⟨i, r, _, _, e⟩ := idx_has h.eq hh
      omega
    · have := idx_no h.eq hh
      omega
  have hath : (0 ≤ at_) ↔ HasP n P.L := by
    constructor
    · intro h0
      refine Classical.byContradiction fun hh => ?_
      have := idx_no h.eq hh
      omega
    · intro hh
      obtain ⟨i, r, _, _, e⟩ := idx_has h.eq hh
      omega
  rw [hPl]
  by_cases hfull : P.room - usedP P.L < pl.length ∨ (¬ HasP n P.L ∧ 1024 ≤ rs.length)
  · rw [if_pos hfull]
    by_cases hp : P.room - (usedP P.L : Int) < (pl.length : Int)
    · have d2 : decide (P.room - (usedP P.L : Int) < (pl.length : Int)) = true := by simpa using hp
      generalize hu : usedP P.L = u at *
      clear h hok hv hF hfull hp hat hath
      · go_enter Try.func30, Try.ntmps30
        go_upto_region 6 with (go_at_call 41; refine (find_ref H.out n hlen).mono ?_; rw [Hat.out]; rintro e w1 ⟨rfl, rfl⟩)
        go_quiet ((go_at_call 39; exact Calls.quiet_of (HU.out _)))
        go_wp2_with fail
        go_ret
        exact ⟨rfl, ⟨_, _, (H.out.next (bel_drewN (bel_refl w) _)).more (fun x hx => .inl hx)⟩, Turn.of (bel_drewN (bel_refl w) _)⟩
    · have d2 : decide (P.room - (usedP P.L : Int) < (pl.length : Int)) = false := by simpa using hp
      have hno : at_ = -1 ∧ 1024 ≤ rs.length := by
        rcases hfull with h1 | h1
        · exact (hp h1).elim
        · refine ⟨?_, h1.2⟩
          rcases hatb with h2 | h2
          · exact h2
          · exact (h1.1 (hath.1 h2)).elim
      obtain ⟨e1, e2⟩ := hno
      subst e1
      have d3 : decide (1024 ≤ (rs.length : Int)) = true := by simp only [decide_eq_true_eq]; omega
      generalize hu : usedP P.L = u at *
      clear h hok hv hF hfull hp hat hath
      · go_enter Try.func30, Try.ntmps30
        go_upto_region 6 with (go_at_call 41; refine (find_ref H.out n hlen).mono ?_; rw [Hat.out]; rintro e w1 ⟨rfl, rfl⟩)
        go_quiet ((go_at_call 39; exact Calls.quiet_of (HU.out _)))
        go_wp2_with fail
        go_ret
        exact ⟨rfl, ⟨_, _, (H.out.next (bel_drewN (bel_refl w) _)).more (fun x hx => .inl hx)⟩, Turn.of (bel_drewN (bel_refl w) _)⟩
  rw [if_neg hfull]
  have d2 : decide (P.room - (usedP P.L : Int) < (pl.length : Int)) = false := by
    simp only [decide_eq_false_iff_not]
    exact fun h => hfull (.inl h)
  have d3 : decide (at_ < 0) = true → decide (1024 ≤ (rs.length : Int)) = false := fun h => by
    simp only [decide_eq_true_eq] at h
    simp only [decide_eq_false_iff_not]
    exact fun h2 => hfull (.inr ⟨fun hh => by have := hath.2 hh; omega, by omega⟩)
  have HPw : Hid (∀ n, Calls Try.prog 42 #[.pointer (some ⟨m, 0, none⟩)] (w.drewN n) fun e w' => e = .returned (.bool (decide (P.fuse ≠ 0))) ∧ RefIs G w' m (if P.fuse = 0 then { P with down := true } else { P with fuse := powF P.fuse }) (.slice la rs.length lc) rs ∧ Turn (· = m) (w.drewN n) w') := Lib.hid (fun n => power_ref (h.next (bel_drewN (bel_refl w) n)) hok)
  by_cases hf : P.fuse = 0
  · have e1 : decide (P.fuse ≠ 0) = false := by simpa using hf
    rw [if_pos hf] at HPw ⊢
    rw [e1] at HPw
    by_cases hneg : at_ < 0
    · have hd3 := d3 (by simpa using hneg)
      have dn : decide (at_ < 0) = true := by simpa using hneg
      generalize hu : usedP P.L = u at *
      clear h hok hv hF hfull hat hath d3
      go_enter Try.func30, Try.ntmps30
      go_upto_region 6 with (go_at_call 41; refine (find_ref H.out n hlen).mono ?_; rw [Hat.out]; rintro e w1 ⟨rfl, rfl⟩)
      go_quiet ((go_at_call 39; exact Calls.quiet_of (HU.out _)))
      go_wp2_with (go_at_call 42; refine (HPw.out _).mono ?_; rintro e w4 ⟨rfl, hr4, ht4⟩; have HR4 := Lib.hid hr4; have HT4 := Lib.hid ht4; clear hr4 ht4)
      go_ret
      exact ⟨rfl, ⟨_, _, HR4.out.more (fun x hx => .inl hx)⟩, (Turn.of (F := G) (bel_drewN (bel_refl w) _)).trans HT4.out (fun x hx => .inl (hx ▸ H.out.Gm))⟩
    · have dn : decide (at_ < 0) = false := by simpa using hneg
      generalize hu : usedP P.L = u at *
      clear h hok hv hF hfull hat hath d3
      go_enter Try.func30, Try.ntmps30
      go_upto_region 6 with (go_at_call 41; refine (find_ref H.out n hlen).mono ?_; rw [Hat.out]; rintro e w1 ⟨rfl, rfl⟩)
      go_quiet ((go_at_call 39; exact Calls.quiet_of (HU.out _)))
      go_wp2_with (go_at_call 42; refine (HPw.out _).mono ?_; rintro e w4 ⟨rfl, hr4, ht4⟩; have HR4 := Lib.hid hr4; have HT4 := Lib.hid ht4; clear hr4 ht4)
      go_ret
      exact ⟨rfl, ⟨_, _, HR4.out.more (fun x hx => .inl hx)⟩, (Turn.of (F := G) (bel_drewN (bel_refl w) _)).trans HT4.out (fun x hx => .inl (hx ▸ H.out.Gm))⟩
  have e1 : decide (P.fuse ≠ 0) = true := by simpa using hf
  rw [if_neg hf] at HPw ⊢
  rw [e1] at HPw
  have Hnp : Hid (∀ (i : Nat) (r : RS), rs[i]? = some r → r.n = n → P.L.map (addP n pl) = P.L.set i ⟨r.n, (r.sure ++ r.loose) ++ pl, r.sure.length, r.kept⟩) := Lib.hid (fun i r hr e => by
    subst e
    exact map_at (f := fun q => { q with b := q.b ++ pl }) P.L hok.inc i r.pg (pg_at h.eq hr))
  have Hsm : Hid (∀ (i : Nat) (r : RS), rs[i]? = some r → r.loose.length ≤ 67108864) := Lib.hid (fun i r hr => by have := seg_small h.eq hok hr; omega)
  have Hix : Hid (at_ < 0 ∧ ¬ HasP n P.L ∨ ∃ (i : Nat) (r : RS), rs[i]? = some r ∧ r.n = n ∧ at_ = (i : Int) ∧ HasP n P.L) := Lib.hid (by
    by_cases hh : HasP n P.L
    · obtain ⟨i, r, h1, h2, e⟩ := idx_has h.eq hh
      exact .inr ⟨i, r, h1, h2, by omega, hh⟩
    · have := idx_no h.eq hh
      exact .inl ⟨by omega, hh⟩)
  have Hrl : Hid (rs.length < 1024 ∨ 0 ≤ at_) := Lib.hid (by
    rcases hatb with h1 | h1
    · exact .inl (Nat.lt_of_not_le fun h2 => hfull (.inr ⟨fun hh => by have := hath.2 hh; omega, h2⟩))
    · exact .inr h1)
  have hpl : pl.length ≤ 67108864 := by
    have : ¬ (P.room - usedP P.L < pl.length) := fun h => hfull (.inl h)
    omega
  have Hcc : Hid (∃ cc : Bool, decide (at_ < 0) = cc ∧ (cc = true → decide (1024 ≤ (rs.length : Int)) = false)) := Lib.hid ⟨_, rfl, d3⟩
  have HPeq := Lib.hid h.eq
  generalize hu : usedP P.L = u at *
  clear h hok hv hF hfull hat hath d3
  go_enter Try.func30, Try.ntmps30
  go_upto_region 6 with (go_at_call 41; refine (find_ref H.out n hlen).mono ?_; rw [Hat.out]; rintro e w1 ⟨rfl, rfl⟩)
  go_cut [41] (fun cv wc => cv = .bool false ∧ Hid (∃ t, wc = w.drewN t))
  case first =>
    obtain ⟨cc, hcc, hcc2⟩ := Hcc.out
    cases cc with
    | true =>
      have hd3 := hcc2 rfl
      clear hcc2
      rename_i J0 J1 hJ0 hJ1
      go_quiet ((go_at_call 39; exact Calls.quiet_of (HU.out _)))
      refine hJ1 _ _ (Met.intro (hJ0 _ _ ?_))
      repeat apply Exists.intro
      exact ⟨⟨rfl, Lib.hid ⟨_, rfl⟩⟩, rfl⟩
    | false =>
      clear hcc2
      rename_i J0 J1 hJ0 hJ1
      go_quiet ((go_at_call 39; exact Calls.quiet_of (HU.out _)))
      refine hJ1 _ _ (Met.intro (hJ0 _ _ ?_))
      repeat apply Exists.intro
      exact ⟨⟨rfl, Lib.hid ⟨_, rfl⟩⟩, rfl⟩
  case rest =>
    obtain ⟨rfl, Hw⟩ := hcut
    obtain ⟨t, rfl⟩ := Hw.out
    go_upto_if 46 with (go_at_call 42; refine (HPw.out _).mono ?_; rintro e w4 ⟨rfl, hr4, ht4⟩; have HR4 := Lib.hid hr4; have HT4 : Hid (Turn G w w4) := Lib.hid ((Turn.of (F := G) (bel_drewN (bel_refl w) _)).trans ht4 (fun x hx => .inl (hx ▸ H.out.Gm))); clear hr4 ht4)
    go_cut [7, 8, 9, 10] (fun av _ _ _ wc => ∃ at' : Int, av = .int .i64 at' ∧ Hid (ApAt G w wc m { P with fuse := powF P.fuse, L := appP n pl P.L } at' pl))
    case first =>
      rcases Hix.out with ⟨hneg, hno⟩ | ⟨i, r, hr, hrn, hati, hh⟩
      · have dneg : decide (at_ < 0) = true := by simpa using hneg
        have hrl : rs.length < 1024 := by
          rcases Hrl.out with h | h
          · exact h
          · omega
        have Hno := Lib.hid hno
        clear hno
        rw [dneg]
        go_wp2_with fail
        go_loopw [8, 9] (fun ov iv wr => ∃ k : Nat, k ≤ rs.length ∧ iv = .int .i64 k ∧ Hid (Own 80 4 wr ov (rs.take k).length (rcells (rs.take k))) ∧ Hid (∀ b, ov.ownBlock = some b → w4.heap.size ≤ b) ∧ Hid (Below w4.heap.size w4 wr) ∧ Hid (∀ j r, j < k → rs[j]? = some r → r.n < n)) (fun _ iv _ => rs.length - (intOf iv).toNat)
        case atStart => exact ⟨0, by omega, rfl, Lib.hid (own_nil _ _ _), Lib.hid (fun b hb => by cases hb), Lib.hid (bel_refl w4), Lib.hid (fun j r hj => by omega)⟩
        case round =>
          obtain ⟨k, hk, rfl, Ho, Hob, HB, Hlo⟩ := hrel
          have HR := Lib.hid (HR4.out.next HB.out)
          obtain ⟨_, g1, _, _⟩ := HR.out.cell
          have j1 : (0 : Int) ≤ (k : Int) := by omega
          by_cases hgo : ∃ s, rs[k]? = some s ∧ s.n < n
          · obtain ⟨s, hs, hsn⟩ := hgo
            have hlt := (List.getElem?_eq_some_iff.1 hs).1
            obtain ⟨g, cap, hlv', k0, k1, k2, k3, kf, hgl⟩ := HR.out.seg hs
            injection hlv' with e1 e2 e3
            subst e1 e3
            have hro := HR.out.rows s (List.mem_of_getElem? hs)
            obtain ⟨_, sa, sc, hsv, _⟩ := hro.1.rd
            obtain ⟨_, la', lc', hlv2, _⟩ := hro.2.1.rd
            rw [hsv] at k1
            rw [hlv2] at k2
            have j2 : (k : Int) < (rs.length : Int) := by omega
            have Hsv := Lib.hid hsv
            have Hlv2 := Lib.hid hlv2
            have Htk : Hid (rs.take (k + 1) = rs.take k ++ [s]) := Lib.hid (by
              obtain ⟨hk', rfl⟩ := List.getElem?_eq_some_iff.1 hs
              exact List.take_succ_eq_append_getElem hk')
            have Hlo2 : Hid (∀ j r, j < k + 1 → rs[j]? = some r → r.n < n) := Lib.hid (fun j r hj hr => by
              by_cases e : j = k
              · subst e
                rw [hs] at hr
                cases hr
                exact hsn
              · exact Hlo.out j r (by omega) hr)
            have hlk : (rs.take k).length = k := by rw [List.length_take]; omega
            clear hs hro hsv hlv2
            go_wp2_with (at_builtin; apply Hold.mk)
            unfold Hold
            refine wpList_app rfl _ _ 74 rfl ok63 (by rfl) (by rfl) (Ho.out.below' (bel_alloc (bel_refl _))) (own_lit_at (g := _) 80 4 #[.int .i64 s.n, .slice sa s.sure.length sc, .slice la' s.loose.length lc', .bool s.kept] 1 (by simp [maxLen]) rfl (by simp)).rd vals_one (by rw [hlk]; simp only [maxLen]; omega) (by rw [hlk]; omega) ?_
            intro v7 w7 ho7 hg7 hn7
            have HO7 : Hid (Own 80 4 w7 v7 (rs.take (k + 1)).length (rcells (rs.take (k + 1)))) := Lib.hid (by
              rw [Htk.out]
              refine own_push ?_
              have e : s.vals = [.int .i64 s.n, .slice sa s.sure.length sc, .slice la' s.loose.length lc', .bool s.kept] := by
                unfold RS.vals
                rw [Hsv.out, Hlv2.out]
              rw [e]
              exact ho7)
            have HOb7 : Hid (∀ b, v7.ownBlock = some b → w4.heap.size ≤ b) := Lib.hid (fun b hb => by
              rcases hn7 b hb with h1 | h1
              · exact Hob.out b h1
              · have := HB.out.size
                simp at h1
                omega)
            have HB7 : Hid (Below w4.heap.size w4 w7) := Lib.hid ((bel_alloc HB.out).grown hg7 (bel_alloc HB.out).size Hob.out)
            clear ho7 hg7 hn7 hlk
            go_wp2_with fail
            go_roundw
            case rel =>
              exact ⟨k + 1, by omega, by go_num, HO7, HOb7, HB7, Hlo2⟩
            case measure => simp [intOf] <;> omega
          · have Hhi : Hid (∀ r, rs[k]? = some r → n ≤ r.n) := Lib.hid (fun r hr => Int.not_lt.1 (fun h => hgo ⟨r, hr, h⟩))
            clear hgo
            have hex : (k = rs.length) ∨ k < rs.length := by omega
            rcases hex with hkl | hkl
            case' inl =>
              have d4 : decide ((k : Int) < (rs.length : Int)) = false := by simp only [decide_eq_false_iff_not]; omega
              have d4' : decide (k < rs.length) = false := by simp only [decide_eq_false_iff_not]; omega
              have hge : (rs.length : Int) ≤ (k : Int) := by omega
              have hge' : ¬ ((k : Int) < (rs.length : Int)) := by omega
              have Hkl := Lib.hid hkl
              clear hkl
              go_upto_region 16 with fail
            case' inr =>
              obtain ⟨s, hs⟩ : ∃ x, rs[k]? = some x := ⟨rs[k], List.getElem?_eq_getElem hkl⟩
              obtain ⟨g, cap, hlv', k0, _⟩ := HR.out.seg hs
              injection hlv' with e1 e2 e3
              subst e1 e3
              have j2 : (k : Int) < (rs.length : Int) := by omega
              have d5 : decide (s.n < n) = false := by have := Hhi.out s hs; simp only [decide_eq_false_iff_not]; omega
              clear hs
              go_upto_region 16 with fail
            all_goals (
              obtain ⟨_, oa, oc, rfl, _⟩ := Ho.out.rd
              have hlk : (rs.take k).length = k := by rw [List.length_take]; omega
              have Hlk := Lib.hid hlk
              rw [hlk] at Ho Hob ⊢
              go_wp2_with (at_builtin; apply Hold.mk)
              unfold Hold
              refine wpList_app rfl _ _ 74 rfl ok63 (by rfl) (by rfl) (Ho.out.below' (bel_alloc (bel_refl _))) (own_lit_at (g := _) 80 4 #[.int .i64 n, .slice none 0 0, .slice none 0 0, .bool false] 1 (by simp [maxLen]) rfl (by simp)).rd vals_one (by simp only [maxLen]; omega) (by omega) ?_
              intro v7 w7 ho7 hg7 hn7
              have HO7 : Hid (Own 80 4 w7 v7 (midN ⟨n, .slice none 0 0, [], .slice none 0 0, [], false⟩ rs k k).length (rcells (midN ⟨n, .slice none 0 0, [], .slice none 0 0, [], false⟩ rs k k))) := Lib.hid (by
                rw [midN_start]
                refine own_push ?_
                rw [Hlk.out]
                exact ho7)
              have HOb7 : Hid (∀ b, v7.ownBlock = some b → w4.heap.size ≤ b) := Lib.hid (fun b hb => by
                rcases hn7 b hb with h1 | h1
                · exact Hob.out b h1
                · have := HB.out.size
                  simp at h1
                  omega)
              have HB7 : Hid (Below w4.heap.size w4 w7) := Lib.hid ((bel_alloc HB.out).grown hg7 (bel_alloc HB.out).size Hob.out)
              clear ho7 hg7 hn7 hlk
              go_wp2_with fail
              obtain ⟨wo, rfl⟩ : ∃ x, x = wr := ⟨_, rfl⟩
              go_loopw [8, 10] (fun ov iv wr => ∃ j : Nat, k ≤ j ∧ j ≤ rs.length ∧ iv = .int .i64 j ∧ Hid (Own 80 4 wr ov (midN ⟨n, .slice none 0 0, [], .slice none 0 0, [], false⟩ rs k j).length (rcells (midN ⟨n, .slice none 0 0, [], .slice none 0 0, [], false⟩ rs k j))) ∧ Hid (∀ b, ov.ownBlock = some b → w4.heap.size ≤ b) ∧ Hid (Below w4.heap.size w4 wr)) (fun _ iv _ => rs.length - (intOf iv).toNat)
              case atStart => exact ⟨k, Nat.le_refl _, hk, rfl, HO7, HOb7, HB7⟩
              case round =>
                clear HO7 HOb7 HB7
                obtain ⟨j, hkj, hj, rfl, Ho2, Hob2, HB2⟩ := hrel
                have HR2 := Lib.hid (HR4.out.next HB2.out)
                obtain ⟨_, g2, _, _⟩ := HR2.out.cell
                have hln := midN_len ⟨n, .slice none 0 0, [], .slice none 0 0, [], false⟩ rs k j hkj hj
                have i1 : (0 : Int) ≤ (j : Int) := by omega
                by_cases hjl : j < rs.length
                · first
                    | (exfalso; have hkl := Hkl.out; omega)
                    | (
                        obtain ⟨s, hs⟩ : ∃ x, rs[j]? = some x := ⟨rs[j], List.getElem?_eq_getElem hjl⟩
                        obtain ⟨g, cap, hlv', k0, k1, k2, k3, kf, hgl⟩ := HR2.out.seg hs
                        injection hlv' with e1 e2 e3
                        first
                          | subst e1
                          | (injection e1 with e1; injection e1 with e1; subst e1)
                        subst e3
                        have hro := HR2.out.rows s (List.mem_of_getElem? hs)
                        obtain ⟨_, sa, sc, hsv, _⟩ := hro.1.rd
                        obtain ⟨_, la', lc', hlv2, _⟩ := hro.2.1.rd
                        rw [hsv] at k1
                        rw [hlv2] at k2
                        have i2 : (j : Int) < (rs.length : Int) := by omega
                        have Hsv := Lib.hid hsv
                        have Hlv2 := Lib.hid hlv2
                        have Hms := Lib.hid (midN_succ ⟨n, .slice none 0 0, [], .slice none 0 0, [], false⟩ rs k j s hs hkj)
                        rw [hln] at Ho2
                        have Hln := Lib.hid hln
                        clear hs hro hsv hlv2 hln
                        go_wp2_with (at_builtin; apply Hold.mk)
                        unfold Hold
                        refine wpList_app rfl _ _ 74 rfl ok63 (by rfl) (by rfl) (Ho2.out.below' (bel_alloc (bel_refl _))) (own_lit_at (g := _) 80 4 #[.int .i64 s.n, .slice sa s.sure.length sc, .slice la' s.loose.length lc', .bool s.kept] 1 (by simp [maxLen]) rfl (by simp)).rd vals_one (by simp only [maxLen]; omega) (by omega) ?_
                        intro v8 w8 ho8 hg8 hn8
                        have HO8 : Hid (Own 80 4 w8 v8 (midN ⟨n, .slice none 0 0, [], .slice none 0 0, [], false⟩ rs k (j + 1)).length (rcells (midN ⟨n, .slice none 0 0, [], .slice none 0 0, [], false⟩ rs k (j + 1)))) := Lib.hid (by
                          rw [Hms.out]
                          refine own_push ?_
                          rw [Hln.out]
                          have e : s.vals = [.int .i64 s.n, .slice sa s.sure.length sc, .slice la' s.loose.length lc', .bool s.kept] := by
                            unfold RS.vals
                            rw [Hsv.out, Hlv2.out]
                          rw [e]
                          exact ho8)
                        have HOb8 : Hid (∀ b, v8.ownBlock = some b → w4.heap.size ≤ b) := Lib.hid (fun b hb => by
                          rcases hn8 b hb with h1 | h1
                          · exact Hob2.out b h1
                          · have := HB2.out.size
                            simp at h1
                            omega)
                        have HB8 : Hid (Below w4.heap.size w4 w8) := Lib.hid ((bel_alloc HB2.out).grown hg8 (bel_alloc HB2.out).size Hob2.out)
                        clear ho8 hg8 hn8
                        go_wp2_with fail
                        go_roundw
                        case rel => exact ⟨j + 1, by omega, by omega, by go_num, HO8, HOb8, HB8⟩
                        case measure => simp [intOf] <;> omega)
                · obtain rfl : j = rs.length := by omega
                  have f1 : wr.frozen? ⟨m, 1, none⟩ = false := HR2.out.blk.free 1
                  have hml := HR2.out.blk.lt
                  have HPL : Hid (insP ⟨n, [], 0, false⟩ P.L = (midN ⟨n, .slice none 0 0, [], .slice none 0 0, [], false⟩ rs k rs.length).map RS.pg) := Lib.hid (by
                    have e : P.L = (rs.take k).map RS.pg ++ (rs.drop k).map RS.pg := by rw [← List.map_append, List.take_append_drop, HPeq.out]
                    rw [e, insP_mid]
                    · unfold midN
                      rw [List.take_length, List.map_append, List.map_cons]
                      rfl
                    · intro p hp
                      obtain ⟨r, hr, rfl⟩ := List.mem_map.1 hp
                      obtain ⟨i, hi, hi2⟩ := List.mem_iff_getElem.1 hr
                      have hik : i < k := by rw [List.length_take] at hi; omega
                      exact Hlo.out i r hik (by rw [← hi2, List.getElem_take]; exact List.getElem?_eq_getElem _)
                    · intro p hp
                      rw [List.head?_map, List.head?_drop] at hp
                      cases hx : rs[k]? with
                      | none => rw [hx] at hp; cases hp
                      | some r =>
                        rw [hx] at hp
                        cases hp
                        exact Int.not_lt.2 (Hhi.out r hx))
                  have HG8 : Hid (appP n pl P.L = (insP ⟨n, [], 0, false⟩ P.L).set k ⟨n, [] ++ ([] ++ pl), 0, false⟩) := Lib.hid (by
                    unfold appP
                    rw [if_neg Hno.out]
                    have e : P.L = (rs.take k).map RS.pg ++ (rs.drop k).map RS.pg := by rw [← List.map_append, List.take_append_drop, HPeq.out]
                    have hA : ∀ p ∈ (rs.take k).map RS.pg, p.n < n := by
                      intro p hp
                      obtain ⟨r, hr, rfl⟩ := List.mem_map.1 hp
                      obtain ⟨i, hi, hi2⟩ := List.mem_iff_getElem.1 hr
                      have hik : i < k := by rw [List.length_take] at hi; omega
                      exact Hlo.out i r hik (by rw [← hi2, List.getElem_take]; exact List.getElem?_eq_getElem _)
                    have hB : ∀ p, ((rs.drop k).map RS.pg).head? = some p → ¬ p.n < n := by
                      intro p hp
                      rw [List.head?_map, List.head?_drop] at hp
                      cases hx : rs[k]? with
                      | none => rw [hx] at hp; cases hp
                      | some r =>
                        rw [hx] at hp
                        cases hp
                        exact Int.not_lt.2 (Hhi.out r hx)
                    rw [e, insP_mid ⟨n, pl, 0, false⟩ _ _ hA hB, insP_mid ⟨n, [], 0, false⟩ _ _ hA hB]
                    have hkk : ((rs.take k).map RS.pg).length = k := by rw [List.length_map]; exact Hlk.out
                    have hs := set_mid ((rs.take k).map RS.pg) ((rs.drop k).map RS.pg) ⟨n, [], 0, false⟩ ⟨n, pl, 0, false⟩
                    rw [hkk] at hs
                    exact hs.symm)
                  obtain ⟨g2, oc2, rfl⟩ := own_form Ho2.out (by rw [hln]; omega)
                  have Hln := Lib.hid hln
                  clear hln
                  go_wp2_with fail
                  go_meet
                  have hz := ref_relist (P' := { P with fuse := powF P.fuse, L := insP ⟨n, [], 0, false⟩ P.L }) HT4.out HR4.out HB2.out Ho2.out Hob2.out (fun r hr => by
                    rcases List.mem_append.1 hr with hr | hr
                    · exact .inl (List.mem_of_mem_take hr)
                    · rcases List.mem_cons.1 hr with rfl | hr
                      · exact .inr ⟨mine8_nil 5 w4 _, mine8_nil 5 w4 _⟩
                      · exact .inl (List.mem_of_mem_take (List.mem_of_mem_drop hr))) rfl rfl rfl HPL.out.symm
                  have hq : (midN ⟨n, .slice none 0 0, [], .slice none 0 0, [], false⟩ rs k rs.length)[k]? = some ⟨n, .slice none 0 0, [], .slice none 0 0, [], false⟩ := by
                    unfold midN
                    rw [List.getElem?_append_right (by rw [Hlk.out]; exact Nat.le_refl _), Hlk.out, Nat.sub_self]
                    rfl
                  exact ⟨k, rfl, Lib.hid ⟨⟨_, g2, oc2, k, _, _, rfl, hz.1, hq, by rw [Hln.out]; omega, by simp, rfl, rfl, rfl, HG8.out⟩, hz.2⟩⟩)
      · have dneg : decide (at_ < 0) = false := by simp only [decide_eq_false_iff_not]; omega
        obtain ⟨g, cap, hlv', _⟩ := HR4.out.seg hr
        injection hlv' with e1' e2' e3'
        subst e1' e3'
        have Hr := Lib.hid hr
        have HLP : Hid (appP n pl P.L = P.L.set i ⟨r.n, r.sure ++ (r.loose ++ pl), r.sure.length, r.kept⟩) := Lib.hid (by
          unfold appP
          rw [if_pos hh, Hnp.out i r hr hrn, List.append_assoc])
        clear hr
        subst hati
        go_wp2_with fail
        go_meet
        exact ⟨i, rfl, Lib.hid ⟨⟨{ P with fuse := powF P.fuse }, g, lc, i, rs, r, rfl, HR4.out.more (fun x hx => .inl hx), Hr.out, hlen, Hsm.out i r Hr.out, rfl, rfl, rfl, HLP.out⟩, HT4.out⟩⟩
    case rest =>
      obtain ⟨at', rfl, HA⟩ := hcut
      obtain ⟨P1, g, cap, i, rs1, r, rfl, hR, hr, hl1, hsm1, q1, q2, q3, q4⟩ := HA.out.ex
      have HAt := HA.out.turn
      have HRc := Lib.hid hR
      have Hrc := Lib.hid hr
      have HQ : Hid (P.room = P1.room ∧ powF P.fuse = P1.fuse ∧ P.down = P1.down ∧ appP n pl P.L = P1.L.set i ⟨r.n, r.sure ++ (r.loose ++ pl), r.sure.length, r.kept⟩) := Lib.hid ⟨q1, q2, q3, q4⟩
      have hil := (List.getElem?_eq_some_iff.1 hr).1
      obtain ⟨g', cap', hlv', k0, k1, k2, k3, kf, hgl⟩ := hR.seg hr
      injection hlv' with e1 e2 e3
      injection e1 with e1
      injection e1 with e1
      subst e1 e3
      obtain ⟨z0, z1, z2, z3⟩ := hR.cell
      have hro := hR.rows r (List.mem_of_getElem? hr)
      obtain ⟨_, la', lc', hlv2, _⟩ := hro.2.1.rd
      rw [hlv2] at k2
      have HVc : Hid (Rd8 wc (.slice va pl.length vc) pl) := Lib.hid (rd8_turn HV.out HAt (fun x hx hp => rd_lt HV.out (by simpa using hp) x hx) HF.out)
      have HJ : Hid (∀ W, Below wc.heap.size wc W → Calls Try.prog 43 #[.slice la' r.loose.length lc', .slice va pl.length vc] W fun e w' => ∃ v, e = .returned v ∧ Mine8 5 W w' v (r.loose ++ pl) ∧ Below W.heap.size W w') := Lib.hid (fun W hW => join_any _ _ r.loose pl W (by rw [← hlv2]; exact hro.2.1.rd.below hW) (HVc.out.below hW) (by omega))
      have HCc : Hid (∀ W, Below wc.heap.size wc W → W.cell? ⟨m, 1, none⟩ = some (.slice (some ⟨g, 0, none⟩) rs1.length cap) ∧ (∀ j, W.frozen? ⟨g, j, none⟩ = false) ∧ g < W.heap.size ∧ W.cell? ⟨g, i * 4 + 2, none⟩ = some (.slice la' r.loose.length lc')) := Lib.hid (fun W hW => by
        have h1 := HRc.out.next hW
        obtain ⟨g'', cap'', e, y0, y1, y2, y3, yf, yl⟩ := h1.seg Hrc.out
        injection e with e1 _ _
        injection e1 with e1
        injection e1 with e1
        subst e1
        rw [hlv2] at y2
        exact ⟨h1.cell.2.1, yf, yl, y2⟩)
      have hxc := bel_refl wc
      have j1 : (0 : Int) ≤ (i : Int) := by omega
      have j2 : (i : Int) < (rs1.length : Int) := by omega
      clear hr hR hro q1 q2 q3 q4 HAt
      go_upto_region 23 with fail
      go_region_law
        (go_simp; go_at_call 43; refine (HJ.out _ (by repeat (first | assumption | apply bel_alloc | apply bel_drew))).mono ?_; rintro e w8 ⟨jv, rfl, hj, hb8⟩; obtain ⟨ja, jc, rfl, _⟩ := hj.rd.open; have hx8 : Below wc.heap.size wc w8 := bel_trans (by repeat (first | assumption | apply bel_alloc | apply bel_drew)) hb8; obtain ⟨y1, yf, yl, y2⟩ := HCc.out _ hx8; have HJ8 : Hid (Mine8 5 wc w8 (.slice ja (r.loose.length + pl.length) jc) (r.loose ++ pl)) := Lib.hid (by rw [List.length_append] at hj; exact hj); have HX8 := Lib.hid hx8; clear hb8 hj)
      all_goals (go_wp2_with fail)
      all_goals go_ret
      all_goals (
        have hz := ref_store1 (G := Plus G w wc) (P' := { P with fuse := powF P.fuse, L := appP n pl P.L }) (Turn.refl (Plus G w wc) wc) HRc.out HX8.out Hrc.out HJ8.out HQ.out.1 HQ.out.2.1 HQ.out.2.2.1 HQ.out.2.2.2
        have hsz : w.heap.size ≤ wc.heap.size := HA.out.turn.size
        have hsz2 := hz.2.size
        have hz1 := hz.1
        have hz2 := hz.2
        rw [hd] at hz1
        exact ⟨rfl, ⟨_, _, hz1.more (fun x hx => by
          rcases hx with (hx | hx) | hx
          · exact .inl hx
          · exact .inr ⟨hx.1, by omega⟩
          · exact .inr ⟨by omega, hx.2⟩)⟩, HA.out.turn.trans hz2 (fun x hx => hx.elim .inl (fun hx => .inr hx.1))⟩)
end Go.Proofs.Ytokmiphgalpahaa
