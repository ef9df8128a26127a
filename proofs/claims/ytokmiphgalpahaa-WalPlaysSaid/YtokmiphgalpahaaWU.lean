/- The document's disk in memory; Find (37), Used (32), power (38), New (17), Bytes (33). -/
import Derived.Test.YtokmiphgalpahaaWT
namespace Go.Proofs.Ytokmiphgalpahaa
open Go.RowKit Go.Kt
set_option maxRecDepth 100000

/-- a segment of the document's disk -/
structure RS where
  n : Int
  sv : Value
  sure : List UInt8
  lv : Value
  loose : List UInt8
  kept : Bool
def RS.vals (r : RS) : List Value := [.int .i64 r.n, r.sv, r.lv, .bool r.kept]
def RS.pg (r : RS) : Pg := ⟨r.n, r.sure ++ r.loose, r.sure.length, r.kept⟩
def rcells (rs : List RS) : List Value := (rs.map RS.vals).flatten
theorem rcells_get (rs : List RS) (i c : Nat) (x : RS) (h : rs[i]? = some x) (hc : c < 4) : (rcells rs)[i * 4 + c]? = x.vals[c]? := by
  unfold rcells
  rw [flatten_get 4 (by omega) _ (by intro y hy; obtain ⟨z, _, rfl⟩ := List.mem_map.1 hy; rfl)]
  rw [show (i * 4 + c) / 4 = i by omega, show (i * 4 + c) % 4 = c by omega, List.getElem?_map, h]
  rfl
theorem rcells_len (rs : List RS) : (rcells rs).length = rs.length * 4 := by
  unfold rcells
  induction rs with
  | nil => rfl
  | cons t ks ih => simp only [List.map_cons, List.flatten_cons, List.length_append, ih, List.length_cons]; simp [RS.vals]; omega
theorem rcells_snoc (rs : List RS) (r : RS) : rcells (rs ++ [r]) = rcells rs ++ r.vals := by unfold rcells; rw [List.map_append, List.flatten_append]; simp
/-- the rows of one segment -/
def RowOk (G : Nat → Prop) (w : World) (r : RS) : Prop := Own8 5 w r.sv r.sure ∧ Own8 5 w r.lv r.loose ∧ (∀ x, r.sv.ownBlock = some x → G x) ∧ (∀ x, r.lv.ownBlock = some x → G x)
/-- the document's disk -/
structure RefIs (G : Nat → Prop) (w : World) (m : Nat) (P : Pd) (lv : Value) (rs : List RS) : Prop where
  blk : Blk w m #[.int .i64 P.room, lv, .int .i64 P.fuse, .bool P.down] 76
  own : Own 80 4 w lv rs.length (rcells rs)
  rows : ∀ r ∈ rs, RowOk G w r
  eq : rs.map RS.pg = P.L
  Gm : G m
  Gl : ∀ x, lv.ownBlock = some x → G x
variable {F G : Nat → Prop} {w w' w0 : World} {m : Nat} {P : Pd} {lv : Value} {rs : List RS}
theorem RowOk.keep {r : RS} (h : RowOk G w r) {H : Nat → Prop} (ht : Turn H w w') (hG : ∀ x, G x → ¬ H x) : RowOk G w' r :=
  ⟨Own.keep h.1 fun b hb => ht.block b (h.1.lt b hb) (hG b (h.2.2.1 b hb)), Own.keep h.2.1 fun b hb => ht.block b (h.2.1.lt b hb) (hG b (h.2.2.2 b hb)), h.2.2⟩
theorem RowOk.more {r : RS} (h : RowOk G w r) {H : Nat → Prop} (hG : ∀ x, G x → H x) : RowOk H w r := ⟨h.1, h.2.1, fun x hx => hG x (h.2.2.1 x hx), fun x hx => hG x (h.2.2.2 x hx)⟩
theorem RefIs.keep (h : RefIs G w m P lv rs) {H : Nat → Prop} (ht : Turn H w w') (hG : ∀ x, G x → ¬ H x) : RefIs G w' m P lv rs :=
  ⟨(ht.block m h.blk.lt (hG m h.Gm)).trans h.blk, Own.keep h.own fun b hb => ht.block b (h.own.lt b hb) (hG b (h.Gl b hb)), fun r hr => (h.rows r hr).keep ht hG, h.eq, h.Gm, h.Gl⟩
theorem RefIs.next (h : RefIs G w m P lv rs) (hb : Below w.heap.size w w') : RefIs G w' m P lv rs := h.keep (Turn.of (F := fun _ => False) hb) (fun _ _ hx => hx)
theorem RefIs.more (h : RefIs G w m P lv rs) {H : Nat → Prop} (hG : ∀ x, G x → H x) : RefIs H w m P lv rs := ⟨h.blk, h.own, fun r hr => (h.rows r hr).more hG, h.eq, hG _ h.Gm, fun x hx => hG x (h.Gl x hx)⟩
theorem RefIs.tight (h : RefIs G w m P lv rs) : RefIs (fun x => G x ∧ x < w.heap.size) w m P lv rs :=
  ⟨h.blk, h.own, fun r hr => ⟨(h.rows r hr).1, (h.rows r hr).2.1, fun x hx => ⟨(h.rows r hr).2.2.1 x hx, (h.rows r hr).1.lt x hx⟩, fun x hx => ⟨(h.rows r hr).2.2.2 x hx, (h.rows r hr).2.1.lt x hx⟩⟩, h.eq, ⟨h.Gm, h.blk.lt⟩, fun x hx => ⟨h.Gl x hx, h.own.lt x hx⟩⟩
theorem RefIs.cell (h : RefIs G w m P lv rs) : w.cell? ⟨m, 0, none⟩ = some (.int .i64 P.room) ∧ w.cell? ⟨m, 1, none⟩ = some lv ∧ w.cell? ⟨m, 2, none⟩ = some (.int .i64 P.fuse) ∧ w.cell? ⟨m, 3, none⟩ = some (.bool P.down) :=
  ⟨h.blk.cell 0, h.blk.cell 1, h.blk.cell 2, h.blk.cell 3⟩
theorem RefIs.form (h : RefIs G w m P lv rs) : ∃ a cap, lv = .slice a rs.length cap := by
  obtain ⟨_, a, cap, e, _⟩ := h.own.rd
  exact ⟨a, cap, e⟩
theorem RefIs.len (h : RefIs G w m P lv rs) : rs.length = P.L.length := by rw [← h.eq, List.length_map]
theorem RefIs.seg (h : RefIs G w m P lv rs) {i : Nat} {r : RS} (hr : rs[i]? = some r) :
    ∃ g cap, lv = .slice (some ⟨g, 0, none⟩) rs.length cap ∧ w.cell? ⟨g, i * 4, none⟩ = some (.int .i64 r.n) ∧ w.cell? ⟨g, i * 4 + 1, none⟩ = some r.sv ∧ w.cell? ⟨g, i * 4 + 2, none⟩ = some r.lv ∧ w.cell? ⟨g, i * 4 + 3, none⟩ = some (.bool r.kept) ∧ (∀ j, w.frozen? ⟨g, j, none⟩ = false) ∧ g < w.heap.size := by
  have hlt := (List.getElem?_eq_some_iff.1 hr).1
  have hown := h.own
  have hl := hown.lt
  rcases hown.2 with ⟨rfl, h0⟩ | ⟨g, cap, cur, rfl, _, hg, hn, hm, hcs, ht⟩
  · omega
  · refine ⟨g, cap, rfl, ?_, ?_, ?_, ?_, fun j => frozen_of_row w g j cur 80 hg, hl g rfl⟩
    · rw [hown.cellAt (i * 4) (by omega), show i * 4 = i * 4 + 0 from rfl, rcells_get rs i 0 r hr (by omega)]; rfl
    · rw [hown.cellAt (i * 4 + 1) (by omega), rcells_get rs i 1 r hr (by omega)]; rfl
    · rw [hown.cellAt (i * 4 + 2) (by omega), rcells_get rs i 2 r hr (by omega)]; rfl
    · rw [hown.cellAt (i * 4 + 3) (by omega), rcells_get rs i 3 r hr (by omega)]; rfl
/-- where a number stands -/
def idxOf (n : Int) (rs : List RS) : Int := match rs.findIdx? (fun r => r.n == n) with
  | some i => i
  | none => -1
theorem find_ref (h : RefIs G w m P lv rs) (n : Int) (hl : rs.length ≤ 1024) : Calls Try.prog 41 #[.pointer (some ⟨m, 0, none⟩), .int .i64 n] w fun e w' => e = .returned (.int .i64 (idxOf n rs)) ∧ w = w' := by
  have H := Lib.hid h
  obtain ⟨c0, c1, c2, c3⟩ := h.cell
  obtain ⟨a, cap, rfl⟩ := h.form
  clear h
  go_enter Try.func41, Try.ntmps41
  go_wp2_with fail
  go_loop [5] (fun iv => ∃ k : Nat, k ≤ rs.length ∧ iv = .int .i64 k ∧ Hid (∀ j r, j < k → rs[j]? = some r → r.n ≠ n)) (fun iv => rs.length - (intOf iv).toNat)
  case atStart => exact ⟨0, by omega, rfl, Lib.hid (fun j r hj => by omega)⟩
  case round =>
    obtain ⟨k, hk, rfl, Hn⟩ := hrel
    by_cases hlt : k < rs.length
    · obtain ⟨r, hr⟩ : ∃ x, rs[k]? = some x := ⟨rs[k], List.getElem?_eq_getElem hlt⟩
      obtain ⟨g, cap', e, k0, _⟩ := H.out.seg hr
      injection e with e1 e2 e3
      subst e1 e3
      have hk1 : (0 : Int) ≤ (k : Int) := by omega
      have hk2 : (k : Int) < (rs.length : Int) := by omega
      have Hr := Lib.hid hr
      clear hr
      by_cases he : r.n = n
      · have HI : Hid (idxOf n rs = k) := Lib.hid (by
          obtain ⟨hk', hrk⟩ := List.getElem?_eq_some_iff.1 Hr.out
          have : rs.findIdx? (fun r => r.n == n) = some k := by
            rw [List.findIdx?_eq_some_iff_getElem]
            refine ⟨hk', by rw [hrk]; simpa using he, fun j hj => ?_⟩
            have := Hn.out j _ hj (List.getElem?_eq_getElem (by omega))
            simpa using this
          unfold idxOf
          rw [this])
        subst he
        go_wp2_with fail
        go_ret
        exact ⟨by rw [HI.out]; rfl, rfl⟩
      · have hb : (r.n == n) = false := by simpa using he
        go_wp2_with fail
        go_round
        case rel => exact ⟨k + 1, by omega, by go_num, Lib.hid (fun j r' hj hr' => by
          by_cases e : j = k
          · subst e
            rw [Hr.out] at hr'
            cases hr'
            exact he
          · exact Hn.out j r' (by omega) hr')⟩
        case measure => simp [intOf]; omega
    · obtain rfl : k = rs.length := by omega
      have HI : Hid (idxOf n rs = -1) := Lib.hid (by
        have : rs.findIdx? (fun r => r.n == n) = none := by
          rw [List.findIdx?_eq_none_iff]
          intro r hr
          obtain ⟨j, hj, rfl⟩ := List.mem_iff_getElem.1 hr
          have := Hn.out j _ hj (List.getElem?_eq_getElem hj)
          simpa using this
        unfold idxOf
        rw [this])
      go_wp2_with fail
      go_ret
      exact ⟨by rw [HI.out]; rfl, rfl⟩

/-- what is known of a disk's plain data -/
structure PdOk (P : Pd) : Prop where
  room0 : 0 ≤ P.room
  room1 : P.room ≤ 67108864
  len : P.L.length ≤ 1024
  tot : (usedP P.L : Int) ≤ P.room
  fuse0 : -1 ≤ P.fuse
  fuse1 : P.fuse ≤ 9223372036854775807
  inc : P.L.Pairwise fun a b => a.n < b.n
  seg : ∀ p ∈ P.L, p.sure ≤ p.b.length ∧ 1 ≤ p.n ∧ p.n ≤ 9223372036854775807
theorem DAt.ok {d mb : Nat} (h : DAt F w d mb P) : PdOk P := by
  obtain ⟨l, hD, hL⟩ := h
  refine ⟨hD.room0, hD.room1, by rw [← hL, List.length_map]; exact hD.len, by rw [← hL, ← used_pg]; exact hD.tot, hD.fuse0, hD.fuse1, ?_, fun p hp => ?_⟩
  · rw [← hL, List.pairwise_map]
    exact hD.inc
  · rw [← hL] at hp
    obtain ⟨s, hs, rfl⟩ := List.mem_map.1 hp
    exact (hD.seg s hs).2.2
theorem usedP_app (a b : List Pg) : usedP (a ++ b) = usedP a + usedP b := by simp [usedP]
theorem usedP_take (rs : List RS) (k : Nat) (r : RS) (h : rs[k]? = some r) : usedP ((rs.take (k + 1)).map RS.pg) = usedP ((rs.take k).map RS.pg) + r.sure.length + r.loose.length := by
  obtain ⟨hk, rfl⟩ := List.getElem?_eq_some_iff.1 h
  rw [List.take_succ_eq_append_getElem hk, List.map_append, usedP_app]
  show usedP _ + (((rs[k]).sure ++ (rs[k]).loose).length + 0) = _
  rw [List.length_append]
  omega
theorem usedP_le (rs : List RS) (k : Nat) : usedP ((rs.take k).map RS.pg) ≤ usedP (rs.map RS.pg) := by
  have e : usedP (rs.map RS.pg) = usedP ((rs.take k ++ rs.drop k).map RS.pg) := by rw [List.take_append_drop]
  rw [e, List.map_append, usedP_app]
  exact Nat.le_add_right _ _
theorem used_ref (h : RefIs G w m P lv rs) (hok : PdOk P) : Calls Try.prog 39 #[.pointer (some ⟨m, 0, none⟩)] w fun e w' => e = .returned (.int .i64 (usedP P.L)) ∧ Below w.heap.size w w' := by
  have H := Lib.hid h
  obtain ⟨a, cap, rfl⟩ := h.form
  have hlen : rs.length ≤ 1024 := by rw [h.len]; exact hok.len
  have Hle : Hid (∀ k, usedP ((rs.take k).map RS.pg) ≤ 67108864) := Lib.hid (fun k => by
    have h1 := usedP_le rs k
    rw [h.eq] at h1
    have := hok.tot
    have := hok.room1
    omega)
  obtain ⟨c0, c1, c2, c3⟩ := h.cell
  clear h hok
  go_enter Try.func39, Try.ntmps39
  go_wp2_with fail
  go_loopw [3, 4] (fun nv iv wr => ∃ (k s : Nat), k ≤ rs.length ∧ iv = .int .i64 k ∧ nv = .int .i64 s ∧ Hid (s = usedP ((rs.take k).map RS.pg)) ∧ Hid (Below w.heap.size w wr)) (fun _ iv _ => rs.length - (intOf iv).toNat)
  case atStart => exact ⟨0, 0, by omega, rfl, rfl, Lib.hid rfl, Lib.hid (bel_refl w)⟩
  case round =>
    obtain ⟨k, s, hk, rfl, rfl, Hs, HB⟩ := hrel
    have hs1 : s ≤ 67108864 := by rw [Hs.out]; exact Hle.out k
    have HR := Lib.hid (H.out.next HB.out)
    have r1 : wr.cell? ⟨m, 1, none⟩ = some (.slice a rs.length cap) := HR.out.cell.2.1
    by_cases hlt : k < rs.length
    · obtain ⟨r, hr⟩ : ∃ x, rs[k]? = some x := ⟨rs[k], List.getElem?_eq_getElem hlt⟩
      obtain ⟨g, cap', e, k0, k1, k2, _⟩ := HR.out.seg hr
      injection e with e1 e2 e3
      subst e1 e3
      have hk1 : (0 : Int) ≤ (k : Int) := by omega
      have hk2 : (k : Int) < (rs.length : Int) := by omega
      have hro := HR.out.rows r (List.mem_of_getElem? hr)
      obtain ⟨_, sa, sc, hsv, _⟩ := hro.1.rd
      obtain ⟨_, la, lc, hlv, _⟩ := hro.2.1.rd
      rw [hsv] at k1
      rw [hlv] at k2
      have Hst := Lib.hid (usedP_take rs k r hr)
      have hs2 : s + r.sure.length + r.loose.length ≤ 67108864 := by rw [Hs.out, ← Hst.out]; exact Hle.out (k + 1)
      clear hr hro hsv hlv
      go_wp2_with fail
      go_quiet (fail)
      go_wp2_with fail
      go_roundw
      case rel => exact ⟨k + 1, s + r.sure.length + r.loose.length, by omega, by go_num, by go_num, Lib.hid (by rw [Hst.out, Hs.out]), Lib.hid (bel_drewN HB.out _)⟩
      case measure => simp [intOf]; omega
    · obtain rfl : k = rs.length := by omega
      have Hs' : Hid (s = usedP P.L) := Lib.hid (by rw [Hs.out, List.take_length, H.out.eq])
      go_wp2_with fail
      go_ret
      exact ⟨by rw [Hs'.out]; rfl, HB.out⟩
theorem new_ref (room : Int) (w : World) : Calls Try.prog 13 #[.int .i64 room] w fun e w' => e = .returned (.pointer (some ⟨w.heap.size, 0, none⟩)) ∧ RefIs (fun x => w.heap.size ≤ x ∧ x < w'.heap.size) w' w.heap.size ⟨room, -1, false, []⟩ (.slice none 0 0) [] ∧ Below w.heap.size w w' := by
  go_enter Try.func13, Try.ntmps13
  go_wp2_with fail
  go_ret
  refine ⟨rfl, ⟨Blk.new w _ 76, own_nil _ _ _, (by simp), rfl, ⟨Nat.le_refl _, by simp⟩, fun x hx => (by cases hx)⟩, below_alloc w _⟩
/-- the document's power -/
theorem power_ref (h : RefIs G w m P lv rs) (hok : PdOk P) : Calls Try.prog 42 #[.pointer (some ⟨m, 0, none⟩)] w fun e w' => e = .returned (.bool (decide (P.fuse ≠ 0))) ∧ RefIs G w' m (if P.fuse = 0 then { P with down := true } else { P with fuse := powF P.fuse }) lv rs ∧ Turn (· = m) w w' := by
  obtain ⟨c0, c1, c2, c3⟩ := h.cell
  have hb := h.blk
  have hml := hb.lt
  have f0 := hok.fuse0
  have f1 := hok.fuse1
  have q2 : w.frozen? ⟨m, 2, none⟩ = false := hb.free 2
  have q3 : w.frozen? ⟨m, 3, none⟩ = false := hb.free 3
  have hne : ∀ {v : Value} {e : TypeId} {sz n : Nat} {xs : List Value}, e ≠ 76 → Own e sz w v n xs → ∀ x, v.ownBlock = some x → x ≠ m := fun he ho x hx e => own_no_blk ho hb he (e ▸ hx)
  have keep : ∀ (w' : World) (P' : Pd), Turn (· = m) w w' → P'.L = P.L → Blk w' m #[.int .i64 P'.room, lv, .int .i64 P'.fuse, .bool P'.down] 76 → RefIs G w' m P' lv rs := fun w' P' ht hL hb' =>
    ⟨hb', Own.keep h.own fun b hbb => ht.block b (h.own.lt b hbb) (hne (by decide) h.own b hbb), fun r hr => ⟨Own.keep (h.rows r hr).1 fun b hbb => ht.block b ((h.rows r hr).1.lt b hbb) (hne (by decide) (h.rows r hr).1 b hbb), Own.keep (h.rows r hr).2.1 fun b hbb => ht.block b ((h.rows r hr).2.1.lt b hbb) (hne (by decide) (h.rows r hr).2.1 b hbb), (h.rows r hr).2.2⟩, by rw [hL]; exact h.eq, h.Gm, h.Gl⟩
  have Keep := Lib.hid keep
  have H := Lib.hid h
  have HB := Lib.hid hb
  obtain ⟨room, fuse, down, L⟩ := P
  simp only at c0 c1 c2 c3 f0 f1
  clear h hb hok hne keep
  by_cases h0 : fuse = 0
  · subst h0
    have hT : Turn (· = m) w (w.setCell ⟨m, 3, none⟩ (.bool true)) := (Turn.refl (· = m) w).set (a := ⟨m, 3, none⟩) rfl _
    have hD := Lib.hid (Keep.out _ ⟨room, 0, true, L⟩ hT rfl (HB.out.set 3 _))
    have HT := Lib.hid hT
    clear hT
    go_enter Try.func42, Try.ntmps42
    go_wp2_with fail
    go_ret
    exact ⟨rfl, hD.out, HT.out⟩
  · rw [if_neg h0]
    by_cases h1 : 0 < fuse
    · have hT : Turn (· = m) w (w.setCell ⟨m, 2, none⟩ (.int .i64 (fuse - 1))) := (Turn.refl (· = m) w).set (a := ⟨m, 2, none⟩) rfl _
      have e1 : powF fuse = fuse - 1 := if_pos h1
      have hD := Lib.hid (Keep.out _ ⟨room, powF fuse, down, L⟩ hT rfl (by rw [e1]; exact HB.out.set 2 _))
      have HT := Lib.hid hT
      clear hT e1
      have hs : IntKind.wrap .i64 (fuse - 1) = fuse - 1 := by
        simp [IntKind.wrap, IntKind.bits, IntKind.signed]
        omega
      go_enter Try.func42, Try.ntmps42
      go_wp2_with fail
      go_ret
      exact ⟨by simp [h0], hD.out, HT.out⟩
    · have e1 : powF fuse = fuse := if_neg h1
      have hD := Lib.hid (Keep.out w ⟨room, powF fuse, down, L⟩ (Turn.refl _ _) rfl (by rw [e1]; exact HB.out))
      clear e1
      go_enter Try.func42, Try.ntmps42
      go_wp2_with fail
      go_ret
      exact ⟨by simp [h0], hD.out, Turn.refl _ _⟩
end Go.Proofs.Ytokmiphgalpahaa
