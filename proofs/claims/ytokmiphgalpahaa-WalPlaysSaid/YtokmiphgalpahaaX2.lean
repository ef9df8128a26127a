/- The document's Drop (30). -/
import Derived.Test.YtokmiphgalpahaaWV
namespace Go.Proofs.Ytokmiphgalpahaa
open Go.RowKit Go.Kt
set_option maxRecDepth 100000
variable {F G : Nat → Prop} {w w' w0 : World} {m : Nat} {P : Pd} {lv : Value} {rs : List RS}
theorem ok63 : ElemOk Try.prog 74 80 (.agg #[.int .i64 0, .slice none 0 0, .slice none 0 0, .bool false]) 4 64 := ⟨Try.underlying74, info_parts (by kernel_rfl), rfl, by decide⟩
theorem own_lit_at {w : World} {g : Nat} (e : TypeId) (size : Nat) (cs : Array Value) (n : Nat) (hm : n ≤ maxLen) (hs : cs.size = n * size) (hg : g = w.heap.size) : Own e size (w.alloc (.cells cs e)) (.slice (some ⟨g, 0, none⟩) n n) n cs.toList := by
  subst hg; exact own_lit w e size cs n hm hs
theorem vals_one {n : Int} {a1 a2 : Option Addr} {n1 n2 c1 c2 : Nat} {k : Bool} : ∀ u ∈ [Value.int .i64 n, .slice a1 n1 c1, .slice a2 n2 c2, .bool k], u.oneCell' = true := by
  intro u hu
  simp only [List.mem_cons, List.not_mem_nil, or_false] at hu
  rcases hu with rfl | rfl | rfl | rfl <;> rfl
/-- another list of segments in the document's disk -/
theorem ref_relist {w1 w3 : World} {P1 P' : Pd} {lv' : Value} {rs' : List RS} (hT : Turn G w w1) (h : RefIs G w1 m P1 lv rs) (hb : Below w1.heap.size w1 w3)
    (ho : Own 80 4 w3 lv' rs'.length (rcells rs')) (hn : ∀ x, lv'.ownBlock = some x → w1.heap.size ≤ x) (hrow : ∀ r ∈ rs', r ∈ rs ∨ (Mine8 5 w1 w3 r.sv r.sure ∧ Mine8 5 w1 w3 r.lv r.loose))
    (e1 : P'.room = P1.room) (e2 : P'.fuse = P1.fuse) (e3 : P'.down = P1.down) (hP : rs'.map RS.pg = P'.L) :
    RefIs (Plus G w (w3.setCell ⟨m, 1, none⟩ lv')) (w3.setCell ⟨m, 1, none⟩ lv') m P' lv' rs' ∧ Turn G w (w3.setCell ⟨m, 1, none⟩ lv') := by
  have h3 := h.next hb
  have hTs : Turn (· = m) w3 (w3.setCell ⟨m, 1, none⟩ lv') := (Turn.refl (· = m) w3).set (a := ⟨m, 1, none⟩) rfl _
  have hT4 : Turn G w (w3.setCell ⟨m, 1, none⟩ lv') := (hT.trans (Turn.of (F := fun _ => False) hb) (fun _ hx => hx.elim)).trans hTs (fun x hx => .inl (hx ▸ h.Gm))
  have hs : w.heap.size ≤ w1.heap.size := hT.size
  have hss : w3.heap.size ≤ (w3.setCell ⟨m, 1, none⟩ lv').heap.size := hTs.size
  have hgb : ∀ {v : Value} {b : List UInt8}, Own8 5 w3 v b → Own8 5 (w3.setCell ⟨m, 1, none⟩ lv') v b := fun ho => Own.keep ho fun b hbb => hTs.block b (ho.lt b hbb) (fun e => by
    subst e
    exact own_no_blk ho h3.blk (by decide) hbb)
  refine ⟨⟨?_, Own.keep ho fun b hbb => hTs.block b (ho.lt b hbb) (fun e => by have := hn b hbb; have := h.blk.lt; omega), fun r hr => ?_, hP, .inl h.Gm, fun x hx => .inr ⟨by have := hn x hx; omega, Nat.lt_of_lt_of_le (ho.lt x hx) hss⟩⟩, hT4⟩
  · rw [e1, e2, e3]
    exact h3.blk.set 1 lv'
  · rcases hrow r hr with hr | ⟨h1, h2⟩
    · have hx3 := h3.rows r hr
      exact ⟨hgb hx3.1, hgb hx3.2.1, fun y hy => .inl (hx3.2.2.1 y hy), fun y hy => .inl (hx3.2.2.2 y hy)⟩
    · exact ⟨hgb h1.1, hgb h2.1, fun y hy => .inr ⟨by have := h1.2 y hy; omega, Nat.lt_of_lt_of_le (h1.1.lt y hy) hss⟩, fun y hy => .inr ⟨by have := h2.2 y hy; omega, Nat.lt_of_lt_of_le (h2.1.lt y hy) hss⟩⟩
/-- a segment more in a row that is being made -/
theorem own_push {w7 : World} {v7 : Value} {L : List RS} {r : RS} (ho : Own 80 4 w7 v7 (L.length + 1) (rcells L ++ r.vals)) : Own 80 4 w7 v7 (L ++ [r]).length (rcells (L ++ [r])) := by
  rw [List.length_append, rcells_snoc]
  exact ho
def notN (n : Int) (rs : List RS) : List RS := rs.filter fun r => decide (r.n ≠ n)
theorem notN_pg (n : Int) (rs : List RS) : (notN n rs).map RS.pg = dropP n (rs.map RS.pg) := by
  unfold notN dropP
  rw [List.filter_map]
  rfl
theorem notN_take (n : Int) (rs : List RS) (k : Nat) (r : RS) (h : rs[k]? = some r) : notN n (rs.take (k + 1)) = if r.n = n then notN n (rs.take k) else notN n (rs.take k) ++ [r] := by
  obtain ⟨hk, rfl⟩ := List.getElem?_eq_some_iff.1 h
  rw [List.take_succ_eq_append_getElem hk]
  unfold notN
  rw [List.filter_append]
  by_cases e : (rs[k]).n = n
  · rw [if_pos e]; simp [e]
  · rw [if_neg e]; simp [e]
theorem notN_len (n : Int) (rs : List RS) : (notN n rs).length ≤ rs.length := List.length_filter_le _ _
theorem n_inj (h : rs.map RS.pg = P.L) (hok : PdOk P) {i k : Nat} {r s : RS} (hr : rs[i]? = some r) (hs : rs[k]? = some s) (e : s.n = r.n) : k = i := by
  have h1 := pg_at h hr
  have h2 := pg_at h hs
  obtain ⟨a1, b1⟩ := List.getElem?_eq_some_iff.1 h1
  obtain ⟨a2, b2⟩ := List.getElem?_eq_some_iff.1 h2
  have hp := List.pairwise_iff_getElem.1 hok.inc
  rcases Nat.lt_trichotomy k i with hlt | he | hlt
  · have := hp k i a2 a1 hlt
    rw [b1, b2] at this
    simp [RS.pg] at this
    omega
  · exact he
  · have := hp i k a1 a2 hlt
    rw [b1, b2] at this
    simp [RS.pg] at this
    omega
set_option maxRecDepth 100000 in
set_option maxHeartbeats 2000000 in
theorem drop_ref (h : RefIs G w m P lv rs) (hok : PdOk P) (n : Int) : Calls Try.prog 31 #[.pointer (some ⟨m, 0, none⟩), .int .i64 n] w (RDone G w m (P.drop n)) := by
  have H := Lib.hid h
  have Hok := Lib.hid hok
  obtain ⟨c0, c1, c2, c3⟩ := h.cell
  have hlen : rs.length ≤ 1024 := by rw [h.len]; exact hok.len
  unfold Pd.drop
  cases hd : P.down with
  | true =>
    rw [hd] at c3
    clear h hok
    go_enter Try.func31, Try.ntmps31
    go_wp2_with fail
    go_ret
    exact ⟨rfl, ⟨_, _, H.out.more (fun x hx => .inl hx)⟩, Turn.refl _ _⟩
  | false =>
    rw [hd] at c3
    rw [if_neg (by simp)]
    by_cases hh : HasP n P.L
    · rw [if_neg (fun h => h hh)]
      obtain ⟨i, r, hr, rfl, hi⟩ := idx_has h.eq hh
      have hil := (List.getElem?_eq_some_iff.1 hr).1
      have dn : decide ((i : Int) < 0) = false := by simp only [decide_eq_false_iff_not]; omega
      by_cases hf : P.fuse = 0
      · have e1 : decide (P.fuse ≠ 0) = false := by simpa using hf
        rw [if_pos hf]
        have HP := Lib.hid (power_ref h hok)
        rw [if_pos hf, e1] at HP
        clear h hok hr hh
        go_enter Try.func31, Try.ntmps31
        go_wp2_with (first
          | (go_at_call 41; refine (find_ref H.out r.n hlen).mono ?_; rw [hi]; rintro e w1 ⟨rfl, rfl⟩)
          | (go_at_call 42; refine HP.out.mono ?_; rintro e w1 ⟨rfl, hr1, ht1⟩; have HR1 := Lib.hid hr1; have HT1 := Lib.hid ht1; clear hr1 ht1))
        go_ret
        exact ⟨rfl, ⟨_, _, HR1.out.more (fun x hx => .inl hx)⟩, HT1.out.mono (fun x hx => hx ▸ H.out.Gm)⟩
      · have e1 : decide (P.fuse ≠ 0) = true := by simpa using hf
        rw [if_neg hf]
        have HP := Lib.hid (power_ref h hok)
        rw [if_neg hf, e1] at HP
        have Hr := Lib.hid hr
        have HI : Hid (∀ k s, rs[k]? = some s → (s.n = r.n ↔ k = i)) := Lib.hid (fun k s hs => ⟨fun e => n_inj h.eq hok hr hs e, fun e => by subst e; rw [hr] at hs; cases hs; rfl⟩)
        have HpL : Hid ((notN r.n rs).map RS.pg = dropP r.n P.L) := Lib.hid (by rw [notN_pg, h.eq])
        clear h hok hr hh
        go_enter Try.func31, Try.ntmps31
        go_wp2_with (first
          | (go_at_call 41; refine (find_ref H.out r.n hlen).mono ?_; rw [hi]; rintro e w1 ⟨rfl, rfl⟩)
          | (go_at_call 42; refine HP.out.mono ?_; rintro e w1 ⟨rfl, hr1, ht1⟩; have HR1 := Lib.hid hr1; have HT1 := Lib.hid ht1; clear hr1 ht1))
        go_loopw [6, 7] (fun ov iv wr => ∃ k : Nat, k ≤ rs.length ∧ iv = .int .i64 k ∧ Hid (Own 80 4 wr ov (notN r.n (rs.take k)).length (rcells (notN r.n (rs.take k)))) ∧ Hid (∀ b, ov.ownBlock = some b → w1.heap.size ≤ b) ∧ Hid (Below w1.heap.size w1 wr)) (fun _ iv _ => rs.length - (intOf iv).toNat)
        case atStart => exact ⟨0, by omega, rfl, Lib.hid (own_nil _ _ _), Lib.hid (fun b hb => by cases hb), Lib.hid (bel_refl w1)⟩
        case round =>
          obtain ⟨k, hk, rfl, Ho, Hob, HB⟩ := hrel
          have HR := Lib.hid (HR1.out.next HB.out)
          obtain ⟨_, g1, _, _⟩ := HR.out.cell
          by_cases hlt : k < rs.length
          · obtain ⟨s, hs⟩ : ∃ x, rs[k]? = some x := ⟨rs[k], List.getElem?_eq_getElem hlt⟩
            obtain ⟨g, cap, hlv, k0, k1, k2, k3, kf, hgl⟩ := HR.out.seg hs
            rw [hlv] at g1
            have hro := HR.out.rows s (List.mem_of_getElem? hs)
            obtain ⟨_, sa, sc, hsv, _⟩ := hro.1.rd
            obtain ⟨_, la, lc, hlv2, _⟩ := hro.2.1.rd
            rw [hsv] at k1
            rw [hlv2] at k2
            have j1 : (0 : Int) ≤ (k : Int) := by omega
            have j2 : (k : Int) < (rs.length : Int) := by omega
            have hn1 := notN_len r.n (rs.take k)
            have hn2 : (notN r.n (rs.take k)).length ≤ k := by rw [List.length_take] at hn1; omega
            have Htk := Lib.hid (notN_take r.n rs k s hs)
            have hki := HI.out k s hs
            have Hsv := Lib.hid hsv
            have Hlv2 := Lib.hid hlv2
            by_cases he : k = i
            · have Htk2 : Hid (notN r.n (rs.take (k + 1)) = notN r.n (rs.take k)) := Lib.hid (by rw [Htk.out, if_pos (hki.2 he)])
              have d1 : ((k : Int) == (i : Int)) = true := by simp; omega
              have d2 : decide ((k : Int) = (i : Int)) = true := by simp; omega
              clear hs hro hsv hlv2 hki hlv hn1
              go_wp2_with fail
              go_roundw
              case rel => exact ⟨k + 1, by omega, by go_num, Lib.hid (by rw [Htk2.out]; exact Ho.out), Hob, HB⟩
              case measure => simp [intOf] <;> omega
            · have Htk2 : Hid (notN r.n (rs.take (k + 1)) = notN r.n (rs.take k) ++ [s]) := Lib.hid (by rw [Htk.out, if_neg (fun e => he (hki.1 e))])
              have d1 : ((k : Int) == (i : Int)) = false := by rw [beq_eq_false_iff_ne]; omega
              have d2 : decide ((k : Int) = (i : Int)) = false := by simp; omega
              clear hs hro hsv hlv2 hki hlv hn1
              go_wp2_with (at_builtin; apply Hold.mk)
              unfold Hold
              refine wpList_app rfl _ _ 74 rfl ok63 (by rfl) (by rfl) (Ho.out.below' (bel_alloc (bel_refl _))) (own_lit_at (g := _) 80 4 #[.int .i64 s.n, .slice sa s.sure.length sc, .slice la s.loose.length lc, .bool s.kept] 1 (by simp [maxLen]) rfl (by simp)).rd vals_one (by simp only [maxLen]; omega) (by omega) ?_
              intro v7 w7 ho7 hg7 hn7
              have HO7 : Hid (Own 80 4 w7 v7 (notN r.n (rs.take (k + 1))).length (rcells (notN r.n (rs.take (k + 1))))) := Lib.hid (by
                rw [Htk2.out]
                refine own_push ?_
                have e : s.vals = [.int .i64 s.n, .slice sa s.sure.length sc, .slice la s.loose.length lc, .bool s.kept] := by
                  unfold RS.vals
                  rw [Hsv.out, Hlv2.out]
                rw [e]
                exact ho7)
              have HOb7 : Hid (∀ b, v7.ownBlock = some b → w1.heap.size ≤ b) := Lib.hid (fun b hb => by
                rcases hn7 b hb with h1 | h1
                · exact Hob.out b h1
                · have := HB.out.size
                  simp at h1
                  omega)
              have HB7 : Hid (Below w1.heap.size w1 w7) := Lib.hid ((bel_alloc HB.out).grown hg7 (bel_alloc HB.out).size Hob.out)
              clear ho7 hg7 hn7
              go_wp2_with fail
              go_roundw
              case rel => exact ⟨k + 1, by omega, by go_num, HO7, HOb7, HB7⟩
              case measure => simp [intOf] <;> omega
          · obtain rfl : k = rs.length := by omega
            rw [List.take_length] at Ho
            have f1 : wr.frozen? ⟨m, 1, none⟩ = false := HR.out.blk.free 1
            have hml := HR.out.blk.lt
            obtain ⟨a', c', hlv⟩ := HR.out.form
            rw [hlv] at g1
            obtain ⟨_, oa, oc, rfl, _⟩ := Ho.out.rd
            go_wp2_with fail
            go_ret
            have hz := ref_relist (P' := { P with fuse := powF P.fuse, L := dropP r.n P.L }) (HT1.out.mono (fun x hx => hx ▸ H.out.Gm)) HR1.out HB.out Ho.out Hob.out (fun x hx => .inl (List.mem_filter.1 hx).1) rfl rfl rfl HpL.out
            exact ⟨rfl, ⟨_, _, by rw [hd] at hz; exact hz.1⟩, hz.2⟩
    · rw [if_pos hh]
      have hi := idx_no h.eq hh
      clear h hok hh
      go_enter Try.func31, Try.ntmps31
      go_wp2_with (go_at_call 41; refine (find_ref H.out n hlen).mono ?_; rw [hi]; rintro e w1 ⟨rfl, rfl⟩)
      go_ret
      exact ⟨rfl, ⟨_, _, H.out.more (fun x hx => .inl hx)⟩, Turn.refl _ _⟩
end Go.Proofs.Ytokmiphgalpahaa
