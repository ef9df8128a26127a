/- label.Get (85), match.one (61), match.All (34), store.Right (25). -/
import Derived.Test.YtplieoalfbpniaaGreatS9
namespace Go.Proofs.YtplieoalfbpniaaGreat
open Go.RowKit Go.Kt Go.Ix Go.Sx
set_option maxRecDepth 100000

set_option maxHeartbeats 1000000 in
theorem lget_any (v : Value) (l : List Pr) (nm : ByteArray) (w : World) (hv : RdP w v l) :
    Calls Tryz.prog 85 #[v, .string nm] w fun e w' => e = .returned (.string (getL l nm)) ∧ Below w.heap.size w w' := by
  obtain ⟨a, cap, rfl, hcap, hbig, hcell⟩ := hv.open
  have Hcell := Lib.hid hcell
  clear hcell hv
  go_enter Tryz.func85, Tryz.ntmps85
  go_wp2_with fail
  go_loopw [6, 9] (fun _ i wr => ∃ k : Nat, k ≤ l.length ∧ i = .int .i64 k ∧ Hid (getL l nm = getL (l.drop k) nm) ∧ Hid (Below w.heap.size w wr)) (fun _ i _ => l.length - (intOf i).toNat)
  case atStart => exact ⟨0, by omega, rfl, Lib.hid rfl, Lib.hid (bel_refl w)⟩
  case round =>
    obtain ⟨k, hk, rfl, HG, HB⟩ := hrel
    by_cases hlt : k < l.length
    · obtain ⟨p, hp⟩ : ∃ x, l[k]? = some x := ⟨l[k], List.getElem?_eq_getElem hlt⟩
      obtain ⟨b, o, rfl, c1, c2⟩ := Hcell.out k p hp
      have lb := World.block_lt_of_cell? w _ c1
      have c1' : wr.cell? ⟨b, o + k * 2, none⟩ = some (.string p.n) := (HB.out.cell (p := ⟨b, o + k * 2, none⟩) lb).trans c1
      have c2' : wr.cell? ⟨b, o + k * 2 + 1, none⟩ = some (.string p.v) := (HB.out.cell (p := ⟨b, o + k * 2 + 1, none⟩) lb).trans c2
      have hbb : b < wr.heap.size := Nat.lt_of_lt_of_le lb HB.out.size
      have Hsz : Hid (w.heap.size ≤ wr.heap.size) := Lib.hid HB.out.size
      have hk1 : (0 : Int) ≤ (k : Int) := by omega
      have hk2 : (k : Int) < (l.length : Int) := by omega
      have HD : Hid (getL (l.drop k) nm = if p.n = nm then p.v else getL (l.drop (k + 1)) nm) := Lib.hid (by
        obtain ⟨hk', e⟩ := List.getElem?_eq_some_iff.1 hp
        rw [List.drop_eq_getElem_cons hk', getL, e])
      clear hp c1 c2 lb
      by_cases hn : p.n = nm
      · have hb : (p.n.toList == nm.toList) = true := by rw [hn]; simp
        have HD2 : Hid (getL l nm = p.v) := Lib.hid (by rw [HG.out, HD.out, if_pos hn])
        clear hn HD
        go_wp2_with fail
        go_ret
        rw [HD2.out]
        exact ⟨rfl, by repeat (first | exact HB.out | apply bel_alloc | refine bel_set ?_ Hsz.out)⟩
      · have hb : (p.n.toList == nm.toList) = false := by
          rw [beq_eq_false_iff_ne]
          exact fun e => hn (Go.Sx.toList_inj e)
        have HD2 : Hid (getL l nm = getL (l.drop (k + 1)) nm) := Lib.hid (by rw [HG.out, HD.out, if_neg hn])
        clear hn HD
        go_wp2_with fail
        go_roundw
        case rel => exact ⟨k + 1, by omega, by go_num, HD2, Lib.hid (by repeat (first | exact HB.out | apply bel_alloc | refine bel_set ?_ Hsz.out))⟩
        case measure => simp [intOf]; omega
    · obtain rfl : k = l.length := by omega
      have HD2 : Hid (getL l nm = ⟨#[]⟩) := Lib.hid (by rw [HG.out, List.drop_length]; rfl)
      go_wp2_with fail
      go_ret
      rw [HD2.out]
      exact ⟨rfl, HB.out⟩

set_option maxHeartbeats 1000000 in
theorem one_prog (r : Rl) (v : Value) (l : List Pr) (w : World) (hv : RdP w v l) (hg : Glob w) (hs : (getL l r.n).size ≤ 1000000) :
    Calls Tryz.prog 61 #[ragg r, v] w fun e w' => e = .returned (.bool (holdsB r (getL l r.n))) ∧ Below w.heap.size w w' := by
  obtain ⟨a, cap, rfl, _⟩ := hv.open
  obtain ⟨n, op, rv⟩ := r
  have HL := Lib.hid (fun (W : World) (h : Below w.heap.size w W) => lget_any (.slice a l.length cap) l n W (hv.below h))
  have HGl := Lib.hid hg
  simp only at hs
  unfold ragg
  simp only
  have hc : op = 1 ∨ op = 2 ∨ op = 3 ∨ op = 4 ∨ (op ≠ 1 ∧ op ≠ 2 ∧ op ≠ 3 ∧ op ≠ 4) := by omega
  have hh1 : holdsB ⟨n, op, rv⟩ (getL l n) = if op = 1 then ((getL l n).toList == rv.toList) else if op = 2 then !((getL l n).toList == rv.toList) else if op = 3 then Lib.hasPrefix (bl (getL l n)) (bl rv) else if op = 4 then Lib.contains (bl (getL l n)) (bl rv) else false := rfl
  rw [hh1]
  clear hh1 hv hg
  generalize getL l n = z at hs HL ⊢
  have Hs := Lib.hid hs
  clear hs
  rcases hc with rfl | rfl | rfl | rfl | ⟨n1, n2, n3, n4⟩
  · rw [if_pos rfl]
    go_enter Tryz.func61, Tryz.ntmps61
    go_wp2_with (first | (go_at_call 85; refine (HL.out _ (below_alloc w _)).mono ?_; rintro e w2 ⟨rfl, hb2⟩; have HB2 := Lib.hid (bel_trans (below_alloc w _) hb2); have hx := (Blk.new w #[.string n, .int .i64 1, .string rv] 119).next hb2; have x1 : w2.cell? ⟨w.heap.size, 1, none⟩ = some (.int .i64 1) := hx.cell 1; have x2 : w2.cell? ⟨w.heap.size, 2, none⟩ = some (.string rv) := hx.cell 2; clear hb2 hx) | fail)
    go_ret
    exact ⟨rfl, HB2.out⟩
  · rw [if_neg (by omega), if_pos rfl]
    go_enter Tryz.func61, Tryz.ntmps61
    go_wp2_with (first | (go_at_call 85; refine (HL.out _ (below_alloc w _)).mono ?_; rintro e w2 ⟨rfl, hb2⟩; have HB2 := Lib.hid (bel_trans (below_alloc w _) hb2); have hx := (Blk.new w #[.string n, .int .i64 2, .string rv] 119).next hb2; have x1 : w2.cell? ⟨w.heap.size, 1, none⟩ = some (.int .i64 2) := hx.cell 1; have x2 : w2.cell? ⟨w.heap.size, 2, none⟩ = some (.string rv) := hx.cell 2; clear hb2 hx) | fail)
    go_ret
    exact ⟨rfl, HB2.out⟩
  · rw [if_neg (by omega), if_neg (by omega), if_pos rfl]
    go_enter Tryz.func61, Tryz.ntmps61
    go_wp2_with (first
      | (go_at_call 85; refine (HL.out _ (below_alloc w _)).mono ?_; rintro e w2 ⟨rfl, hb2⟩; have HB2 := Lib.hid (bel_trans (below_alloc w _) hb2); have hx := (Blk.new w #[.string n, .int .i64 3, .string rv] 119).next hb2; have x1 : w2.cell? ⟨w.heap.size, 1, none⟩ = some (.int .i64 3) := hx.cell 1; have x2 : w2.cell? ⟨w.heap.size, 2, none⟩ = some (.string rv) := hx.cell 2; clear hb2 hx)
      | (go_at_call 86; refine (Tryz.strings_HasPrefix z rv _).mono ?_; rintro e w3 ⟨rfl, rfl⟩) | fail)
    go_ret
    exact ⟨rfl, HB2.out⟩
  · rw [if_neg (by omega), if_neg (by omega), if_neg (by omega), if_pos rfl]
    go_enter Tryz.func61, Tryz.ntmps61
    go_wp2_with (first
      | (go_at_call 85; refine (HL.out _ (below_alloc w _)).mono ?_; rintro e w2 ⟨rfl, hb2⟩; have HB2 := Lib.hid (bel_trans (below_alloc w _) hb2); have hx := (Blk.new w #[.string n, .int .i64 4, .string rv] 119).next hb2; have x1 : w2.cell? ⟨w.heap.size, 1, none⟩ = some (.int .i64 4) := hx.cell 1; have x2 : w2.cell? ⟨w.heap.size, 2, none⟩ = some (.string rv) := hx.cell 2; obtain ⟨m, hm⟩ := HGl.out.below HB2.out; have HM := Lib.hid hm; clear hb2 hx hm)
      | (go_at_call 87; refine (Tryz.strings_Contains z rv m _ (by have := Hs.out; omega) HM.out).mono ?_; rintro e w3 ⟨rfl, rfl⟩) | fail)
    go_ret
    exact ⟨rfl, HB2.out⟩
  · rw [if_neg n1, if_neg n2, if_neg n3, if_neg n4]
    have e1 : (op == 1) = false := bne_of n1
    have e2 : (op == 2) = false := bne_of n2
    have e3 : (op == 3) = false := bne_of n3
    have e4 : (op == 4) = false := bne_of n4
    clear n1 n2 n3 n4
    go_enter Tryz.func61, Tryz.ntmps61
    go_wp2_with (first | (go_at_call 85; refine (HL.out _ (below_alloc w _)).mono ?_; rintro e w2 ⟨rfl, hb2⟩; have HB2 := Lib.hid (bel_trans (below_alloc w _) hb2); have hx := (Blk.new w #[.string n, .int .i64 op, .string rv] 119).next hb2; have x1 : w2.cell? ⟨w.heap.size, 1, none⟩ = some (.int .i64 op) := hx.cell 1; have x2 : w2.cell? ⟨w.heap.size, 2, none⟩ = some (.string rv) := hx.cell 2; clear hb2 hx) | fail)
    go_ret
    exact ⟨rfl, HB2.out⟩

set_option maxHeartbeats 1000000 in
theorem all_prog (v u : Value) (l : List Rl) (d : List Pr) (w : World) (hv : RdR w v l) (hu : RdP w u d) (hg : Glob w) (hgs : ∀ nm, (getL d nm).size ≤ 1000000) :
    Calls Tryz.prog 34 #[v, u] w fun e w' => e = .returned (.bool (allB l d)) ∧ Below w.heap.size w w' := by
  obtain ⟨a, cap, rfl, hcap, hbig, hcell⟩ := hv.open
  obtain ⟨ua, ucap, rfl, _⟩ := hu.open
  have Hcell := Lib.hid hcell
  have HO := Lib.hid (fun (r : Rl) (W : World) (h : Below w.heap.size w W) => one_prog r (.slice ua d.length ucap) d W (hu.below h) (hg.below h) (hgs r.n))
  clear hcell hv hu hg hgs
  go_enter Tryz.func34, Tryz.ntmps34
  go_wp2_with fail
  go_loopw [6, 9] (fun _ i wr => ∃ k : Nat, k ≤ l.length ∧ i = .int .i64 k ∧ Hid (allB (l.take k) d = true) ∧ Hid (Below w.heap.size w wr)) (fun _ i _ => l.length - (intOf i).toNat)
  case atStart => exact ⟨0, by omega, rfl, Lib.hid rfl, Lib.hid (bel_refl w)⟩
  case round =>
    obtain ⟨k, hk, rfl, HA, HB⟩ := hrel
    by_cases hlt : k < l.length
    · obtain ⟨r, hr⟩ : ∃ x, l[k]? = some x := ⟨l[k], List.getElem?_eq_getElem hlt⟩
      obtain ⟨b, o, rfl, lb, c0, c1, c2⟩ := Hcell.out k r hr
      have c0' : wr.cell? ⟨b, o + k * 3, none⟩ = some (.string r.n) := (HB.out.cell (p := ⟨b, o + k * 3, none⟩) lb).trans c0
      have c1' : wr.cell? ⟨b, o + k * 3 + 1, none⟩ = some (.int .i64 r.op) := (HB.out.cell (p := ⟨b, o + k * 3 + 1, none⟩) lb).trans c1
      have c2' : wr.cell? ⟨b, o + k * 3 + 2, none⟩ = some (.string r.v) := (HB.out.cell (p := ⟨b, o + k * 3 + 2, none⟩) lb).trans c2
      have hbb : b < wr.heap.size := Nat.lt_of_lt_of_le lb HB.out.size
      have Hsz : Hid (w.heap.size ≤ wr.heap.size) := Lib.hid HB.out.size
      have HN := Lib.hid (allB_next hr d)
      have hk1 : (0 : Int) ≤ (k : Int) := by omega
      have hk2 : (k : Int) < (l.length : Int) := by omega
      have hbad : Hid (holdsB r (getL d r.n) = false → allB l d = false) := Lib.hid (fun h => by
        unfold allB
        rw [List.all_eq_false]
        exact ⟨r, List.mem_of_getElem? hr, by rw [h]; simp⟩)
      have HO1 := Lib.hid (fun W h => HO.out r W h)
      unfold ragg at HO1
      clear c0 c1 c2 hr lb
      cases hh : holdsB r (getL d r.n) with
      | true =>
        rw [hh] at HO1 HN
        clear hh hbad
        go_wp2_with (first
          | (go_at_call 61; refine (HO1.out _ (by repeat (first | exact HB.out | apply bel_alloc | refine bel_set ?_ Hsz.out))).mono ?_; rintro e w3 ⟨rfl, hb3⟩; have HB3 := Lib.hid (bel_trans (by repeat (first | exact HB.out | apply bel_alloc | refine bel_set ?_ Hsz.out)) hb3); clear hb3)
          | fail)
        go_roundw
        case rel => exact ⟨k + 1, by omega, by go_num, Lib.hid (by rw [HN.out, HA.out]; rfl), HB3⟩
        case measure => simp [intOf]; omega
      | false =>
        have HX : Hid (allB l d = false) := Lib.hid (hbad.out hh)
        rw [hh] at HO1
        clear hh hbad
        go_wp2_with (first
          | (go_at_call 61; refine (HO1.out _ (by repeat (first | exact HB.out | apply bel_alloc | refine bel_set ?_ Hsz.out))).mono ?_; rintro e w3 ⟨rfl, hb3⟩; have HB3 := Lib.hid (bel_trans (by repeat (first | exact HB.out | apply bel_alloc | refine bel_set ?_ Hsz.out)) hb3); clear hb3)
          | fail)
        go_ret
        exact ⟨ret_bool HX.out.symm, HB3.out⟩
    · obtain rfl : k = l.length := by omega
      rw [List.take_length] at HA
      go_wp2_with fail
      go_ret
      exact ⟨ret_bool HA.out.symm, HB.out⟩
end Go.Proofs.YtplieoalfbpniaaGreat
