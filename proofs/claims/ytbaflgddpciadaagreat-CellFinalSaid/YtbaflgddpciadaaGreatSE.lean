/- label.Get (85), match.one (61), match.All (34), store.Right (25). store.Right (25); a store in memory. A store in memory: its parts; what a step leaves; New (14), Len (19). A version laid into a store in memory. A series laid into a store in memory. -/
import Derived.Test.YtbaflgddpciadaaGreatS9
import Derived.Test.YtbaflgddpciadaaGreatKtU
set_option linter.unusedVariables false
set_option linter.unusedSimpArgs false
namespace Go.Proofs.YtbaflgddpciadaaGreat
open Go.RowKit Go.Kt Go.Ix Go.Sx
set_option maxRecDepth 100000

set_option maxHeartbeats 1000000 in
theorem lget_any (v : Value) (l : List Pr) (nm : ByteArray) (w : World) (hv : RdP w v l) :
    Calls Tryz.prog 214 #[v, .string nm] w fun e w' => e = .returned (.string (getL l nm)) ∧ Below w.heap.size w w' := by
  obtain ⟨a, cap, rfl, hcap, hbig, hcell⟩ := hv.open
  have Hcell := Lib.hid hcell
  clear hcell hv
  go_enter Tryz.func214, Tryz.ntmps214
  go_wp2_with fail
  go_loopw [6, 9] (fun _ i wr => ∃ k : Nat, k ≤ l.length ∧ i = .int .i64 k ∧ Hid (getL l nm = getL (l.drop k) nm) ∧ Hid (Below w.heap.size w wr)) (fun _ i _ => l.length - (intOf i).toNat)
  case atStart => exact ⟨0, by omega, rfl, Lib.hid rfl, Lib.hid (bel_refl w)⟩
  case round =>
    obtain ⟨k, hk, rfl, HG, HB⟩ := hrel
    by_cases hlt : k < l.length
    · obtain ⟨p, hp⟩ : ∃ x, l[k]? = some x := ⟨l[k], List.getElem?_eq_getElem hlt⟩
      obtain ⟨b, o, rfl, c1, c2⟩ := Hcell.out k p hp
      have lb := World.block_lt_of_cell? w _ c1
      have c1' : wr.cell? ⟨b, o + k * 2, none⟩ = some (.string p.n) := (HB.out.cell (p := ⟨b, o + k * 2, none⟩) lb).trans c1
      have c2' : wr.cell? ⟨b, o + k * 2 + 1, none⟩ = some (.string p.v) := (HB.out.cell (p := ⟨b, o + k * 2 + 1, none⟩) lb).trans c2
      have hbb : b < wr.heap.size := Nat.lt_of_lt_of_le lb HB.out.size
      have Hsz : Hid (w.heap.size ≤ wr.heap.size) := Lib.hid HB.out.size
      have hk1 : (0 : Int) ≤ (k : Int) := by omega
      have hk2 : (k : Int) < (l.length : Int) := by omega
      have HD : Hid (getL (l.drop k) nm = if p.n = nm then p.v else getL (l.drop (k + 1)) nm) := Lib.hid (by
        obtain ⟨hk', e⟩ := List.getElem?_eq_some_iff.1 hp
        rw [List.drop_eq_getElem_cons hk', getL, e])
      clear hp c1 c2 lb
      by_cases hn : p.n = nm
      · have hb : (p.n.toList == nm.toList) = true := by rw [hn]; simp
        have HD2 : Hid (getL l nm = p.v) := Lib.hid (by rw [HG.out, HD.out, if_pos hn])
        clear hn HD
        go_wp2_with fail
        go_ret
        rw [HD2.out]
        exact ⟨rfl, by repeat (first | exact HB.out | apply bel_alloc | refine bel_set ?_ Hsz.out)⟩
      · have hb : (p.n.toList == nm.toList) = false := by
          rw [beq_eq_false_iff_ne]
          exact fun e => hn (Go.Sx.toList_inj e)
        have HD2 : Hid (getL l nm = getL (l.drop (k + 1)) nm) := Lib.hid (by rw [HG.out, HD.out, if_neg hn])
        clear hn HD
        go_wp2_with fail
        go_roundw
        case rel => exact ⟨k + 1, by omega, by go_num, HD2, Lib.hid (by repeat (first | exact HB.out | apply bel_alloc | refine bel_set ?_ Hsz.out))⟩
        case measure => simp [intOf]; omega
    · obtain rfl : k = l.length := by omega
      have HD2 : Hid (getL l nm = ⟨#[]⟩) := Lib.hid (by rw [HG.out, List.drop_length]; rfl)
      go_wp2_with fail
      go_ret
      rw [HD2.out]
      exact ⟨rfl, HB.out⟩

set_option maxHeartbeats 1000000 in
theorem one_prog (r : Rl) (v : Value) (l : List Pr) (w : World) (hv : RdP w v l) (hg : Glob w) (hs : (getL l r.n).size ≤ 1000000) :
    Calls Tryz.prog 194 #[ragg r, v] w fun e w' => e = .returned (.bool (holdsB r (getL l r.n))) ∧ Below w.heap.size w w' := by
  obtain ⟨a, cap, rfl, _⟩ := hv.open
  obtain ⟨n, op, rv⟩ := r
  have HL := Lib.hid (fun (W : World) (h : Below w.heap.size w W) => lget_any (.slice a l.length cap) l n W (hv.below h))
  have HGl := Lib.hid hg
  simp only at hs
  unfold ragg
  simp only
  have hc : op = 1 ∨ op = 2 ∨ op = 3 ∨ op = 4 ∨ (op ≠ 1 ∧ op ≠ 2 ∧ op ≠ 3 ∧ op ≠ 4) := by omega
  have hh1 : holdsB ⟨n, op, rv⟩ (getL l n) = if op = 1 then ((getL l n).toList == rv.toList) else if op = 2 then !((getL l n).toList == rv.toList) else if op = 3 then Lib.hasPrefix (bl (getL l n)) (bl rv) else if op = 4 then Lib.contains (bl (getL l n)) (bl rv) else false := rfl
  rw [hh1]
  clear hh1 hv hg
  generalize getL l n = z at hs HL ⊢
  have Hs := Lib.hid hs
  clear hs
  rcases hc with rfl | rfl | rfl | rfl | ⟨n1, n2, n3, n4⟩
  · rw [if_pos rfl]
    go_enter Tryz.func194, Tryz.ntmps194
    go_wp2_with (first | (go_at_call 214; refine (HL.out _ (below_alloc w _)).mono ?_; rintro e w2 ⟨rfl, hb2⟩; have HB2 := Lib.hid (bel_trans (below_alloc w _) hb2); have hx := (Blk.new w #[.string n, .int .i64 1, .string rv] 164).next hb2; have x1 : w2.cell? ⟨w.heap.size, 1, none⟩ = some (.int .i64 1) := hx.cell 1; have x2 : w2.cell? ⟨w.heap.size, 2, none⟩ = some (.string rv) := hx.cell 2; clear hb2 hx) | fail)
    go_ret
    exact ⟨rfl, HB2.out⟩
  · rw [if_neg (by omega), if_pos rfl]
    go_enter Tryz.func194, Tryz.ntmps194
    go_wp2_with (first | (go_at_call 214; refine (HL.out _ (below_alloc w _)).mono ?_; rintro e w2 ⟨rfl, hb2⟩; have HB2 := Lib.hid (bel_trans (below_alloc w _) hb2); have hx := (Blk.new w #[.string n, .int .i64 2, .string rv] 164).next hb2; have x1 : w2.cell? ⟨w.heap.size, 1, none⟩ = some (.int .i64 2) := hx.cell 1; have x2 : w2.cell? ⟨w.heap.size, 2, none⟩ = some (.string rv) := hx.cell 2; clear hb2 hx) | fail)
    go_ret
    exact ⟨rfl, HB2.out⟩
  · rw [if_neg (by omega), if_neg (by omega), if_pos rfl]
    go_enter Tryz.func194, Tryz.ntmps194
    go_wp2_with (first
      | (go_at_call 214; refine (HL.out _ (below_alloc w _)).mono ?_; rintro e w2 ⟨rfl, hb2⟩; have HB2 := Lib.hid (bel_trans (below_alloc w _) hb2); have hx := (Blk.new w #[.string n, .int .i64 3, .string rv] 164).next hb2; have x1 : w2.cell? ⟨w.heap.size, 1, none⟩ = some (.int .i64 3) := hx.cell 1; have x2 : w2.cell? ⟨w.heap.size, 2, none⟩ = some (.string rv) := hx.cell 2; clear hb2 hx)
      | (go_at_call 215; refine (Tryz.strings_HasPrefix z rv _).mono ?_; rintro e w3 ⟨rfl, rfl⟩) | fail)
    go_ret
    exact ⟨rfl, HB2.out⟩
  · rw [if_neg (by omega), if_neg (by omega), if_neg (by omega), if_pos rfl]
    go_enter Tryz.func194, Tryz.ntmps194
    go_wp2_with (first
      | (go_at_call 214; refine (HL.out _ (below_alloc w _)).mono ?_; rintro e w2 ⟨rfl, hb2⟩; have HB2 := Lib.hid (bel_trans (below_alloc w _) hb2); have hx := (Blk.new w #[.string n, .int .i64 4, .string rv] 164).next hb2; have x1 : w2.cell? ⟨w.heap.size, 1, none⟩ = some (.int .i64 4) := hx.cell 1; have x2 : w2.cell? ⟨w.heap.size, 2, none⟩ = some (.string rv) := hx.cell 2; obtain ⟨m, hm⟩ := HGl.out.below HB2.out; have HM := Lib.hid hm; clear hb2 hx hm)
      | (go_at_call 216; refine (Tryz.strings_Contains z rv m _ (by have := Hs.out; omega) HM.out).mono ?_; rintro e w3 ⟨rfl, rfl⟩) | fail)
    go_ret
    exact ⟨rfl, HB2.out⟩
  · rw [if_neg n1, if_neg n2, if_neg n3, if_neg n4]
    have e1 : (op == 1) = false := bne_of n1
    have e2 : (op == 2) = false := bne_of n2
    have e3 : (op == 3) = false := bne_of n3
    have e4 : (op == 4) = false := bne_of n4
    clear n1 n2 n3 n4
    go_enter Tryz.func194, Tryz.ntmps194
    go_wp2_with (first | (go_at_call 214; refine (HL.out _ (below_alloc w _)).mono ?_; rintro e w2 ⟨rfl, hb2⟩; have HB2 := Lib.hid (bel_trans (below_alloc w _) hb2); have hx := (Blk.new w #[.string n, .int .i64 op, .string rv] 164).next hb2; have x1 : w2.cell? ⟨w.heap.size, 1, none⟩ = some (.int .i64 op) := hx.cell 1; have x2 : w2.cell? ⟨w.heap.size, 2, none⟩ = some (.string rv) := hx.cell 2; clear hb2 hx) | fail)
    go_ret
    exact ⟨rfl, HB2.out⟩

set_option maxHeartbeats 1000000 in
theorem all_prog (v u : Value) (l : List Rl) (d : List Pr) (w : World) (hv : RdR w v l) (hu : RdP w u d) (hg : Glob w) (hgs : ∀ nm, (getL d nm).size ≤ 1000000) :
    Calls Tryz.prog 149 #[v, u] w fun e w' => e = .returned (.bool (allB l d)) ∧ Below w.heap.size w w' := by
  obtain ⟨a, cap, rfl, hcap, hbig, hcell⟩ := hv.open
  obtain ⟨ua, ucap, rfl, _⟩ := hu.open
  have Hcell := Lib.hid hcell
  have HO := Lib.hid (fun (r : Rl) (W : World) (h : Below w.heap.size w W) => one_prog r (.slice ua d.length ucap) d W (hu.below h) (hg.below h) (hgs r.n))
  clear hcell hv hu hg hgs
  go_enter Tryz.func149, Tryz.ntmps149
  go_wp2_with fail
  go_loopw [6, 9] (fun _ i wr => ∃ k : Nat, k ≤ l.length ∧ i = .int .i64 k ∧ Hid (allB (l.take k) d = true) ∧ Hid (Below w.heap.size w wr)) (fun _ i _ => l.length - (intOf i).toNat)
  case atStart => exact ⟨0, by omega, rfl, Lib.hid rfl, Lib.hid (bel_refl w)⟩
  case round =>
    obtain ⟨k, hk, rfl, HA, HB⟩ := hrel
    by_cases hlt : k < l.length
    · obtain ⟨r, hr⟩ : ∃ x, l[k]? = some x := ⟨l[k], List.getElem?_eq_getElem hlt⟩
      obtain ⟨b, o, rfl, lb, c0, c1, c2⟩ := Hcell.out k r hr
      have c0' : wr.cell? ⟨b, o + k * 3, none⟩ = some (.string r.n) := (HB.out.cell (p := ⟨b, o + k * 3, none⟩) lb).trans c0
      have c1' : wr.cell? ⟨b, o + k * 3 + 1, none⟩ = some (.int .i64 r.op) := (HB.out.cell (p := ⟨b, o + k * 3 + 1, none⟩) lb).trans c1
      have c2' : wr.cell? ⟨b, o + k * 3 + 2, none⟩ = some (.string r.v) := (HB.out.cell (p := ⟨b, o + k * 3 + 2, none⟩) lb).trans c2
      have hbb : b < wr.heap.size := Nat.lt_of_lt_of_le lb HB.out.size
      have Hsz : Hid (w.heap.size ≤ wr.heap.size) := Lib.hid HB.out.size
      have HN := Lib.hid (allB_next hr d)
      have hk1 : (0 : Int) ≤ (k : Int) := by omega
      have hk2 : (k : Int) < (l.length : Int) := by omega
      have hbad : Hid (holdsB r (getL d r.n) = false → allB l d = false) := Lib.hid (fun h => by
        unfold allB
        rw [List.all_eq_false]
        exact ⟨r, List.mem_of_getElem? hr, by rw [h]; simp⟩)
      have HO1 := Lib.hid (fun W h => HO.out r W h)
      unfold ragg at HO1
      clear c0 c1 c2 hr lb
      cases hh : holdsB r (getL d r.n) with
      | true =>
        rw [hh] at HO1 HN
        clear hh hbad
        go_wp2_with (first
          | (go_at_call 194; refine (HO1.out _ (by repeat (first | exact HB.out | apply bel_alloc | refine bel_set ?_ Hsz.out))).mono ?_; rintro e w3 ⟨rfl, hb3⟩; have HB3 := Lib.hid (bel_trans (by repeat (first | exact HB.out | apply bel_alloc | refine bel_set ?_ Hsz.out)) hb3); clear hb3)
          | fail)
        go_roundw
        case rel => exact ⟨k + 1, by omega, by go_num, Lib.hid (by rw [HN.out, HA.out]; rfl), HB3⟩
        case measure => simp [intOf]; omega
      | false =>
        have HX : Hid (allB l d = false) := Lib.hid (hbad.out hh)
        rw [hh] at HO1
        clear hh hbad
        go_wp2_with (first
          | (go_at_call 194; refine (HO1.out _ (by repeat (first | exact HB.out | apply bel_alloc | refine bel_set ?_ Hsz.out))).mono ?_; rintro e w3 ⟨rfl, hb3⟩; have HB3 := Lib.hid (bel_trans (by repeat (first | exact HB.out | apply bel_alloc | refine bel_set ?_ Hsz.out)) hb3); clear hb3)
          | fail)
        go_ret
        exact ⟨ret_bool HX.out.symm, HB3.out⟩
    · obtain rfl : k = l.length := by omega
      rw [List.take_length] at HA
      go_wp2_with fail
      go_ret
      exact ⟨ret_bool HA.out.symm, HB.out⟩
end Go.Proofs.YtbaflgddpciadaaGreat
namespace Go.Proofs.YtbaflgddpciadaaGreat
open Go.RowKit Go.Kt Go.Ix Go.Sx
set_option maxRecDepth 100000

/-- which writes may be -/
def RightW (m : Wr) : Prop := RightP m.st ∧ 0 ≤ m.t ∧ m.t ≤ 4611686018427387904 ∧ verR ⟨⟨0, 0, 0⟩, m.k, m.n, m.x⟩
set_option maxHeartbeats 1000000 in
theorem rightw_any (m : Wr) (w : World) (hv : RdP w m.sv m.st) (hf : Fit m.st) (hx : m.x.size ≤ maxLen) :
    Calls Tryz.prog 85 #[wagg m] w fun e w' => e = .returned (.bool (pb (RightW m))) ∧ Below w.heap.size w w' := by
  obtain ⟨st, t, k, n, x, sv⟩ := m
  simp only at hv hf hx
  obtain ⟨a, cap, rfl, _⟩ := hv.open
  have HR := Lib.hid (fun (W : World) (h : Below w.heap.size w W) => (right_any (.slice a st.length cap) st W (hv.below h) hf).mono (fun _ _ (h : _ ∧ _) => And.intro (says_pb h.1) h.2))
  have HV := Lib.hid (fun W => verR_any ⟨⟨0, 0, 0⟩, k, n, x⟩ W hx)
  have HP : Hid (RightW ⟨st, t, k, n, x, .slice a st.length cap⟩ ↔ RightP st ∧ 0 ≤ t ∧ t ≤ 4611686018427387904 ∧ verR ⟨⟨0, 0, 0⟩, k, n, x⟩) := Lib.hid Iff.rfl
  generalize hP : RightW ⟨st, t, k, n, x, .slice a st.length cap⟩ = P at HP ⊢
  clear hP hv hf
  generalize hr : pb (RightP st) = r at HR
  have Hr := Lib.hid hr
  clear hr
  unfold wagg Ver.val at *
  simp only at *
  generalize hd : decide (verR ⟨⟨0, 0, 0⟩, k, n, x⟩) = d at HV
  have Hd := Lib.hid hd
  clear hd
  have blk := Lib.hid (Blk.new w #[.slice a st.length cap, .int .i64 t, .int .i64 k, .int .i64 n, .string x] 87)
  cases r with
  | false =>
    have HE : Hid (pb P = false) := Lib.hid (pb_no (fun h => of_not_pb Hr.out (HP.out.1 h).1))
    go_enter Tryz.func85, Tryz.ntmps85
    go_wp2_with (first | (go_at_call 159; refine (HR.out _ (below_alloc w _)).mono ?_; rintro e w2 ⟨rfl, hb2⟩; have HB2 := Lib.hid (bel_trans (below_alloc w _) hb2); clear hb2) | fail)
    go_ret
    exact ⟨ret_bool HE.out.symm, HB2.out⟩
  | true =>
    by_cases h1 : 0 ≤ t
    · by_cases h2 : t ≤ 4611686018427387904
      · have HE : Hid (pb P = d) := Lib.hid (by
          cases d with
          | true => exact pb_yes (HP.out.2 ⟨of_pb Hr.out, h1, h2, of_decide_eq_true Hd.out⟩)
          | false => exact pb_no (fun h => of_decide_eq_false Hd.out (HP.out.1 h).2.2.2))
        go_enter Tryz.func85, Tryz.ntmps85
        go_wp2_with (first
          | (go_at_call 159; refine (HR.out _ (below_alloc w _)).mono ?_; rintro e w2 ⟨rfl, hb2⟩; have HB2 := Lib.hid (bel_trans (below_alloc w _) hb2); have hx := blk.out.next hb2; have x1 : w2.cell? ⟨w.heap.size, 1, none⟩ = some (.int .i64 t) := hx.cell 1; have x2 : w2.cell? ⟨w.heap.size, 2, none⟩ = some (.int .i64 k) := hx.cell 2; have x3 : w2.cell? ⟨w.heap.size, 3, none⟩ = some (.int .i64 n) := hx.cell 3; have x4 : w2.cell? ⟨w.heap.size, 4, none⟩ = some (.string x) := hx.cell 4; clear hb2 hx)
          | (go_at_call 160; refine (HV.out _).mono ?_; rintro e w3 ⟨rfl, hb3⟩; have HB3 := Lib.hid (bel_trans HB2.out hb3); clear hb3)
          | fail)
        go_ret
        exact ⟨ret_bool HE.out.symm, HB3.out⟩
      · have HE : Hid (pb P = false) := Lib.hid (pb_no (fun h => h2 (HP.out.1 h).2.2.1))
        have h3' : decide (t ≤ 4611686018427387904) = false := by simpa using h2
        go_enter Tryz.func85, Tryz.ntmps85
        go_wp2_with (first
          | (go_at_call 159; refine (HR.out _ (below_alloc w _)).mono ?_; rintro e w2 ⟨rfl, hb2⟩; have HB2 := Lib.hid (bel_trans (below_alloc w _) hb2); have hx := blk.out.next hb2; have x1 : w2.cell? ⟨w.heap.size, 1, none⟩ = some (.int .i64 t) := hx.cell 1; clear hb2 hx)
          | fail)
        go_ret
        exact ⟨ret_bool HE.out.symm, HB2.out⟩
    · have HE : Hid (pb P = false) := Lib.hid (pb_no (fun h => h1 (HP.out.1 h).2.1))
      have h3' : decide (0 ≤ t) = false := by simpa using h1
      go_enter Tryz.func85, Tryz.ntmps85
      go_wp2_with (first
        | (go_at_call 159; refine (HR.out _ (below_alloc w _)).mono ?_; rintro e w2 ⟨rfl, hb2⟩; have HB2 := Lib.hid (bel_trans (below_alloc w _) hb2); have hx := blk.out.next hb2; have x1 : w2.cell? ⟨w.heap.size, 1, none⟩ = some (.int .i64 t) := hx.cell 1; clear hb2 hx)
        | fail)
      go_ret
      exact ⟨ret_bool HE.out.symm, HB2.out⟩
end Go.Proofs.YtbaflgddpciadaaGreat
namespace Go.Proofs.YtbaflgddpciadaaGreat
open Go.RowKit Go.Kt Go.Ix Go.Sx
set_option maxRecDepth 100000

theorem upd_same (f : Lit → Option Value) (k : Lit) (v : Value) : upd f k v k = some v := by unfold upd; rw [if_pos rfl]
theorem upd_other (f : Lit → Option Value) {k x : Lit} (v : Value) (h : x ≠ k) : upd f k v x = f x := by unfold upd; rw [if_neg h]
theorem upd_id {f : Lit → Option Value} {k : Lit} {v : Value} (h : f k = some v) : upd f k v = f := by
  funext x
  by_cases e : x = k
  · rw [e, upd_same, h]
  · rw [upd_other f v e]
theorem blk_no_map {w : World} {g m c : Nat} {cs : Array Value} {t k : TypeId} {f : Lit → Option Value} (h : Blk w g cs t) (hm : MapIs Tryz.prog k w m f c) : g ≠ m := by
  rintro rfl
  obtain ⟨D, ⟨es, clock, hb, _⟩, _⟩ := hm
  unfold Blk at h
  rw [h] at hb
  cases hb
def litT (z : Int) : Lit := .int .i64 z
theorem litT_inj {a b : Int} (h : litT a = litT b) : a = b := by unfold litT at h; injection h
theorem key2 : Maps.Keyed Tryz.prog 2 := Maps.int_keyed Tryz.underlying2
theorem wf64 {n : Int} (h : -9223372036854775808 ≤ n ∧ n ≤ 9223372036854775807) : (Lit.int .i64 n).wf = true := by
  simp only [Lit.wf, IntKind.min, IntKind.max, IntKind.signed, IntKind.bits]
  simp
  omega
theorem keyOf2 {n : Int} (h : -9223372036854775808 ≤ n ∧ n ≤ 9223372036854775807) : keyOf Tryz.prog 2 (.int .i64 n) = some (litT n) := Maps.keyOf_int_mk Tryz.underlying2 (wf64 h)
theorem zero96 (w : World) : (zeroValue 241).run Tryz.prog w = .ok (.slice none 0 0) w := by kernel_rfl
theorem zero86 (w : World) : (zeroValue 259).run Tryz.prog w = .ok (.pointer none) w := by kernel_rfl

/-- the parts of a store in memory: at each text a series' block, its row of labels and these, its map's block, what stands there at each time -/
structure Sp where
  f : Lit → Option Value
  n : Nat
  x : Lit → Nat
  sv : Lit → Value
  d : Lit → List Pr
  b : Lit → Nat
  g : Lit → Lit → Option Value
  c : Lit → Nat
  l : Lit → Lit → List Ver
structure SerAt (F : Nat → Prop) (w : World) (om : Nat) (k : Lit) (u : Value) (S : Sp) : Prop where
  ptr : u = .pointer (some ⟨S.x k, 0, none⟩)
  Fx : F (S.x k)
  blk : Blk w (S.x k) #[S.sv k, .map (some (S.b k))] 263
  set : OwnP 104 w (S.sv k) (S.d k)
  Fs : ∀ b, (S.sv k).ownBlock = some b → F b
  Fb : F (S.b k)
  ne : S.b k ≠ om
  map : MapIs Tryz.prog 2 w (S.b k) (S.g k) (S.c k)
  key : k = .string (textL (S.d k))
  right : RightP (S.d k)
  rows : ∀ t v, S.g k t = some v → OwnV 270 w v (S.l k t) ∧ (∀ b, v.ownBlock = some b → F b) ∧ ∃ z : Int, t = litT z ∧ 0 ≤ z ∧ z ≤ 4611686018427387904
instance : DecidableRel ltS := fun a b => by unfold ltS; infer_instance
instance : DecidableEq Pr := fun a b => by
  by_cases h1 : a.n = b.n
  · by_cases h2 : a.v = b.v
    · exact .isTrue (Pr.ext' h1 h2)
    · exact .isFalse (fun e => h2 (by rw [e]))
  · exact .isFalse (fun e => h1 (by rw [e]))
abbrev It := Go.Sx.Item (List Pr)
structure StAt (F : Nat → Prop) (w : World) (s om : Nat) (S : Sp) (L : List It) (N : Nat) : Prop where
  blk : Blk w s #[.map (some om), .int .i64 (lenL L : Int)] 233
  Fs : F s
  Fo : F om
  outer : MapIs Tryz.prog 9 w om S.f S.n
  ser : ∀ k u, S.f k = some u → SerAt F w om k u S
  apart : ∀ k u k' u', S.f k = some u → S.f k' = some u' → k ≠ k' → S.b k ≠ S.b k'
  told : ∀ it : It, it ∈ L ↔ ∃ k u z v, S.f k = some u ∧ S.g k (litT z) = some v ∧ it = ⟨S.d k, z, S.l k (litT z)⟩
  ok : StoreOk ltS L
  ver : ∀ it ∈ L, ∀ v ∈ it.l, verR v
  len : lenL L ≤ 65536
  nb : S.n ≤ N ∧ ∀ k u, S.f k = some u → S.c k ≤ N
  lt : ∀ x, F x → x < w.heap.size

/-- all that G names are maps, or stores -/
def Soft (w : World) (G : Nat → Prop) : Prop := ∀ x, G x → (∃ es ck, w.heap[x]? = some (.map es ck)) ∨ ∃ cs fr, w.heap[x]? = some (.cells cs 233 fr)
theorem soft_blk {w : World} {G : Nat → Prop} {g : Nat} {cs : Array Value} {t : TypeId} (h : Soft w G) (hb : Blk w g cs t) (hne : t ≠ 233) : ¬ G g := by
  intro hg
  unfold Blk at hb
  rcases h g hg with ⟨es, ck, e⟩ | ⟨cs', fr, e⟩
  · rw [hb] at e; cases e
  · rw [hb] at e; injection e with e; injection e with _ e _; exact hne e
theorem soft_own {w : World} {G : Nat → Prop} {e : TypeId} {size n : Nat} {v : Value} {xs : List Value} (h : Soft w G) (ho : Own e size w v n xs) (hne : e ≠ 233) : ∀ b, v.ownBlock = some b → ¬ G b := by
  intro b hb hg
  rcases ho.2 with ⟨rfl, _⟩ | ⟨g', cap, cur, rfl, _, hg', _⟩
  · cases hb
  · have : g' = b := by simpa [Value.ownBlock] using hb
    subst this
    rcases h g' hg with ⟨es, ck, e'⟩ | ⟨cs', fr, e'⟩
    · rw [hg'] at e'; cases e'
    · rw [hg'] at e'; injection e' with e'; injection e' with _ e' _; exact hne e'
theorem map_is {w : World} {k : TypeId} {m n : Nat} {f : Lit → Option Value} (h : MapIs Tryz.prog k w m f n) : ∃ es ck, w.heap[m]? = some (.map es ck) := by
  obtain ⟨D, ⟨es, ck, hb, _⟩, _⟩ := h
  exact ⟨es, ck, hb⟩
variable {F F' : Nat → Prop} {w w' : World} {s om : Nat} {S : Sp} {L : List It} {N : Nat}
theorem SerAt.more {k : Lit} {u : Value} (h : SerAt F w om k u S) (hF : ∀ x, F x → F' x) : SerAt F' w om k u S :=
  ⟨h.ptr, hF _ h.Fx, h.blk, h.set, fun b hb => hF _ (h.Fs b hb), hF _ h.Fb, h.ne, h.map, h.key, h.right, fun t v hv => ⟨(h.rows t v hv).1, fun b hb => hF _ ((h.rows t v hv).2.1 b hb), (h.rows t v hv).2.2⟩⟩
theorem SerAt.soft {k : Lit} {u : Value} {G : Nat → Prop} (h : SerAt F w om k u S) (ht : Turn G w w') (hs : Soft w G) (hb : ¬ G (S.b k)) : SerAt F w' om k u S :=
  ⟨h.ptr, h.Fx, blk_keep ht h.blk (soft_blk hs h.blk (by decide)), own_keep ht h.set (soft_own hs h.set (by decide)), h.Fs, h.Fb, h.ne, map_keep ht h.map hb, h.key, h.right,
    fun t v hv => ⟨own_keep ht (h.rows t v hv).1 (soft_own hs (h.rows t v hv).1 (by decide)), (h.rows t v hv).2⟩⟩
theorem SerAt.keep {k : Lit} {u : Value} {G : Nat → Prop} (h : SerAt F w om k u S) (ht : Turn G w w') (hG : ∀ x, F x → ¬ G x) : SerAt F w' om k u S :=
  ⟨h.ptr, h.Fx, blk_keep ht h.blk (hG _ h.Fx), own_keep ht h.set (fun b hb => hG _ (h.Fs b hb)), h.Fs, h.Fb, h.ne, map_keep ht h.map (hG _ h.Fb), h.key, h.right,
    fun t v hv => ⟨own_keep ht (h.rows t v hv).1 (fun b hb => hG _ ((h.rows t v hv).2.1 b hb)), (h.rows t v hv).2⟩⟩
theorem StAt.keep {G : Nat → Prop} (h : StAt F w s om S L N) (ht : Turn G w w') (hG : ∀ x, F x → ¬ G x) : StAt F w' s om S L N :=
  ⟨blk_keep ht h.blk (hG _ h.Fs), h.Fs, h.Fo, map_keep ht h.outer (hG _ h.Fo), fun k u hu => (h.ser k u hu).keep ht hG, h.apart, h.told, h.ok, h.ver, h.len, h.nb, fun x hx => Nat.lt_of_lt_of_le (h.lt x hx) ht.size⟩
theorem StAt.next (h : StAt F w s om S L N) (hb : Below w.heap.size w w') : StAt F w' s om S L N := h.keep (Turn.of (F := fun _ => False) hb) (fun _ _ h => h)
theorem StAt.more {M : Nat} (h : StAt F w s om S L N) (hm : N ≤ M) : StAt F w s om S L M :=
  ⟨h.blk, h.Fs, h.Fo, h.outer, h.ser, h.apart, h.told, h.ok, h.ver, h.len, ⟨Nat.le_trans h.nb.1 hm, fun k u hu => Nat.le_trans (h.nb.2 k u hu) hm⟩, h.lt⟩
/-- a store -/
def St (F : Nat → Prop) (w : World) (s : Nat) (L : List It) (N : Nat) : Prop := ∃ om S, StAt F w s om S L N
theorem St.keep {G : Nat → Prop} (h : St F w s L N) (ht : Turn G w w') (hG : ∀ x, F x → ¬ G x) : St F w' s L N := by
  obtain ⟨om, S, h⟩ := h
  exact ⟨om, S, h.keep ht hG⟩
theorem St.next (h : St F w s L N) (hb : Below w.heap.size w w') : St F w' s L N := by
  obtain ⟨om, S, h⟩ := h
  exact ⟨om, S, h.next hb⟩
theorem St.lt (h : St F w s L N) : ∀ x, F x → x < w.heap.size := by obtain ⟨om, S, h⟩ := h; exact h.lt
theorem lenL_mem {L : List It} {it : It} (h : it ∈ L) : it.l.length ≤ lenL L := by
  induction L with
  | nil => cases h
  | cons x L ih =>
    rw [lenL_cons]
    rcases List.mem_cons.1 h with rfl | h
    · omega
    · have := ih h; omega
/-- the chain at a place of a store -/
theorem StAt.chain (h : StAt F w s om S L N) {k : Lit} {u : Value} (hu : S.f k = some u) {z : Int} {v : Value} (hv : S.g k (litT z) = some v) :
    (⟨S.d k, z, S.l k (litT z)⟩ : It) ∈ L ∧ Chain (S.l k (litT z)) ∧ (S.l k (litT z)).length ≤ 65536 ∧ atL L (S.d k) z = S.l k (litT z) := by
  have hm : (⟨S.d k, z, S.l k (litT z)⟩ : It) ∈ L := (h.told _).2 ⟨k, u, z, v, hu, hv, rfl⟩
  exact ⟨hm, h.ok.chain _ hm, Nat.le_trans (lenL_mem hm) h.len, atL_of line_sets h.ok.rise hm⟩
theorem StAt.none (h : StAt F w s om S L N) {d : List Pr} {z : Int} (hd : RightP d) (hn : ∀ u v, S.f (.string (textL d)) = some u → S.g (.string (textL d)) (litT z) = some v → False) : atL L d z = [] := by
  rcases atL_mem (L := L) (s := d) (t := z) with e | ⟨it, hit, e1, e2, e3⟩
  · exact e
  · obtain ⟨k, u, z', v, hu, hv, rfl⟩ := (h.told it).1 hit
    simp only at e1 e2
    subst e1 e2
    have := (h.ser k u hu).key
    rw [← this] at hn
    exact (hn u v hu hv).elim

theorem lenL_nil : lenL ([] : List It) = 0 := rfl
theorem new_any (w : World) : Calls Tryz.prog 50 #[] w fun e w' => ∃ s, e = .returned (.pointer (some ⟨s, 0, none⟩)) ∧ St (fun x => w.heap.size ≤ x ∧ x < w'.heap.size) w' s [] 0 ∧ Below w.heap.size w w' := by
  have hmm := @run_makeMap Tryz.prog
  go_enter Tryz.func50, Tryz.ntmps50
  go_wp2_with fail
  go_ret
  refine ⟨_, rfl, ⟨w.heap.size, ⟨fun _ => none, 0, fun _ => 0, fun _ => .nilIface, fun _ => [], fun _ => 0, fun _ _ => none, fun _ => 0, fun _ _ => []⟩, ?_⟩, bel_alloc (below_alloc _ _)⟩
  have h3 := Blk.new (w.alloc (.map #[] 0)) #[.map (some w.heap.size), .int .i64 0] 233
  rw [World.size_alloc] at h3
  refine ⟨h3, ⟨by omega, by simp only [World.size_alloc]; omega⟩, ⟨Nat.le_refl _, by simp only [World.size_alloc]; omega⟩, (MapIs.made w Tryz.prog 9).alloc _, (fun k u h => by cases h), (fun k u k' u' h => by cases h), fun it => ?_, empty_ok, (fun it h => by cases h), (by rw [lenL_nil]; omega), ⟨Nat.le_refl _, (fun k u h => by cases h)⟩, fun x hx => hx.2⟩
  constructor
  · intro h; cases h
  · rintro ⟨k, u, z, v, h, _⟩; cases h
theorem len_any (w : World) (h : St F w s L N) : Calls Tryz.prog 129 #[.pointer (some ⟨s, 0, none⟩)] w fun e w' => e = .returned (.int .i64 (lenL L : Int)) ∧ w = w' := by
  obtain ⟨om, S, h⟩ := h
  have c1 : w.cell? ⟨s, 1, none⟩ = some (.int .i64 (lenL L : Int)) := h.blk.cell 1
  clear h
  go_enter Tryz.func129, Tryz.ntmps129
  go_wp2_with fail
  go_ret
  exact ⟨rfl, rfl⟩
end Go.Proofs.YtbaflgddpciadaaGreat
namespace Go.Proofs.YtbaflgddpciadaaGreat
open Go.RowKit Go.Kt Go.Ix Go.Sx
set_option maxRecDepth 100000
variable {F F' : Nat → Prop} {w w' : World} {s om : Nat} {S : Sp} {L : List It} {N : Nat}

theorem setL_told {L : List It} {d : List Pr} {z : Int} {c : List Ver} {it : It} : it ∈ setL ltS L d z c ↔ it = ⟨d, z, c⟩ ∨ (it ∈ L ∧ ¬ (it.set = d ∧ it.time = z)) := setL_mem line_sets
/-- a series that stands has one version more -/
theorem put_old {w1 w2 w3 : World} {k : Lit} {u v' : Value} {z : Int} {c : List Ver} {n2 n3 : Nat} (h : StAt F w s om S L N) (hu : S.f k = some u) (hz : 0 ≤ z ∧ z ≤ 4611686018427387904) (hb : Below w.heap.size w w1)
    (hv : OwnV 270 w1 v' c) (hv2 : ∀ b, v'.ownBlock = some b → w.heap.size ≤ b) (hc : Chain c) (hcl : c.length = (atL L (S.d k) z).length + 1) (hcv : ∀ x ∈ c, verR x)
    (hm2 : MapIs Tryz.prog 2 w2 (S.b k) (upd (S.g k) (litT z) v') n2) (hn2 : n2 ≤ S.c k + 1) (hg2 : w1.grownBy w2 (some (S.b k)))
    (hm3 : MapIs Tryz.prog 9 w3 om (upd S.f k u) n3) (hn3 : n3 = S.n) (hg3 : w2.grownBy w3 (some om)) (hlen : lenL L + 1 ≤ 65536) :
    ∃ F', StAt F' (w3.setCell ⟨s, 1, none⟩ (.int .i64 ((lenL L : Int) + 1))) s om { S with g := setX S.g k (upd (S.g k) (litT z) v'), c := setX S.c k n2, l := setX S.l k (setX (S.l k) (litT z) c) } (setL ltS L (S.d k) z c) (N + 1) ∧ (∀ x, F' x → F x ∨ w.heap.size ≤ x) ∧ (∀ x, F x → F' x) ∧ Turn F w (w3.setCell ⟨s, 1, none⟩ (.int .i64 ((lenL L : Int) + 1))) := by
  have hk := h.ser k u hu
  have h1 := h.next hb
  have hk1 := h1.ser k u hu
  rw [upd_id hu] at hm3
  subst hn3
  have hsz := hb.size
  -- the three blocks that turn
  let G : Nat → Prop := fun x => x = S.b k ∨ x = om ∨ x = s
  have hsoft : Soft w1 G := by
    rintro x (rfl | rfl | rfl)
    · exact .inl (map_is hk1.map)
    · exact .inl (map_is h1.outer)
    · exact .inr ⟨_, _, h1.blk⟩
  have t2 : Turn G w1 w2 := Turn.grown hg2 (fun b hb => .inl (by injection hb with hb; exact hb.symm))
  have t3 : Turn G w2 w3 := Turn.grown hg3 (fun b hb => .inr (.inl (by injection hb with hb; exact hb.symm)))
  have t23 : Turn G w1 w3 := t2.trans t3 (fun x hx => .inl hx)
  have t4 : Turn G w1 (w3.setCell ⟨s, 1, none⟩ (.int .i64 ((lenL L : Int) + 1))) := t23.set (.inr (.inr rfl)) _
  have hsb : s ≠ S.b k := blk_no_map h1.blk hk1.map
  have hso : s ≠ om := blk_no_map h1.blk h1.outer
  have hbs3 : Blk w3 s #[.map (some om), .int .i64 (lenL L : Int)] 233 := by
    have a2 : Blk w2 s #[.map (some om), .int .i64 (lenL L : Int)] 233 := h1.blk.grown hg2 (fun e => hsb (by injection e with e; exact e.symm))
    exact a2.grown hg3 (fun e => hso (by injection e with e; exact e.symm))
  have hbs4 := hbs3.set 1 (.int .i64 ((lenL L : Int) + 1))
  have hm4 : MapIs Tryz.prog 2 (w3.setCell ⟨s, 1, none⟩ (.int .i64 ((lenL L : Int) + 1))) (S.b k) (upd (S.g k) (litT z) v') n2 := (hm2.grown hg3 (fun e => hk.ne (by injection e))).setCell (a := ⟨s, 1, none⟩) (fun e => hsb e.symm) _
  have hm5 := hm3.setCell (a := ⟨s, 1, none⟩) (fun e => hso e.symm) (.int .i64 ((lenL L : Int) + 1))
  have hv4 : OwnV 270 (w3.setCell ⟨s, 1, none⟩ (.int .i64 ((lenL L : Int) + 1))) v' c := own_keep t4 hv (soft_own hsoft hv (by decide))
  have hst := h.ok
  have hlen2 : lenL (setL ltS L (S.d k) z c) = lenL L + 1 := by
    have := lenL_set line_sets h.ok.rise (S.d k) z c
    omega
  refine ⟨fun x => F x ∨ v'.ownBlock = some x, ⟨?_, .inl h.Fs, .inl h.Fo, hm5, ?_, ?_, ?_, ?_, ?_, by omega, ⟨Nat.le_succ_of_le h.nb.1, ?_⟩, ?_⟩, ?_, fun x hx => .inl hx, ?_⟩
  · rw [hlen2]
    exact hbs4
  · intro k' u' hu'
    have hu0 : S.f k' = some u' := hu'
    by_cases e : k' = k
    · subst e
      obtain rfl : u = u' := by rw [hu] at hu0; injection hu0
      have := hk1
      refine ⟨this.ptr, .inl this.Fx, blk_keep t4 this.blk (soft_blk hsoft this.blk (by decide)), own_keep t4 this.set (soft_own hsoft this.set (by decide)), fun b hb => .inl (this.Fs b hb), .inl this.Fb, this.ne, ?_, this.key, this.right, ?_⟩
      · show MapIs Tryz.prog 2 _ (S.b k') (setX S.g k' _ k') (setX S.c k' n2 k')
        rw [setX_same, setX_same]
        exact hm4
      · intro t v hv0
        have hv0 : setX S.g k' (upd (S.g k') (litT z) v') k' t = some v := hv0
        show OwnV 270 _ v (setX S.l k' (setX (S.l k') (litT z) c) k' t) ∧ _
        rw [setX_same] at hv0 ⊢
        by_cases et : t = litT z
        · subst et
          rw [upd_same] at hv0
          injection hv0 with hv0
          subst hv0
          rw [setX_same]
          exact ⟨hv4, fun b hb => .inr hb, z, rfl, hz⟩
        · rw [upd_other _ _ et] at hv0
          rw [setX_other _ _ et]
          obtain ⟨r1, r2, r3⟩ := this.rows t v hv0
          exact ⟨own_keep t4 r1 (soft_own hsoft r1 (by decide)), fun b hb => .inl (r2 b hb), r3⟩
    · have := (h1.ser k' u' hu0).soft t4 hsoft (by
        rintro (e2 | e2 | e2)
        · exact h.apart k' u' k u hu0 hu e e2
        · exact (h.ser k' u' hu0).ne e2
        · exact blk_no_map h1.blk (h1.ser k' u' hu0).map e2.symm)
      refine ⟨this.ptr, .inl this.Fx, this.blk, this.set, fun b hb => .inl (this.Fs b hb), .inl this.Fb, this.ne, ?_, this.key, this.right, ?_⟩
      · show MapIs Tryz.prog 2 _ (S.b k') (setX S.g k _ k') (setX S.c k n2 k')
        rw [setX_other _ _ e, setX_other _ _ e]
        exact this.map
      · intro t v hv0
        have hv0 : setX S.g k (upd (S.g k) (litT z) v') k' t = some v := hv0
        show OwnV 270 _ v (setX S.l k (setX (S.l k) (litT z) c) k' t) ∧ _
        rw [setX_other _ _ e] at hv0 ⊢
        obtain ⟨r1, r2, r3⟩ := this.rows t v hv0
        exact ⟨r1, fun b hb => .inl (r2 b hb), r3⟩
  · exact h.apart
  · intro it
    rw [setL_told]
    constructor
    · rintro (rfl | ⟨hm, hne⟩)
      · refine ⟨k, u, z, v', hu, ?_, ?_⟩
        · show setX S.g k _ k (litT z) = some v'
          rw [setX_same, upd_same]
        · show _ = (⟨S.d k, z, setX S.l k _ k (litT z)⟩ : It)
          rw [setX_same, setX_same]
      · obtain ⟨k', u', z', v, hu', hv0, rfl⟩ := (h.told it).1 hm
        refine ⟨k', u', z', v, hu', ?_, ?_⟩
        · show setX S.g k _ k' (litT z') = some v
          by_cases e : k' = k
          · subst e
            rw [setX_same]
            have hzz : litT z' ≠ litT z := fun e => hne ⟨rfl, litT_inj e⟩
            rw [upd_other _ _ hzz]
            exact hv0
          · rw [setX_other _ _ e]
            exact hv0
        · show _ = (⟨S.d k', z', setX S.l k _ k' (litT z')⟩ : It)
          by_cases e : k' = k
          · subst e
            have hzz : litT z' ≠ litT z := fun e => hne ⟨rfl, litT_inj e⟩
            rw [setX_same, setX_other _ _ hzz]
          · rw [setX_other _ _ e]
    · rintro ⟨k', u', z', v, hu', hv0, rfl⟩
      have hu' : S.f k' = some u' := hu'
      have hv0 : setX S.g k (upd (S.g k) (litT z) v') k' (litT z') = some v := hv0
      by_cases e : k' = k
      · subst e
        by_cases ez : z' = z
        · subst ez
          left
          show (⟨S.d k', z', setX S.l k' _ k' (litT z')⟩ : It) = _
          rw [setX_same, setX_same]
        · right
          have hzz : litT z' ≠ litT z := fun e => ez (litT_inj e)
          rw [setX_same, upd_other _ _ hzz] at hv0
          refine ⟨?_, fun e => ez e.2⟩
          show (⟨S.d k', z', setX S.l k' _ k' (litT z')⟩ : It) ∈ L
          rw [setX_same, setX_other _ _ hzz]
          exact (h.told _).2 ⟨k', u', z', v, hu', hv0, rfl⟩
      · right
        rw [setX_other _ _ e] at hv0
        refine ⟨?_, fun e2 => ?_⟩
        · show (⟨S.d k', z', setX S.l k _ k' (litT z')⟩ : It) ∈ L
          rw [setX_other _ _ e]
          exact (h.told _).2 ⟨k', u', z', v, hu', hv0, rfl⟩
        · have e3 : S.d k' = S.d k := e2.1
          have := (h.ser k' u' hu').key
          rw [e3, ← hk.key] at this
          exact e this
  · refine ⟨setL_rise line_sets h.ok.rise _ _ _, fun x hx => ?_, fun x hx => ?_⟩
    · rcases setL_told.1 hx with rfl | ⟨h1, -⟩
      · exact hc
      · exact h.ok.chain x h1
    · rcases setL_told.1 hx with rfl | ⟨h1, -⟩
      · intro e
        have e : c = [] := e
        rw [e] at hcl
        simp at hcl
      · exact h.ok.full x h1
  · intro it hit
    rcases setL_told.1 hit with rfl | ⟨h1, -⟩
    · exact hcv
    · exact h.ver it h1
  · intro k' u' hu'
    show setX S.c k n2 k' ≤ N + 1
    by_cases e : k' = k
    · rw [e, setX_same]
      have := h.nb.2 k u hu
      omega
    · rw [setX_other _ _ e]
      exact Nat.le_succ_of_le (h.nb.2 k' u' hu')
  · intro x hx
    have := t4.size
    rcases hx with hx | hx
    · have := h.lt x hx
      omega
    · exact hv4.lt x hx
  · intro x hx
    rcases hx with hx | hx
    · exact .inl hx
    · exact .inr (hv2 x hx)
  · refine ((Turn.of (F := F) hb).trans (t4.mono (G := F) ?_) (fun x hx => .inl hx))
    rintro x (rfl | rfl | rfl)
    · exact hk.Fb
    · exact h.Fo
    · exact h.Fs
end Go.Proofs.YtbaflgddpciadaaGreat
namespace Go.Proofs.YtbaflgddpciadaaGreat
open Go.RowKit Go.Kt Go.Ix Go.Sx
set_option maxRecDepth 100000
variable {F F' : Nat → Prop} {w w' : World} {s om : Nat} {S : Sp} {L : List It} {N : Nat}

/-- a series that is new, with one version -/
theorem put_new {w1 w2 w3 : World} {d : List Pr} {xb mb : Nat} {sv v' : Value} {z : Int} {c : List Ver} {n2 n3 : Nat} (h : StAt F w s om S L N) (hu : S.f (.string (textL d)) = none) (hd : RightP d) (hz : 0 ≤ z ∧ z ≤ 4611686018427387904) (hb : Below w.heap.size w w1)
    (hx : Blk w1 xb #[sv, .map (some mb)] 263) (hx2 : w.heap.size ≤ xb) (hs : OwnP 104 w1 sv d) (hs2 : ∀ b, sv.ownBlock = some b → w.heap.size ≤ b) (hmb : MapIs Tryz.prog 2 w1 mb (fun _ => none) 0) (hmb2 : w.heap.size ≤ mb)
    (hv : OwnV 270 w1 v' c) (hv2 : ∀ b, v'.ownBlock = some b → w.heap.size ≤ b) (hc : Chain c) (hcl : c.length = 1) (hcv : ∀ x ∈ c, verR x)
    (hm2 : MapIs Tryz.prog 2 w2 mb (upd (fun _ => none) (litT z) v') n2) (hn2 : n2 ≤ 1) (hg2 : w1.grownBy w2 (some mb))
    (hm3 : MapIs Tryz.prog 9 w3 om (upd S.f (.string (textL d)) (.pointer (some ⟨xb, 0, none⟩))) n3) (hn3 : n3 = S.n + 1) (hg3 : w2.grownBy w3 (some om)) (hlen : lenL L + 1 ≤ 65536) :
    ∃ F' S', StAt F' (w3.setCell ⟨s, 1, none⟩ (.int .i64 ((lenL L : Int) + 1))) s om S' (setL ltS L d z c) (N + 1) ∧ (∀ x, F' x → F x ∨ w.heap.size ≤ x) ∧ (∀ x, F x → F' x) ∧ Turn F w (w3.setCell ⟨s, 1, none⟩ (.int .i64 ((lenL L : Int) + 1))) := by
  have h1 := h.next hb
  subst hn3
  have hsz := hb.size
  obtain ⟨k, hk⟩ : ∃ k : Lit, k = .string (textL d) := ⟨_, rfl⟩
  rw [← hk] at hu hm3
  let G : Nat → Prop := fun x => x = mb ∨ x = om ∨ x = s
  have hsoft : Soft w1 G := by
    rintro x (rfl | rfl | rfl)
    · exact .inl (map_is hmb)
    · exact .inl (map_is h1.outer)
    · exact .inr ⟨_, _, h1.blk⟩
  have t2 : Turn G w1 w2 := Turn.grown hg2 (fun b hb => .inl (by injection hb with hb; exact hb.symm))
  have t3 : Turn G w2 w3 := Turn.grown hg3 (fun b hb => .inr (.inl (by injection hb with hb; exact hb.symm)))
  have t23 : Turn G w1 w3 := t2.trans t3 (fun x hx => .inl hx)
  have t4 : Turn G w1 (w3.setCell ⟨s, 1, none⟩ (.int .i64 ((lenL L : Int) + 1))) := t23.set (.inr (.inr rfl)) _
  have hslt := h.lt _ h.Fs
  have holt := h.lt _ h.Fo
  have hsb : s ≠ mb := by omega
  have hso : s ≠ om := blk_no_map h1.blk h1.outer
  have hbs3 : Blk w3 s #[.map (some om), .int .i64 (lenL L : Int)] 233 := by
    have a2 : Blk w2 s #[.map (some om), .int .i64 (lenL L : Int)] 233 := h1.blk.grown hg2 (fun e => hsb (by injection e with e; exact e.symm))
    exact a2.grown hg3 (fun e => hso (by injection e with e; exact e.symm))
  have hbs4 := hbs3.set 1 (.int .i64 ((lenL L : Int) + 1))
  have hm4 : MapIs Tryz.prog 2 (w3.setCell ⟨s, 1, none⟩ (.int .i64 ((lenL L : Int) + 1))) mb (upd (fun _ => none) (litT z) v') n2 := (hm2.grown hg3 (fun e => by injection e with e; omega)).setCell (a := ⟨s, 1, none⟩) (fun e => hsb e.symm) _
  have hm5 := hm3.setCell (a := ⟨s, 1, none⟩) (fun e => hso e.symm) (.int .i64 ((lenL L : Int) + 1))
  have hv4 : OwnV 270 (w3.setCell ⟨s, 1, none⟩ (.int .i64 ((lenL L : Int) + 1))) v' c := own_keep t4 hv (soft_own hsoft hv (by decide))
  have hnone : atL L d z = [] := h.none hd (fun u v hu' _ => by rw [← hk, hu] at hu'; cases hu')
  have hlen2 : lenL (setL ltS L d z c) = lenL L + 1 := by
    have := lenL_set line_sets h.ok.rise d z c
    rw [hnone] at this
    simp only [List.length_nil] at this
    omega
  have hne : ∀ k' u', S.f k' = some u' → k' ≠ k := fun k' u' hu' e => by rw [e, hu] at hu'; cases hu'
  refine ⟨fun x => F x ∨ v'.ownBlock = some x ∨ sv.ownBlock = some x ∨ x = mb ∨ x = xb, ⟨upd S.f k (.pointer (some ⟨xb, 0, none⟩)), S.n + 1, setX S.x k xb, setX S.sv k sv, setX S.d k d, setX S.b k mb, setX S.g k (upd (fun _ => none) (litT z) v'), setX S.c k n2, setX S.l k (setX (S.l k) (litT z) c)⟩, ⟨?_, .inl h.Fs, .inl h.Fo, hm5, ?_, ?_, ?_, ?_, ?_, by omega, ⟨Nat.succ_le_succ h.nb.1, ?_⟩, ?_⟩, ?_, fun x hx => .inl hx, ?_⟩
  · rw [hlen2]
    exact hbs4
  · intro k' u' hu'
    have hu0 : upd S.f k (.pointer (some ⟨xb, 0, none⟩)) k' = some u' := hu'
    by_cases e : k' = k
    · rw [e] at hu0 ⊢
      rw [upd_same] at hu0
      injection hu0 with hu0
      subst hu0
      refine ⟨?_, ?_, ?_, ?_, ?_, ?_, ?_, ?_, ?_, ?_, ?_⟩
      · show _ = Value.pointer (some ⟨setX S.x k xb k, 0, none⟩)
        rw [setX_same]
      · exact .inr (.inr (.inr (.inr (setX_same _ _ _))))
      · show Blk _ (setX S.x k xb k) #[setX S.sv k sv k, .map (some (setX S.b k mb k))] 263
        rw [setX_same, setX_same, setX_same]
        exact blk_keep t4 hx (soft_blk hsoft hx (by decide))
      · show OwnP 104 _ (setX S.sv k sv k) (setX S.d k d k)
        rw [setX_same, setX_same]
        exact own_keep t4 hs (soft_own hsoft hs (by decide))
      · show ∀ b, (setX S.sv k sv k).ownBlock = some b → _
        rw [setX_same]
        exact fun b hb => .inr (.inr (.inl hb))
      · exact .inr (.inr (.inr (.inl (setX_same _ _ _))))
      · show setX S.b k mb k ≠ om
        rw [setX_same]
        omega
      · show MapIs Tryz.prog 2 _ (setX S.b k mb k) (setX S.g k _ k) (setX S.c k n2 k)
        rw [setX_same, setX_same, setX_same]
        exact hm4
      · show k = .string (textL (setX S.d k d k))
        rw [setX_same]
        exact hk
      · show RightP (setX S.d k d k)
        rw [setX_same]
        exact hd
      · intro t v hv0
        have hv0 : setX S.g k (upd (fun _ => none) (litT z) v') k t = some v := hv0
        show OwnV 270 _ v (setX S.l k (setX (S.l k) (litT z) c) k t) ∧ _
        rw [setX_same] at hv0 ⊢
        by_cases et : t = litT z
        · subst et
          rw [upd_same] at hv0
          injection hv0 with hv0
          subst hv0
          rw [setX_same]
          exact ⟨hv4, fun b hb => .inr (.inl hb), z, rfl, hz⟩
        · rw [upd_other _ _ et] at hv0
          cases hv0
    · rw [upd_other _ _ e] at hu0
      have hk' := h.ser k' u' hu0
      have hbl := h.lt _ hk'.Fb
      have := (h1.ser k' u' hu0).soft t4 hsoft (by
        rintro (e2 | e2 | e2)
        · omega
        · exact hk'.ne e2
        · exact blk_no_map h1.blk (h1.ser k' u' hu0).map e2.symm)
      refine ⟨?_, ?_, ?_, ?_, ?_, ?_, ?_, ?_, ?_, ?_, ?_⟩
      · show _ = Value.pointer (some ⟨setX S.x k xb k', 0, none⟩)
        rw [setX_other _ _ e]; exact this.ptr
      · left
        show F (setX S.x k xb k')
        rw [setX_other _ _ e]; exact this.Fx
      · show Blk _ (setX S.x k xb k') #[setX S.sv k sv k', .map (some (setX S.b k mb k'))] 263
        rw [setX_other _ _ e, setX_other _ _ e, setX_other _ _ e]; exact this.blk
      · show OwnP 104 _ (setX S.sv k sv k') (setX S.d k d k')
        rw [setX_other _ _ e, setX_other _ _ e]; exact this.set
      · show ∀ b, (setX S.sv k sv k').ownBlock = some b → _
        rw [setX_other _ _ e]
        exact fun b hb => .inl (this.Fs b hb)
      · left
        show F (setX S.b k mb k')
        rw [setX_other _ _ e]; exact this.Fb
      · show setX S.b k mb k' ≠ om
        rw [setX_other _ _ e]; exact this.ne
      · show MapIs Tryz.prog 2 _ (setX S.b k mb k') (setX S.g k _ k') (setX S.c k n2 k')
        rw [setX_other _ _ e, setX_other _ _ e, setX_other _ _ e]; exact this.map
      · show k' = .string (textL (setX S.d k d k'))
        rw [setX_other _ _ e]; exact this.key
      · show RightP (setX S.d k d k')
        rw [setX_other _ _ e]; exact this.right
      · intro t v hv0
        have hv0 : setX S.g k (upd (fun _ => none) (litT z) v') k' t = some v := hv0
        show OwnV 270 _ v (setX S.l k (setX (S.l k) (litT z) c) k' t) ∧ _
        rw [setX_other _ _ e] at hv0 ⊢
        obtain ⟨r1, r2, r3⟩ := this.rows t v hv0
        exact ⟨r1, fun b hb => .inl (r2 b hb), r3⟩
  · intro k1 u1 k2 u2 h1' h2' hne12
    have h1' : upd S.f k (.pointer (some ⟨xb, 0, none⟩)) k1 = some u1 := h1'
    have h2' : upd S.f k (.pointer (some ⟨xb, 0, none⟩)) k2 = some u2 := h2'
    show setX S.b k mb k1 ≠ setX S.b k mb k2
    by_cases e1 : k1 = k
    · have e2 : k2 ≠ k := fun e => hne12 (by rw [e1, e])
      rw [upd_other _ _ e2] at h2'
      rw [e1, setX_same, setX_other _ _ e2]
      have := h.lt _ (h.ser k2 u2 h2').Fb
      omega
    · rw [upd_other _ _ e1] at h1'
      rw [setX_other _ _ e1]
      by_cases e2 : k2 = k
      · rw [e2, setX_same]
        have := h.lt _ (h.ser k1 u1 h1').Fb
        omega
      · rw [upd_other _ _ e2] at h2'
        rw [setX_other _ _ e2]
        exact h.apart k1 u1 k2 u2 h1' h2' hne12
  · intro it
    rw [setL_told]
    constructor
    · rintro (rfl | ⟨hm, -⟩)
      · refine ⟨k, .pointer (some ⟨xb, 0, none⟩), z, v', upd_same _ _ _, ?_, ?_⟩
        · show setX S.g k _ k (litT z) = some v'
          rw [setX_same, upd_same]
        · show _ = (⟨setX S.d k d k, z, setX S.l k _ k (litT z)⟩ : It)
          rw [setX_same, setX_same, setX_same]
      · obtain ⟨k', u', z', v, hu', hv0, rfl⟩ := (h.told it).1 hm
        have e := hne k' u' hu'
        refine ⟨k', u', z', v, ?_, ?_, ?_⟩
        · show upd S.f k _ k' = some u'
          rw [upd_other _ _ e]; exact hu'
        · show setX S.g k _ k' (litT z') = some v
          rw [setX_other _ _ e]; exact hv0
        · show _ = (⟨setX S.d k d k', z', setX S.l k _ k' (litT z')⟩ : It)
          rw [setX_other _ _ e, setX_other _ _ e]
    · rintro ⟨k', u', z', v, hu', hv0, rfl⟩
      have hu' : upd S.f k (.pointer (some ⟨xb, 0, none⟩)) k' = some u' := hu'
      have hv0 : setX S.g k (upd (fun _ => none) (litT z) v') k' (litT z') = some v := hv0
      show (⟨setX S.d k d k', z', setX S.l k _ k' (litT z')⟩ : It) = _ ∨ _
      by_cases e : k' = k
      · left
        rw [e, setX_same] at hv0
        rw [e, setX_same, setX_same]
        by_cases ez : z' = z
        · rw [ez, setX_same]
        · have hzz : litT z' ≠ litT z := fun e => ez (litT_inj e)
          rw [upd_other _ _ hzz] at hv0
          cases hv0
      · right
        rw [setX_other _ _ e] at hv0
        rw [upd_other _ _ e] at hu'
        show (⟨setX S.d k d k', z', setX S.l k _ k' (litT z')⟩ : It) ∈ L ∧ ¬ (setX S.d k d k' = d ∧ z' = z)
        rw [setX_other _ _ e, setX_other _ _ e]
        refine ⟨(h.told _).2 ⟨k', u', z', v, hu', hv0, rfl⟩, fun e2 => ?_⟩
        have := (h.ser k' u' hu').key
        rw [e2.1, ← hk] at this
        exact e this
  · refine ⟨setL_rise line_sets h.ok.rise _ _ _, fun x hx => ?_, fun x hx => ?_⟩
    · rcases setL_told.1 hx with rfl | ⟨h1, -⟩
      · exact hc
      · exact h.ok.chain x h1
    · rcases setL_told.1 hx with rfl | ⟨h1, -⟩
      · intro e
        have e : c = [] := e
        rw [e] at hcl
        simp at hcl
      · exact h.ok.full x h1
  · intro it hit
    rcases setL_told.1 hit with rfl | ⟨h1, -⟩
    · exact hcv
    · exact h.ver it h1
  · intro k' u' hu'
    have hu' : upd S.f k (.pointer (some ⟨xb, 0, none⟩)) k' = some u' := hu'
    show setX S.c k n2 k' ≤ N + 1
    by_cases e : k' = k
    · rw [e, setX_same]
      omega
    · rw [setX_other _ _ e]
      rw [upd_other _ _ e] at hu'
      exact Nat.le_succ_of_le (h.nb.2 k' u' hu')
  · intro x hx2
    have hs4 := t4.size
    rcases hx2 with hx2 | hx2 | hx2 | rfl | rfl
    · have := h.lt x hx2
      omega
    · exact hv4.lt x hx2
    · have := hs.lt x hx2
      omega
    · have := hmb.lt
      omega
    · have := hx.lt
      omega
  · intro x hx'
    rcases hx' with hx' | hx' | hx' | rfl | rfl
    · exact .inl hx'
    · exact .inr (hv2 x hx')
    · exact .inr (hs2 x hx')
    · exact .inr hmb2
    · exact .inr hx2
  · refine (Turn.of (F := F) hb).trans t4 ?_
    rintro x (rfl | rfl | rfl)
    · exact .inr hmb2
    · exact .inl h.Fo
    · exact .inl h.Fs
end Go.Proofs.YtbaflgddpciadaaGreat
