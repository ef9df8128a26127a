/- The document's rules: law06.To (20), Right (23), Get (48), Stands (65), One (56), All (41); SameInts (22). -/
import Derived.Test.YtmmilgcbjpbelaaWK
import Derived.WalkSpells
namespace Go.Proofs.Ytmmilgcbjpbelaa
open Go.RowKit Go.Kt Go.Ix

theorem toList_inj {a b : ByteArray} (h : a.toList = b.toList) : a = b := by
  rw [Lib.toList_data, Lib.toList_data] at h
  exact bl_inj h
theorem ok56 : ElemOk Try.prog 56 104 (.agg #[.string ⟨#[]⟩, .int .i64 0, .string ⟨#[]⟩]) 3 40 := ⟨Try.underlying56, info_parts (by kernel_rfl), rfl, by decide⟩
theorem ok45 : ElemOk Try.prog 45 96 (.agg #[.string ⟨#[]⟩, .int .i64 0, .string ⟨#[]⟩]) 3 40 := ⟨Try.underlying45, info_parts (by kernel_rfl), rfl, by decide⟩
theorem rule_one (r : Rl) : ∀ u ∈ (#[Value.string r.n, Value.int .i64 r.op, Value.string r.v] : Array Value).toList, u.oneCell' = true := by
  intro u hu
  simp only [List.mem_cons, List.not_mem_nil, or_false] at hu
  rcases hu with rfl | rfl | rfl <;> rfl
def MineR (e : TypeId) (w0 w : World) (v : Value) (l : List Rl) : Prop := Mine e 3 w0 w v l.length (flatR l)
theorem MineR.rd {e : TypeId} {w0 w : World} {v : Value} {l : List Rl} (h : MineR e w0 w v l) : RdR w v l := h.1.rd

set_option maxHeartbeats 1000000 in
theorem rto_any (v : Value) (l : List Rl) (w : World) (hv : RdR w v l) (hlen : l.length ≤ 1048576) :
    Calls Try.prog 20 #[v] w fun e w' => ∃ v', e = .returned v' ∧ MineR 104 w w' v' l := by
  obtain ⟨a, cap, rfl, hcap, hbig, hcell⟩ := hv.open
  have Hcell := Lib.hid hcell
  clear hcell hv
  go_enter Try.func20, Try.ntmps20
  go_wp2_with fail
  go_loopw [3, 5, 8] (fun v _ i wr => ∃ k : Nat, k ≤ l.length ∧ i = .int .i64 k ∧ Hid (MineR 104 w wr v (l.take k))) (fun _ _ i _ => l.length - (intOf i).toNat)
  case atStart => exact ⟨0, by omega, rfl, Lib.hid (mine_nil 104 3 w)⟩
  case round =>
    obtain ⟨k, hk, rfl, HM⟩ := hrel
    by_cases hlt : k < l.length
    · obtain ⟨p, hp⟩ : ∃ x, l[k]? = some x := ⟨l[k], List.getElem?_eq_getElem hlt⟩
      obtain ⟨b, o, rfl, lb, c1, c2, c3⟩ := Hcell.out k p hp
      have c1' : wr.cell? ⟨b, o + k * 3, none⟩ = some (.string p.n) := (HM.out.2.2.cell (p := ⟨b, o + k * 3, none⟩) lb).trans c1
      have c2' : wr.cell? ⟨b, o + k * 3 + 1, none⟩ = some (.int .i64 p.op) := (HM.out.2.2.cell (p := ⟨b, o + k * 3 + 1, none⟩) lb).trans c2
      have c3' : wr.cell? ⟨b, o + k * 3 + 2, none⟩ = some (.string p.v) := (HM.out.2.2.cell (p := ⟨b, o + k * 3 + 2, none⟩) lb).trans c3
      have HT := Lib.hid (flatR_take l k p hp)
      have Hkl : Hid ((l.take k).length = k) := Lib.hid (by rw [List.length_take]; omega)
      clear c1 c2 c3 hp lb
      go_wp2_with (at_builtin; apply Hold.mk)
      unfold Hold
      refine mine_app rfl _ _ 56 rfl ok56 (by rfl) (by rfl) HM.out (by repeat (first | exact bel_refl _ | apply bel_alloc | apply bel_drew)) (by exact rd_lit 3 #[.string p.n, .int .i64 p.op, .string p.v] 1 (by simp) one_le rfl) (rule_one p) (by rw [Hkl.out]; simp only [maxLen]; omega) (by rw [Hkl.out]; omega) ?_
      intro v7 w7 hm7 hg7
      rw [Hkl.out, show (#[Value.string p.n, .int .i64 p.op, Value.string p.v] : Array Value).toList = [.string p.n, .int .i64 p.op, .string p.v] from rfl, ← HT.out] at hm7
      have HM7 : Hid (MineR 104 w w7 v7 (l.take (k + 1))) := Lib.hid (by unfold MineR; rw [List.length_take, Nat.min_eq_left (by omega)]; exact hm7)
      clear hm7 hg7
      go_wp2_with fail
      go_roundw
      case rel => exact ⟨k + 1, by omega, by go_num, HM7⟩
      case measure => simp [intOf]; omega
    · obtain rfl : k = l.length := by omega
      rw [List.take_length] at HM
      go_wp2_with fail
      go_ret
      exact ⟨_, rfl, HM.out⟩

set_option maxHeartbeats 1000000 in
theorem get_any (v : Value) (l : List Pr) (nm : ByteArray) (w : World) (hv : RdP w v l) :
    Calls Try.prog 48 #[v, .string nm] w fun e w' => e = .returned (.string (getL l nm)) ∧ w = w' := by
  obtain ⟨a, cap, rfl, hcap, hbig, hcell⟩ := hv.open
  have Hcell := Lib.hid hcell
  clear hcell hv
  go_enter Try.func48, Try.ntmps48
  go_wp2_with fail
  go_loop [5] (fun i => ∃ k : Nat, k ≤ l.length ∧ i = .int .i64 k ∧ Hid (getL l nm = getL (l.drop k) nm)) (fun i => l.length - (intOf i).toNat)
  case atStart => exact ⟨0, by omega, rfl, Lib.hid rfl⟩
  case round =>
    obtain ⟨k, hk, rfl, HG⟩ := hrel
    by_cases hlt : k < l.length
    · obtain ⟨p, hp⟩ : ∃ x, l[k]? = some x := ⟨l[k], List.getElem?_eq_getElem hlt⟩
      obtain ⟨b, o, rfl, c1, c2⟩ := Hcell.out k p hp
      have hk1 : (0 : Int) ≤ (k : Int) := by omega
      have hk2 : (k : Int) < (l.length : Int) := by omega
      have HD : Hid (getL (l.drop k) nm = if p.n = nm then p.v else getL (l.drop (k + 1)) nm) := Lib.hid (by
        obtain ⟨hk', e⟩ := List.getElem?_eq_some_iff.1 hp
        rw [List.drop_eq_getElem_cons hk', getL, e])
      clear hp
      by_cases hn : p.n = nm
      · have hb : (p.n.toList == nm.toList) = true := by rw [hn]; simp
        have HD2 : Hid (getL l nm = p.v) := Lib.hid (by rw [HG.out, HD.out, if_pos hn])
        clear hn HD
        go_wp2_with fail
        go_ret
        rw [HD2.out]
        exact ⟨rfl, rfl⟩
      · have hb : (p.n.toList == nm.toList) = false := by
          rw [beq_eq_false_iff_ne]
          exact fun e => hn (toList_inj e)
        have HD2 : Hid (getL l nm = getL (l.drop (k + 1)) nm) := Lib.hid (by rw [HG.out, HD.out, if_neg hn])
        clear hn HD
        go_wp2_with fail
        go_round
        case rel => exact ⟨k + 1, by omega, by go_num, HD2⟩
        case measure => simp [intOf]; omega
    · obtain rfl : k = l.length := by omega
      have HD2 : Hid (getL l nm = ⟨#[]⟩) := Lib.hid (by rw [HG.out, List.drop_length]; rfl)
      go_wp2_with fail
      go_ret
      rw [HD2.out]
      exact ⟨rfl, rfl⟩

theorem stands_any (s p : ByteArray) (i : Nat) (w : World) (hi : i ≤ s.size) (hs : s.size ≤ 1000000) (hp : p.size ≤ maxLen) :
    Calls Try.prog 65 #[.string s, .int .i64 (i : Int), .string p] w fun e w' => e = .returned (.bool (Lib.occAt (bl s) (bl p) i)) ∧ w = w' := by
  unfold maxLen at hp
  by_cases h : i + p.size ≤ s.size
  · have h1 : decide ((i : Int) ≤ (s.size : Int) - (p.size : Int)) = true := by simp only [decide_eq_true_eq]; omega
    have he : Lib.occAt (bl s) (bl p) i = ((s.extract i (i + p.size)).toList == p.toList) := by
      rw [Lib.occAt_iff_take _ _ _ (by rw [bl_len, bl_len]; exact h), Lib.extract_toList, Lib.toList_data, bl_len, Nat.add_sub_cancel_left]
      rfl
    rw [he]
    clear he
    go_enter Try.func65, Try.ntmps65
    go_wp2_with fail
    go_ret
    exact ⟨rfl, rfl⟩
  · have h1 : decide ((i : Int) ≤ (s.size : Int) - (p.size : Int)) = false := by simp only [decide_eq_false_iff_not]; omega
    have he : Lib.occAt (bl s) (bl p) i = false := by
      cases ho : Lib.occAt (bl s) (bl p) i with
      | false => rfl
      | true =>
        rcases Lib.occAt_room ho with h2 | h2
        · rw [bl_len, bl_len] at h2; omega
        · have := bl_len p; rw [h2] at this; simp only [List.length_nil] at this; omega
    rw [he]
    clear he
    go_enter Try.func65, Try.ntmps65
    go_wp2_with fail
    go_ret
    exact ⟨rfl, rfl⟩

/-- whether a text stands at some place from k on -/
def occFrom (s p : List UInt8) (k : Nat) : Prop := ∃ i, k ≤ i ∧ i ≤ s.length ∧ Lib.occAt s p i = true
theorem contains_iff (s p : List UInt8) : Lib.contains s p = true ↔ occFrom s p 0 := by
  unfold Lib.contains
  rw [decide_eq_true_eq]
  rcases Lib.index_spec s p with ⟨h1, h2⟩ | ⟨i, h1, h2, h3, _⟩
  · constructor
    · intro h; omega
    · rintro ⟨i, _, hi, h⟩
      rw [h2 i hi] at h
      cases h
  · exact ⟨fun _ => ⟨i, Nat.zero_le _, h2, h3⟩, fun _ => by omega⟩

set_option maxHeartbeats 1000000 in
theorem one_ref (r : Rl) (v : Value) (l : List Pr) (w : World) (hv : RdP w v l) (hr : 1 ≤ r.op ∧ r.op ≤ 4) (hs : r.v.size ≤ maxLen) (hg : (getL l r.n).size ≤ 1000000) :
    Calls Try.prog 56 #[ragg r, v] w fun e w' => e = .returned (.bool (holdsB r (getL l r.n))) ∧ Below w.heap.size w w' := by
  obtain ⟨a, cap, rfl, _⟩ := hv.open
  have HV := Lib.hid hv
  have HS := Lib.hid hs
  have HG := Lib.hid hg
  clear hv hs hg
  obtain ⟨n, op, rv⟩ := r
  simp only at hr HS HG
  unfold ragg
  simp only
  have hc : op = 1 ∨ op = 2 ∨ op = 3 ∨ op = 4 := by omega
  rcases hc with rfl | rfl | rfl | rfl
  · clear hr
    have hh : ∀ x, holdsB ⟨n, 1, rv⟩ x = (x.toList == rv.toList) := fun x => by simp [holdsB]
    rw [hh]
    clear hh
    go_enter Try.func56, Try.ntmps56
    go_wp2_with (first | (go_at_call 48; refine (get_any (.slice a l.length cap) l n _ (HV.out.below (below_alloc w _))).mono ?_; rintro e w2 ⟨rfl, rfl⟩) | fail)
    go_ret
    exact ⟨rfl, by repeat (first | exact bel_refl _ | apply bel_drewN | apply bel_alloc | apply bel_drew)⟩
  · clear hr
    have hh : ∀ x, holdsB ⟨n, 2, rv⟩ x = !(x.toList == rv.toList) := fun x => by simp [holdsB]
    rw [hh]
    clear hh
    go_enter Try.func56, Try.ntmps56
    go_wp2_with (first | (go_at_call 48; refine (get_any (.slice a l.length cap) l n _ (HV.out.below (below_alloc w _))).mono ?_; rintro e w2 ⟨rfl, rfl⟩) | fail)
    go_ret
    exact ⟨rfl, by repeat (first | exact bel_refl _ | apply bel_drewN | apply bel_alloc | apply bel_drew)⟩
  · clear hr
    have hh : ∀ x, holdsB ⟨n, 3, rv⟩ x = Lib.occAt (bl x) (bl rv) 0 := fun x => by simp [holdsB, Lib.hasPrefix, Lib.occAt]
    rw [hh]
    clear hh
    go_enter Try.func56, Try.ntmps56
    go_wp2_with (first
      | (go_at_call 48; refine (get_any (.slice a l.length cap) l n _ (HV.out.below (below_alloc w _))).mono ?_; rintro e w2 ⟨rfl, rfl⟩)
      | (go_at_call 65; refine (stands_any (getL l n) rv 0 _ (Nat.zero_le _) HG.out HS.out).mono ?_; rintro e w3 ⟨rfl, rfl⟩)
      | fail)
    go_ret
    exact ⟨rfl, by repeat (first | exact bel_refl _ | apply bel_drewN | apply bel_alloc | apply bel_drew)⟩
  · clear hr
    have hh : ∀ x, holdsB ⟨n, 4, rv⟩ x = Lib.contains (bl x) (bl rv) := fun x => by simp [holdsB]
    rw [hh]
    clear hh
    obtain ⟨z, hz⟩ : ∃ z, getL l n = z := ⟨_, rfl⟩
    rw [hz] at HG ⊢
    have HZ := Lib.hid hz
    clear hz
    go_enter Try.func56, Try.ntmps56
    go_wp2_with (first
      | (go_at_call 48; refine (get_any (.slice a l.length cap) l n _ (HV.out.below (below_alloc w _))).mono ?_; rintro e w2 ⟨rfl, rfl⟩; rw [HZ.out])
      | fail)
    have HB : Hid (Below w.heap.size w (w.alloc (.cells #[.string n, .int .i64 4, .string rv] 96))) := Lib.hid (below_alloc w _)
    go_loop [6] (fun i => ∃ k : Nat, k ≤ z.size + 1 ∧ i = .int .i64 k ∧ Hid (∀ j, j < k → Lib.occAt (bl z) (bl rv) j = false)) (fun i => z.size + 1 - (intOf i).toNat)
    case atStart => exact ⟨0, by omega, rfl, Lib.hid (fun j hj => by omega)⟩
    case round =>
      obtain ⟨k, hk, rfl, HO⟩ := hrel
      have hg6 : z.size ≤ 1000000 := HG.out
      by_cases hlt : k ≤ z.size
      · cases ho : Lib.occAt (bl z) (bl rv) k with
        | true =>
          have HE : Hid (Lib.contains (bl z) (bl rv) = true) := Lib.hid ((contains_iff _ _).2 ⟨k, Nat.zero_le _, by rw [bl_len]; exact hlt, ho⟩)
          have HOk := Lib.hid ho
          clear ho
          go_wp2_with (first
            | (go_at_call 65; refine (stands_any z rv k _ hlt HG.out HS.out).mono ?_; rintro e w3 ⟨rfl, rfl⟩; rw [HOk.out])
            | fail)
          go_ret
          exact ⟨(congrArg (fun b => Ending.returned (.bool b)) HE.out).symm, HB.out⟩
        | false =>
          have HOk := Lib.hid ho
          clear ho
          go_wp2_with (first
            | (go_at_call 65; refine (stands_any z rv k _ hlt HG.out HS.out).mono ?_; rintro e w3 ⟨rfl, rfl⟩; rw [HOk.out])
            | fail)
          go_round
          case rel => exact ⟨k + 1, by omega, by go_num, Lib.hid (fun j hj => by
            by_cases e : j = k
            · rw [e]; exact HOk.out
            · exact HO.out j (by omega))⟩
          case measure => simp [intOf]; omega
      · obtain rfl : k = z.size + 1 := by omega
        have HE : Hid (Lib.contains (bl z) (bl rv) = false) := Lib.hid (by
          cases hcn : Lib.contains (bl z) (bl rv) with
          | false => rfl
          | true =>
            obtain ⟨i, _, hi, h⟩ := (contains_iff _ _).1 hcn
            rw [bl_len] at hi
            rw [HO.out i (by omega)] at h
            cases h)
        go_wp2_with fail
        go_ret
        exact ⟨(congrArg (fun b => Ending.returned (.bool b)) HE.out).symm, HB.out⟩

set_option maxHeartbeats 1000000 in
theorem all_ref (v u : Value) (l : List Rl) (d : List Pr) (w : World) (hv : RdR w v l) (hu : RdP w u d) (hr : ∀ r ∈ l, 1 ≤ r.op ∧ r.op ≤ 4) (hf : FitR l) (hg : ∀ nm, (getL d nm).size ≤ 1000000) :
    Calls Try.prog 41 #[v, u] w fun e w' => e = .returned (.bool (allB l d)) ∧ Below w.heap.size w w' := by
  obtain ⟨a, cap, rfl, hcap, hbig, hcell⟩ := hv.open
  obtain ⟨ua, ucap, rfl, _⟩ := hu.open
  have Hcell := Lib.hid hcell
  have HU := Lib.hid hu
  have HR := Lib.hid hr
  have HF := Lib.hid hf
  have HG := Lib.hid hg
  clear hcell hv hu hr hf hg
  go_enter Try.func41, Try.ntmps41
  go_wp2_with fail
  go_loopw [5] (fun i wr => ∃ k : Nat, k ≤ l.length ∧ i = .int .i64 k ∧ Hid (allB (l.take k) d = true) ∧ Hid (Below w.heap.size w wr)) (fun i _ => l.length - (intOf i).toNat)
  case atStart => exact ⟨0, by omega, rfl, Lib.hid rfl, Lib.hid (bel_refl w)⟩
  case round =>
    obtain ⟨k, hk, rfl, HA, HB⟩ := hrel
    by_cases hlt : k < l.length
    · obtain ⟨r, hr⟩ : ∃ x, l[k]? = some x := ⟨l[k], List.getElem?_eq_getElem hlt⟩
      obtain ⟨b, o, rfl, lb, c0, c1, c2⟩ := Hcell.out k r hr
      have c0' : wr.cell? ⟨b, o + k * 3, none⟩ = some (.string r.n) := (HB.out.cell (p := ⟨b, o + k * 3, none⟩) lb).trans c0
      have c1' : wr.cell? ⟨b, o + k * 3 + 1, none⟩ = some (.int .i64 r.op) := (HB.out.cell (p := ⟨b, o + k * 3 + 1, none⟩) lb).trans c1
      have c2' : wr.cell? ⟨b, o + k * 3 + 2, none⟩ = some (.string r.v) := (HB.out.cell (p := ⟨b, o + k * 3 + 2, none⟩) lb).trans c2
      have HOp := Lib.hid (HR.out r (List.mem_of_getElem? hr))
      have HFr := Lib.hid (HF.out r (List.mem_of_getElem? hr))
      have HN := Lib.hid (allB_next hr d)
      have hk1 : (0 : Int) ≤ (k : Int) := by omega
      have hk2 : (k : Int) < (l.length : Int) := by omega
      have hbad : Hid (holdsB r (getL d r.n) = false → allB l d = false) := Lib.hid (fun h => by
        unfold allB
        rw [List.all_eq_false]
        exact ⟨r, List.mem_of_getElem? hr, by rw [h]; simp⟩)
      clear c0 c1 c2 hr lb
      cases hh : holdsB r (getL d r.n) with
      | true =>
        have HH := Lib.hid hh
        clear hh
        go_wp2_with (first
          | (go_at_call 56; refine (one_ref r (.slice ua d.length ucap) d _ (HU.out.below HB.out) HOp.out HFr.out.2 (HG.out _)).mono ?_; rintro e w3 ⟨rfl, hb3⟩; rw [HH.out]; have HB3 := Lib.hid (bel_trans HB.out hb3); clear hb3)
          | fail)
        go_roundw
        case rel => exact ⟨k + 1, by omega, by go_num, Lib.hid (by rw [HN.out, HA.out, HH.out]; rfl), HB3⟩
        case measure => simp [intOf]; omega
      | false =>
        have HH := Lib.hid hh
        clear hh
        go_wp2_with (first
          | (go_at_call 56; refine (one_ref r (.slice ua d.length ucap) d _ (HU.out.below HB.out) HOp.out HFr.out.2 (HG.out _)).mono ?_; rintro e w3 ⟨rfl, hb3⟩; rw [HH.out]; have HB3 := Lib.hid (bel_trans HB.out hb3); clear hb3)
          | fail)
        go_ret
        exact ⟨(congrArg (fun b => Ending.returned (.bool b)) (hbad.out HH.out)).symm, HB3.out⟩
    · obtain rfl : k = l.length := by omega
      rw [List.take_length] at HA
      go_wp2_with fail
      go_ret
      exact ⟨(congrArg (fun b => Ending.returned (.bool b)) HA.out).symm, HB.out⟩

/-- numbers that are read -/
def RdN (w : World) (v : Value) (l : List Nat) : Prop := RdRow 1 w v l.length (ints l)
theorem RdN.open {w : World} {v : Value} {l : List Nat} (h : RdN w v l) : ∃ a cap, v = .slice a l.length cap ∧ l.length ≤ cap ∧ cap ≤ 9223372036854775807 ∧ ∀ (i : Nat) (x : Nat), l[i]? = some x → ∃ b o, a = some ⟨b, o, none⟩ ∧ w.cell? ⟨b, o + i, none⟩ = some (.int .i64 (x : Int)) := by
  obtain ⟨_, a, cap, rfl, h1, h2, _, h5⟩ := h
  exact ⟨a, cap, rfl, h1, h2, fun i x hi => h5 i _ (by simp [ints, hi])⟩
set_option maxHeartbeats 1000000 in
theorem sameints_yes (v u : Value) (l : List Nat) (w : World) (hv : RdN w v l) (hu : RdN w u l) :
    Calls Try.prog 22 #[v, u] w fun e w' => e = .returned (.bool true) ∧ ∃ n, w' = w.drewN n := by
  obtain ⟨a, cap, rfl, hcap, hbig, hcell⟩ := hv.open
  obtain ⟨ua, ucap, rfl, hucap, hubig, hucell⟩ := hu.open
  have Hcell := Lib.hid hcell
  have Hucell := Lib.hid hucell
  clear hcell hv hu hucell
  go_enter Try.func22, Try.ntmps22
  go_wp2_with fail
  go_loopw [5] (fun i wr => ∃ k n : Nat, k ≤ l.length ∧ i = .int .i64 k ∧ wr = w.drewN n) (fun i _ => l.length - (intOf i).toNat)
  case atStart => exact ⟨0, 0, by omega, rfl, rfl⟩
  case round =>
    obtain ⟨k, n, hk, rfl, rfl⟩ := hrel
    by_cases hlt : k < l.length
    · obtain ⟨r, hr⟩ : ∃ x, l[k]? = some x := ⟨l[k], List.getElem?_eq_getElem hlt⟩
      obtain ⟨b, o, rfl, c0⟩ := Hcell.out k r hr
      obtain ⟨b2, o2, rfl, c1⟩ := Hucell.out k r hr
      have hk1 : (0 : Int) ≤ (k : Int) := by omega
      have hk2 : (k : Int) < (l.length : Int) := by omega
      clear hr
      go_wp2_with fail
      go_quiet (fail)
      go_wp2_with fail
      go_roundw
      case rel => exact ⟨k + 1, _, by omega, by go_num, rfl⟩
      case measure => simp [intOf]; omega
    · obtain rfl : k = l.length := by omega
      go_wp2_with fail
      go_ret
      exact ⟨rfl, n, rfl⟩
end Go.Proofs.Ytmmilgcbjpbelaa
