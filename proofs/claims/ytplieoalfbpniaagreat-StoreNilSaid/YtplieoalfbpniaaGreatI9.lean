/- Rules: law06.To (21), the document (100, 101, 78, 56). -/
import Derived.Test.YtplieoalfbpniaaGreatI8
import Derived.Test.YtplieoalfbpniaaGreatS2
import Derived.WideKeyEntry
import Derived.Maps.RangeWalk
import Derived.Sort.MapsRangeIn
import Derived.Laws.IdiomRangeMap
import Derived.StillTailTactics
import Derived.Lib.SmallJoins
import Derived.WalkSpells
import Derived.Laws.OwnMore
namespace Go.Proofs.YtplieoalfbpniaaGreat
open Go.RowKit Go.Kt Go.Ix
set_option maxRecDepth 100000

/-- a rule -/
structure Rl where
  n : ByteArray
  op : Int
  v : ByteArray
def flatR : List Rl → List Value
  | [] => []
  | r :: t => .string r.n :: .int .i64 r.op :: .string r.v :: flatR t
theorem flatR_len (T : List Rl) : (flatR T).length = T.length * 3 := by
  induction T with
  | nil => rfl
  | cons x t ih => simp only [flatR, List.length_cons, ih]; omega
theorem flatR_append (T S : List Rl) : flatR (T ++ S) = flatR T ++ flatR S := by
  induction T with
  | nil => rfl
  | cons x t ih => simp only [List.cons_append, flatR, ih]
theorem flatR_get (T : List Rl) : ∀ (i : Nat) (x : Rl), T[i]? = some x → (flatR T)[i * 3]? = some (.string x.n) ∧ (flatR T)[i * 3 + 1]? = some (.int .i64 x.op) ∧ (flatR T)[i * 3 + 2]? = some (.string x.v) := by
  induction T with
  | nil => intro i x h; simp at h
  | cons y t ih =>
    intro i x h
    match i with
    | 0 => simp at h; subst h; exact ⟨rfl, rfl, rfl⟩
    | i + 1 =>
      simp only [List.getElem?_cons_succ] at h
      have := ih i x h
      rw [show (i + 1) * 3 = i * 3 + 1 + 1 + 1 by omega]
      exact this
theorem flatR_take (T : List Rl) (k : Nat) (x : Rl) (h : T[k]? = some x) : flatR (T.take (k + 1)) = flatR (T.take k) ++ [.string x.n, .int .i64 x.op, .string x.v] := by
  obtain ⟨hk, rfl⟩ := List.getElem?_eq_some_iff.1 h
  rw [List.take_succ_eq_append_getElem hk, flatR_append]; rfl
def RdR (w : World) (v : Value) (l : List Rl) : Prop := RdRow 3 w v l.length (flatR l)
theorem RdR.below {w w' : World} {v : Value} {l : List Rl} (h : RdR w v l) (hb : Below w.heap.size w w') : RdR w' v l := RdRow.below h hb
theorem RdR.open {w : World} {v : Value} {l : List Rl} (h : RdR w v l) : ∃ a cap, v = .slice a l.length cap ∧ l.length ≤ cap ∧ cap ≤ 9223372036854775807 ∧
    ∀ (i : Nat) (x : Rl), l[i]? = some x → ∃ b o, a = some ⟨b, o, none⟩ ∧ b < w.heap.size ∧ w.cell? ⟨b, o + i * 3, none⟩ = some (.string x.n) ∧ w.cell? ⟨b, o + i * 3 + 1, none⟩ = some (.int .i64 x.op) ∧ w.cell? ⟨b, o + i * 3 + 2, none⟩ = some (.string x.v) := by
  obtain ⟨_, a, cap, rfl, h1, h2, _, h5⟩ := h
  refine ⟨a, cap, rfl, h1, h2, fun i x hi => ?_⟩
  obtain ⟨c0, c1, c2⟩ := flatR_get l i x hi
  obtain ⟨b, o, rfl, hc⟩ := h5 _ _ c0
  have key : ∀ j u, (flatR l)[i * 3 + j]? = some u → w.cell? ⟨b, o + i * 3 + j, none⟩ = some u := by
    intro j u hj
    obtain ⟨b', o', e, hc'⟩ := h5 _ _ hj
    cases e
    rw [Nat.add_assoc]; exact hc'
  exact ⟨b, o, rfl, World.block_lt_of_cell? w _ hc, hc, key 1 _ c1, key 2 _ c2⟩

def FitR (l : List Rl) : Prop := ∀ r ∈ l, r.n.size ≤ maxLen ∧ r.v.size ≤ maxLen
/-- does a rule hold of a value? -/
def holdsB (r : Rl) (v : ByteArray) : Bool :=
  if r.op = 1 then (v.toList == r.v.toList) else if r.op = 2 then !(v.toList == r.v.toList) else if r.op = 3 then Lib.hasPrefix (bl v) (bl r.v) else if r.op = 4 then Lib.contains (bl v) (bl r.v) else false
def Glob (w : World) : Prop := ∃ m, w.cell? ⟨0, 0, none⟩ = some (.int .i64 m)
theorem Glob.below {w w' : World} (h : Glob w) (hb : Below w.heap.size w w') : Glob w' := by
  obtain ⟨m, hm⟩ := h
  exact ⟨m, (hb.cell (p := ⟨0, 0, none⟩) (World.block_lt_of_cell? w _ hm)).trans hm⟩
theorem Glob.turn {F : Nat → Prop} {w w' : World} (h : Glob w) (ht : Turn F w w') (h0 : ¬ F 0) : Glob w' := by
  obtain ⟨m, hm⟩ := h
  exact ⟨m, (World.cell?_of_block (ht.block 0 (World.block_lt_of_cell? w _ hm) h0)).trans hm⟩
def ragg (r : Rl) : Value := .agg #[.string r.n, .int .i64 r.op, .string r.v]

theorem size_cases (s : ByteArray) : (s.size = 0 ∧ s.toList.isEmpty = true) ∨ (0 < s.size ∧ s.toList.isEmpty = false) := by
  by_cases h : s.size = 0
  · exact .inl ⟨h, bytes_nil h⟩
  · exact .inr ⟨by omega, bytes_some (by omega)⟩



def allB (l : List Rl) (d : List Pr) : Bool := l.all fun r => holdsB r (getL d r.n)
theorem allB_next {l : List Rl} {k : Nat} {r : Rl} (h : l[k]? = some r) (d : List Pr) : allB (l.take (k + 1)) d = (allB (l.take k) d && holdsB r (getL d r.n)) := by
  obtain ⟨hk, rfl⟩ := List.getElem?_eq_some_iff.1 h
  unfold allB
  rw [List.take_succ_eq_append_getElem hk, List.all_append]
  simp

theorem ok56 : ElemOk Tryz.prog 60 119 (.agg #[.string ⟨#[]⟩, .int .i64 0, .string ⟨#[]⟩]) 3 40 := ⟨Tryz.underlying60, info_parts (by kernel_rfl), rfl, by decide⟩
theorem ok45 : ElemOk Tryz.prog 44 118 (.agg #[.string ⟨#[]⟩, .int .i64 0, .string ⟨#[]⟩]) 3 40 := ⟨Tryz.underlying44, info_parts (by kernel_rfl), rfl, by decide⟩
theorem rule_one (r : Rl) : ∀ u ∈ (#[Value.string r.n, Value.int .i64 r.op, Value.string r.v] : Array Value).toList, u.oneCell' = true := by
  intro u hu
  simp only [List.mem_cons, List.not_mem_nil, or_false] at hu
  rcases hu with rfl | rfl | rfl <;> rfl
def MineR (e : TypeId) (w0 w : World) (v : Value) (l : List Rl) : Prop := Mine e 3 w0 w v l.length (flatR l)
theorem MineR.rd {e : TypeId} {w0 w : World} {v : Value} {l : List Rl} (h : MineR e w0 w v l) : RdR w v l := h.1.rd

set_option maxHeartbeats 1000000 in
theorem rto_any (v : Value) (l : List Rl) (w : World) (hv : RdR w v l) (hlen : l.length ≤ 1048576) :
    Calls Tryz.prog 21 #[v] w fun e w' => ∃ v', e = .returned v' ∧ MineR 119 w w' v' l := by
  obtain ⟨a, cap, rfl, hcap, hbig, hcell⟩ := hv.open
  have Hcell := Lib.hid hcell
  clear hcell hv
  go_enter Tryz.func21, Tryz.ntmps21
  go_wp2_with fail
  go_loopw [3, 5, 8] (fun v _ i wr => ∃ k : Nat, k ≤ l.length ∧ i = .int .i64 k ∧ Hid (MineR 119 w wr v (l.take k))) (fun _ _ i _ => l.length - (intOf i).toNat)
  case atStart => exact ⟨0, by omega, rfl, Lib.hid (mine_nil 119 3 w)⟩
  case round =>
    obtain ⟨k, hk, rfl, HM⟩ := hrel
    by_cases hlt : k < l.length
    · obtain ⟨p, hp⟩ : ∃ x, l[k]? = some x := ⟨l[k], List.getElem?_eq_getElem hlt⟩
      obtain ⟨b, o, rfl, lb, c1, c2, c3⟩ := Hcell.out k p hp
      have c1' : wr.cell? ⟨b, o + k * 3, none⟩ = some (.string p.n) := (HM.out.2.2.cell (p := ⟨b, o + k * 3, none⟩) lb).trans c1
      have c2' : wr.cell? ⟨b, o + k * 3 + 1, none⟩ = some (.int .i64 p.op) := (HM.out.2.2.cell (p := ⟨b, o + k * 3 + 1, none⟩) lb).trans c2
      have c3' : wr.cell? ⟨b, o + k * 3 + 2, none⟩ = some (.string p.v) := (HM.out.2.2.cell (p := ⟨b, o + k * 3 + 2, none⟩) lb).trans c3
      have HT := Lib.hid (flatR_take l k p hp)
      have Hkl : Hid ((l.take k).length = k) := Lib.hid (by rw [List.length_take]; omega)
      clear c1 c2 c3 hp lb
      go_wp2_with (at_builtin; apply Hold.mk)
      unfold Hold
      refine mine_app rfl _ _ 60 rfl ok56 (by rfl) (by rfl) HM.out (by repeat (first | exact bel_refl _ | apply bel_alloc | apply bel_drew)) (by exact rd_lit 3 #[.string p.n, .int .i64 p.op, .string p.v] 1 (by simp) one_le rfl) (rule_one p) (by rw [Hkl.out]; simp only [maxLen]; omega) (by rw [Hkl.out]; omega) ?_
      intro v7 w7 hm7 hg7
      rw [Hkl.out, show (#[Value.string p.n, .int .i64 p.op, Value.string p.v] : Array Value).toList = [.string p.n, .int .i64 p.op, .string p.v] from rfl, ← HT.out] at hm7
      have HM7 : Hid (MineR 119 w w7 v7 (l.take (k + 1))) := Lib.hid (by unfold MineR; rw [List.length_take, Nat.min_eq_left (by omega)]; exact hm7)
      clear hm7 hg7
      go_wp2_with fail
      go_roundw
      case rel => exact ⟨k + 1, by omega, by go_num, HM7⟩
      case measure => simp [intOf]; omega
    · obtain rfl : k = l.length := by omega
      rw [List.take_length] at HM
      go_wp2_with fail
      go_ret
      exact ⟨_, rfl, HM.out⟩

set_option maxHeartbeats 1000000 in
theorem get_any (v : Value) (l : List Pr) (nm : ByteArray) (w : World) (hv : RdP w v l) :
    Calls Tryz.prog 100 #[v, .string nm] w fun e w' => e = .returned (.string (getL l nm)) ∧ w = w' := by
  obtain ⟨a, cap, rfl, hcap, hbig, hcell⟩ := hv.open
  have Hcell := Lib.hid hcell
  clear hcell hv
  go_enter Tryz.func100, Tryz.ntmps100
  go_wp2_with fail
  go_loop [5] (fun i => ∃ k : Nat, k ≤ l.length ∧ i = .int .i64 k ∧ Hid (getL l nm = getL (l.drop k) nm)) (fun i => l.length - (intOf i).toNat)
  case atStart => exact ⟨0, by omega, rfl, Lib.hid rfl⟩
  case round =>
    obtain ⟨k, hk, rfl, HG⟩ := hrel
    by_cases hlt : k < l.length
    · obtain ⟨p, hp⟩ : ∃ x, l[k]? = some x := ⟨l[k], List.getElem?_eq_getElem hlt⟩
      obtain ⟨b, o, rfl, c1, c2⟩ := Hcell.out k p hp
      have hk1 : (0 : Int) ≤ (k : Int) := by omega
      have hk2 : (k : Int) < (l.length : Int) := by omega
      have HD : Hid (getL (l.drop k) nm = if p.n = nm then p.v else getL (l.drop (k + 1)) nm) := Lib.hid (by
        obtain ⟨hk', e⟩ := List.getElem?_eq_some_iff.1 hp
        rw [List.drop_eq_getElem_cons hk', getL, e])
      clear hp
      by_cases hn : p.n = nm
      · have hb : (p.n.toList == nm.toList) = true := by rw [hn]; simp
        have HD2 : Hid (getL l nm = p.v) := Lib.hid (by rw [HG.out, HD.out, if_pos hn])
        clear hn HD
        go_wp2_with fail
        go_ret
        rw [HD2.out]
        exact ⟨rfl, rfl⟩
      · have hb : (p.n.toList == nm.toList) = false := by
          rw [beq_eq_false_iff_ne]
          exact fun e => hn (Go.Sx.toList_inj e)
        have HD2 : Hid (getL l nm = getL (l.drop (k + 1)) nm) := Lib.hid (by rw [HG.out, HD.out, if_neg hn])
        clear hn HD
        go_wp2_with fail
        go_round
        case rel => exact ⟨k + 1, by omega, by go_num, HD2⟩
        case measure => simp [intOf]; omega
    · obtain rfl : k = l.length := by omega
      have HD2 : Hid (getL l nm = ⟨#[]⟩) := Lib.hid (by rw [HG.out, List.drop_length]; rfl)
      go_wp2_with fail
      go_ret
      rw [HD2.out]
      exact ⟨rfl, rfl⟩

theorem stands_any (s p : ByteArray) (i : Nat) (w : World) (hi : i ≤ s.size) (hs : s.size ≤ 1000000) (hp : p.size ≤ maxLen) :
    Calls Tryz.prog 101 #[.string s, .int .i64 (i : Int), .string p] w fun e w' => e = .returned (.bool (Lib.occAt (bl s) (bl p) i)) ∧ w = w' := by
  unfold maxLen at hp
  by_cases h : i + p.size ≤ s.size
  · have h1 : decide ((i : Int) ≤ (s.size : Int) - (p.size : Int)) = true := by simp only [decide_eq_true_eq]; omega
    have he : Lib.occAt (bl s) (bl p) i = ((s.extract i (i + p.size)).toList == p.toList) := by
      rw [Lib.occAt_iff_take _ _ _ (by rw [bl_len, bl_len]; exact h), Lib.extract_toList, Lib.toList_data, bl_len, Nat.add_sub_cancel_left]
      rfl
    rw [he]
    clear he
    go_enter Tryz.func101, Tryz.ntmps101
    go_wp2_with fail
    go_ret
    exact ⟨rfl, rfl⟩
  · have h1 : decide ((i : Int) ≤ (s.size : Int) - (p.size : Int)) = false := by simp only [decide_eq_false_iff_not]; omega
    have he : Lib.occAt (bl s) (bl p) i = false := by
      cases ho : Lib.occAt (bl s) (bl p) i with
      | false => rfl
      | true =>
        rcases Lib.occAt_room ho with h2 | h2
        · rw [bl_len, bl_len] at h2; omega
        · have := bl_len p; rw [h2] at this; simp only [List.length_nil] at this; omega
    rw [he]
    clear he
    go_enter Tryz.func101, Tryz.ntmps101
    go_wp2_with fail
    go_ret
    exact ⟨rfl, rfl⟩

/-- whether a text stands at some place from k on -/
def occFrom (s p : List UInt8) (k : Nat) : Prop := ∃ i, k ≤ i ∧ i ≤ s.length ∧ Lib.occAt s p i = true
theorem contains_iff (s p : List UInt8) : Lib.contains s p = true ↔ occFrom s p 0 := by
  unfold Lib.contains
  rw [decide_eq_true_eq]
  rcases Lib.index_spec s p with ⟨h1, h2⟩ | ⟨i, h1, h2, h3, _⟩
  · constructor
    · intro h; omega
    · rintro ⟨i, _, hi, h⟩
      rw [h2 i hi] at h
      cases h
  · exact ⟨fun _ => ⟨i, Nat.zero_le _, h2, h3⟩, fun _ => by omega⟩

set_option maxHeartbeats 1000000 in
theorem one_ref (r : Rl) (v : Value) (l : List Pr) (w : World) (hv : RdP w v l) (hs : r.v.size ≤ maxLen) (hg : (getL l r.n).size ≤ 1000000) :
    Calls Tryz.prog 78 #[ragg r, v] w fun e w' => e = .returned (.bool (holdsB r (getL l r.n))) ∧ Below w.heap.size w w' := by
  obtain ⟨a, cap, rfl, _⟩ := hv.open
  have HV := Lib.hid hv
  have HS := Lib.hid hs
  have HG := Lib.hid hg
  clear hv hs hg
  obtain ⟨n, op, rv⟩ := r
  simp only at HS HG
  unfold ragg
  simp only
  have hc : op = 1 ∨ op = 2 ∨ op = 3 ∨ op = 4 ∨ (op ≠ 1 ∧ op ≠ 2 ∧ op ≠ 3 ∧ op ≠ 4) := by omega
  rcases hc with rfl | rfl | rfl | rfl | ⟨n1, n2, n3, n4⟩
  · have hh : ∀ x, holdsB ⟨n, 1, rv⟩ x = (x.toList == rv.toList) := fun x => by simp [holdsB]
    rw [hh]
    clear hh
    go_enter Tryz.func78, Tryz.ntmps78
    go_wp2_with (first | (go_at_call 100; refine (get_any (.slice a l.length cap) l n _ (HV.out.below (below_alloc w _))).mono ?_; rintro e w2 ⟨rfl, rfl⟩) | fail)
    go_ret
    exact ⟨rfl, by repeat (first | exact bel_refl _ | apply bel_drewN | apply bel_alloc | apply bel_drew)⟩
  · have hh : ∀ x, holdsB ⟨n, 2, rv⟩ x = !(x.toList == rv.toList) := fun x => by simp [holdsB]
    rw [hh]
    clear hh
    go_enter Tryz.func78, Tryz.ntmps78
    go_wp2_with (first | (go_at_call 100; refine (get_any (.slice a l.length cap) l n _ (HV.out.below (below_alloc w _))).mono ?_; rintro e w2 ⟨rfl, rfl⟩) | fail)
    go_ret
    exact ⟨rfl, by repeat (first | exact bel_refl _ | apply bel_drewN | apply bel_alloc | apply bel_drew)⟩
  · have hh : ∀ x, holdsB ⟨n, 3, rv⟩ x = Lib.occAt (bl x) (bl rv) 0 := fun x => by simp [holdsB, Lib.hasPrefix, Lib.occAt]
    rw [hh]
    clear hh
    go_enter Tryz.func78, Tryz.ntmps78
    go_wp2_with (first
      | (go_at_call 100; refine (get_any (.slice a l.length cap) l n _ (HV.out.below (below_alloc w _))).mono ?_; rintro e w2 ⟨rfl, rfl⟩)
      | (go_at_call 101; refine (stands_any (getL l n) rv 0 _ (Nat.zero_le _) HG.out HS.out).mono ?_; rintro e w3 ⟨rfl, rfl⟩)
      | fail)
    go_ret
    exact ⟨rfl, by repeat (first | exact bel_refl _ | apply bel_drewN | apply bel_alloc | apply bel_drew)⟩
  · have hh : ∀ x, holdsB ⟨n, 4, rv⟩ x = Lib.contains (bl x) (bl rv) := fun x => by simp [holdsB]
    rw [hh]
    clear hh
    obtain ⟨z, hz⟩ : ∃ z, getL l n = z := ⟨_, rfl⟩
    rw [hz] at HG ⊢
    have HZ := Lib.hid hz
    clear hz
    go_enter Tryz.func78, Tryz.ntmps78
    go_wp2_with (first
      | (go_at_call 100; refine (get_any (.slice a l.length cap) l n _ (HV.out.below (below_alloc w _))).mono ?_; rintro e w2 ⟨rfl, rfl⟩; rw [HZ.out])
      | fail)
    have HB : Hid (Below w.heap.size w (w.alloc (.cells #[.string n, .int .i64 4, .string rv] 118))) := Lib.hid (below_alloc w _)
    go_loop [6] (fun i => ∃ k : Nat, k ≤ z.size + 1 ∧ i = .int .i64 k ∧ Hid (∀ j, j < k → Lib.occAt (bl z) (bl rv) j = false)) (fun i => z.size + 1 - (intOf i).toNat)
    case atStart => exact ⟨0, by omega, rfl, Lib.hid (fun j hj => by omega)⟩
    case round =>
      obtain ⟨k, hk, rfl, HO⟩ := hrel
      have hg6 : z.size ≤ 1000000 := HG.out
      by_cases hlt : k ≤ z.size
      · cases ho : Lib.occAt (bl z) (bl rv) k with
        | true =>
          have HE : Hid (Lib.contains (bl z) (bl rv) = true) := Lib.hid ((contains_iff _ _).2 ⟨k, Nat.zero_le _, by rw [bl_len]; exact hlt, ho⟩)
          have HOk := Lib.hid ho
          clear ho
          go_wp2_with (first
            | (go_at_call 101; refine (stands_any z rv k _ hlt HG.out HS.out).mono ?_; rintro e w3 ⟨rfl, rfl⟩; rw [HOk.out])
            | fail)
          go_ret
          exact ⟨(congrArg (fun b => Ending.returned (.bool b)) HE.out).symm, HB.out⟩
        | false =>
          have HOk := Lib.hid ho
          clear ho
          go_wp2_with (first
            | (go_at_call 101; refine (stands_any z rv k _ hlt HG.out HS.out).mono ?_; rintro e w3 ⟨rfl, rfl⟩; rw [HOk.out])
            | fail)
          go_round
          case rel => exact ⟨k + 1, by omega, by go_num, Lib.hid (fun j hj => by
            by_cases e : j = k
            · rw [e]; exact HOk.out
            · exact HO.out j (by omega))⟩
          case measure => simp [intOf]; omega
      · obtain rfl : k = z.size + 1 := by omega
        have HE : Hid (Lib.contains (bl z) (bl rv) = false) := Lib.hid (by
          cases hcn : Lib.contains (bl z) (bl rv) with
          | false => rfl
          | true =>
            obtain ⟨i, _, hi, h⟩ := (contains_iff _ _).1 hcn
            rw [bl_len] at hi
            rw [HO.out i (by omega)] at h
            cases h)
        go_wp2_with fail
        go_ret
        exact ⟨(congrArg (fun b => Ending.returned (.bool b)) HE.out).symm, HB.out⟩
  · have hh : ∀ x, holdsB ⟨n, op, rv⟩ x = false := fun x => by simp [holdsB, n1, n2, n3, n4]
    rw [hh]
    have e1 : (op == 1) = false := bne_of n1
    have e2 : (op == 2) = false := bne_of n2
    have e3 : (op == 3) = false := bne_of n3
    have e4 : (op == 4) = false := bne_of n4
    clear hh n1 n2 n3 n4
    go_enter Tryz.func78, Tryz.ntmps78
    go_wp2_with (first | (go_at_call 100; refine (get_any (.slice a l.length cap) l n _ (HV.out.below (below_alloc w _))).mono ?_; rintro e w2 ⟨rfl, rfl⟩) | fail)
    go_ret
    exact ⟨rfl, by repeat (first | exact bel_refl _ | apply bel_drewN | apply bel_alloc | apply bel_drew)⟩

set_option maxHeartbeats 1000000 in
theorem all_ref (v u : Value) (l : List Rl) (d : List Pr) (w : World) (hv : RdR w v l) (hu : RdP w u d) (hf : FitR l) (hg : ∀ nm, (getL d nm).size ≤ 1000000) :
    Calls Tryz.prog 56 #[v, u] w fun e w' => e = .returned (.bool (allB l d)) ∧ Below w.heap.size w w' := by
  obtain ⟨a, cap, rfl, hcap, hbig, hcell⟩ := hv.open
  obtain ⟨ua, ucap, rfl, _⟩ := hu.open
  have Hcell := Lib.hid hcell
  have HU := Lib.hid hu
  have HF := Lib.hid hf
  have HG := Lib.hid hg
  clear hcell hv hu hf hg
  go_enter Tryz.func56, Tryz.ntmps56
  go_wp2_with fail
  go_loopw [5] (fun i wr => ∃ k : Nat, k ≤ l.length ∧ i = .int .i64 k ∧ Hid (allB (l.take k) d = true) ∧ Hid (Below w.heap.size w wr)) (fun i _ => l.length - (intOf i).toNat)
  case atStart => exact ⟨0, by omega, rfl, Lib.hid rfl, Lib.hid (bel_refl w)⟩
  case round =>
    obtain ⟨k, hk, rfl, HA, HB⟩ := hrel
    by_cases hlt : k < l.length
    · obtain ⟨r, hr⟩ : ∃ x, l[k]? = some x := ⟨l[k], List.getElem?_eq_getElem hlt⟩
      obtain ⟨b, o, rfl, lb, c0, c1, c2⟩ := Hcell.out k r hr
      have c0' : wr.cell? ⟨b, o + k * 3, none⟩ = some (.string r.n) := (HB.out.cell (p := ⟨b, o + k * 3, none⟩) lb).trans c0
      have c1' : wr.cell? ⟨b, o + k * 3 + 1, none⟩ = some (.int .i64 r.op) := (HB.out.cell (p := ⟨b, o + k * 3 + 1, none⟩) lb).trans c1
      have c2' : wr.cell? ⟨b, o + k * 3 + 2, none⟩ = some (.string r.v) := (HB.out.cell (p := ⟨b, o + k * 3 + 2, none⟩) lb).trans c2
      have HFr := Lib.hid (HF.out r (List.mem_of_getElem? hr))
      have HN := Lib.hid (allB_next hr d)
      have hk1 : (0 : Int) ≤ (k : Int) := by omega
      have hk2 : (k : Int) < (l.length : Int) := by omega
      have hbad : Hid (holdsB r (getL d r.n) = false → allB l d = false) := Lib.hid (fun h => by
        unfold allB
        rw [List.all_eq_false]
        exact ⟨r, List.mem_of_getElem? hr, by rw [h]; simp⟩)
      clear c0 c1 c2 hr lb
      cases hh : holdsB r (getL d r.n) with
      | true =>
        have HH := Lib.hid hh
        clear hh
        go_wp2_with (first
          | (go_at_call 78; refine (one_ref r (.slice ua d.length ucap) d _ (HU.out.below HB.out) HFr.out.2 (HG.out _)).mono ?_; rintro e w3 ⟨rfl, hb3⟩; rw [HH.out]; have HB3 := Lib.hid (bel_trans HB.out hb3); clear hb3)
          | fail)
        go_roundw
        case rel => exact ⟨k + 1, by omega, by go_num, Lib.hid (by rw [HN.out, HA.out, HH.out]; rfl), HB3⟩
        case measure => simp [intOf]; omega
      | false =>
        have HH := Lib.hid hh
        clear hh
        go_wp2_with (first
          | (go_at_call 78; refine (one_ref r (.slice ua d.length ucap) d _ (HU.out.below HB.out) HFr.out.2 (HG.out _)).mono ?_; rintro e w3 ⟨rfl, hb3⟩; rw [HH.out]; have HB3 := Lib.hid (bel_trans HB.out hb3); clear hb3)
          | fail)
        go_ret
        exact ⟨(congrArg (fun b => Ending.returned (.bool b)) (hbad.out HH.out)).symm, HB3.out⟩
    · obtain rfl : k = l.length := by omega
      rw [List.take_length] at HA
      go_wp2_with fail
      go_ret
      exact ⟨(congrArg (fun b => Ending.returned (.bool b)) HA.out).symm, HB.out⟩

end Go.Proofs.YtplieoalfbpniaaGreat
