/- Gates: the document's gate: Find (18), Has (15). -/
import Derived.Test.YtjeecffhclhbaaaWD
namespace Go.Proofs.Ytjeecffhclhbaaa
open Go.RowKit Go.Kt

def Found (l : List Cl) (s : ByteArray) (i : Int) : Prop :=
  (i = -1 ∧ ∀ x ∈ l, x.name ≠ s) ∨ ∃ (k : Nat) (x : Cl), i = (k : Int) ∧ l[k]? = some x ∧ x.name = s
/-- the document's list says what the map says -/
structure Same (G : Gt) (l : List Cl) : Prop where
  n : G.n = l.length
  has : ∀ x ∈ l, G.f (kl x.name) = some (x.left, x.tick)
  only : ∀ s b, G.f (kl s) = some b → ∃ x ∈ l, x.name = s
  one : (l.map (·.name)).Nodup
theorem Same.none {G : Gt} {l : List Cl} (h : Same G l) {s : ByteArray} (hs : ∀ x ∈ l, x.name ≠ s) : G.f (kl s) = none := by
  cases hf : G.f (kl s) with
  | none => rfl
  | some b =>
    obtain ⟨x, hx, he⟩ := h.only s b hf
    exact (hs x hx he).elim

def Finds (l : List Cl) (s : ByteArray) (w : World) (en : Ending) (w' : World) : Prop := ∃ i : Int, en = .returned (.int .i64 i) ∧ Found l s i ∧ Below w.heap.size w w'
set_option maxHeartbeats 1000000 in
theorem find18 (b e r : Int) (v : Value) (l : List Cl) (s : ByteArray) (w : World) (hv : RdCl w v l) :
    Calls Try.prog 18 #[.agg #[.int .i64 b, .int .i64 e, .int .i64 r, v], .string s] w (Finds l s w) := by
  obtain ⟨a, cap, rfl, hcap, hbig, hcell⟩ := hv.open
  have Hcell := Lib.hid hcell
  clear hcell hv
  have HB := Lib.hid (Blk.new w #[.int .i64 b, .int .i64 e, .int .i64 r, .slice a l.length cap] 42)
  have Hb : Hid (Below w.heap.size w (w.alloc (.cells #[.int .i64 b, .int .i64 e, .int .i64 r, .slice a l.length cap] 42))) := Lib.hid (below_alloc _ _)
  go_enter Try.func18, Try.ntmps18
  go_wp2_with fail
  have g0 : (w.alloc (.cells #[.int .i64 b, .int .i64 e, .int .i64 r, .slice a l.length cap] 42)).cell? ⟨w.heap.size, 3, none⟩ = some (.slice a l.length cap) := HB.out.cell 3
  generalize (w.alloc (.cells #[.int .i64 b, .int .i64 e, .int .i64 r, .slice a l.length cap] 42)) = w1 at *
  generalize w.heap.size = bx at g0 ⊢
  go_loop [5] (fun i => ∃ k : Nat, k ≤ l.length ∧ i = .int .i64 k ∧ Hid (∀ j y, j < k → l[j]? = some y → y.name ≠ s)) (fun i => l.length - (intOf i).toNat)
  case atStart => exact ⟨0, by omega, rfl, Lib.hid (fun j y h => absurd h (by omega))⟩
  case round =>
    obtain ⟨k, hk, rfl, Hno⟩ := hrel
    by_cases hlt : k < l.length
    · obtain ⟨x, hx⟩ : ∃ x, l[k]? = some x := ⟨l[k], List.getElem?_eq_getElem hlt⟩
      obtain ⟨bb, o, rfl, c1, -, -⟩ := Hcell.out k x hx
      have lb := World.block_lt_of_cell? w _ c1
      have c1' : w1.cell? ⟨bb, o + k * 3, none⟩ = some (.string x.name) := (Hb.out.cell (p := ⟨bb, o + k * 3, none⟩) lb).trans c1
      have Hx := Lib.hid hx
      clear c1 hx
      by_cases hs : x.name = s
      · subst hs
        go_wp2_with fail
        go_ret
        exact ⟨_, rfl, .inr ⟨k, x, rfl, Hx.out, rfl⟩, Hb.out⟩
      · have hsl : (x.name.toList == s.toList) = false := by rw [beq_eq_false_iff_ne]; exact fun e => hs (bytes_eq e)
        have Hs := Lib.hid hs
        clear hs
        go_wp2_with fail
        go_round
        case rel => exact ⟨k + 1, by omega, by go_num, Lib.hid (fun j y hj hy => by
          rcases Nat.lt_or_ge j k with h | h
          · exact Hno.out j y h hy
          · have : j = k := by omega
            subst this
            rw [Hx.out] at hy
            cases hy
            exact Hs.out)⟩
        case measure => simp [intOf]; omega
    · obtain rfl : k = l.length := by omega
      go_wp2_with fail
      go_ret
      refine ⟨_, rfl, .inl ⟨rfl, fun x hx => ?_⟩, Hb.out⟩
      obtain ⟨j, hj⟩ := List.mem_iff_getElem?.1 hx
      exact Hno.out j x (List.getElem?_eq_some_iff.1 hj).1 hj

theorem has_eq (G : Gt) (hG : G.ok) (b : Int × Int) (t : Int) (h1 : 0 ≤ b.1) (h2 : b.1 ≤ G.burst) :
    (fillF G b t).1 = if t ≤ b.2 then b.1 else if G.each = 0 then b.1 else if (G.burst - b.1) / G.each < t - b.2 then G.burst else b.1 + (t - b.2) * G.each := by
  have he := hG.e1
  unfold fillF
  by_cases h : t ≤ b.2
  · rw [if_pos h, if_pos h]
  rw [if_neg h, if_neg h]
  by_cases h0 : G.each = 0
  · rw [if_neg (fun k => by omega), if_pos h0, h0]; simp
  rw [if_neg h0]
  have hp : 0 < G.each := by omega
  have q1 := Int.mul_ediv_self_le (x := G.burst - b.1) (k := G.each) (by omega)
  have q2 := Int.lt_mul_ediv_self_add (x := G.burst - b.1) hp
  by_cases h3 : (G.burst - b.1) / G.each < t - b.2
  · have h4 : (G.burst - b.1 + G.each - 1) / G.each < (G.burst - b.1) / G.each + 1 + 1 := by
      apply Int.ediv_lt_of_lt_mul hp
      rw [Int.add_mul, Int.add_mul, Int.one_mul]
      have : G.each * ((G.burst - b.1) / G.each) = (G.burst - b.1) / G.each * G.each := Int.mul_comm _ _
      omega
    have h5 : (G.burst - b.1 + G.each - 1) / G.each ≤ t - b.2 := by omega
    rw [if_pos h3, if_pos ⟨hp, h5⟩]
  · rw [if_neg h3]
    by_cases h4 : 0 < G.each ∧ (G.burst - b.1 + G.each - 1) / G.each ≤ t - b.2
    · rw [if_pos h4]
      obtain ⟨_, h4⟩ := h4
      have h5 : t - b.2 ≤ (G.burst - b.1) / G.each := by omega
      have h6 : (t - b.2) * G.each ≤ (G.burst - b.1) / G.each * G.each := Int.mul_le_mul_of_nonneg_right h5 (by omega)
      have h7 : (G.burst - b.1 + G.each - 1) / G.each * G.each ≤ (t - b.2) * G.each := Int.mul_le_mul_of_nonneg_right h4 (by omega)
      have h8 := Int.lt_mul_ediv_self_add (x := G.burst - b.1 + G.each - 1) hp
      have e1 : G.each * ((G.burst - b.1) / G.each) = (G.burst - b.1) / G.each * G.each := Int.mul_comm _ _
      have e2 : G.each * ((G.burst - b.1 + G.each - 1) / G.each) = (G.burst - b.1 + G.each - 1) / G.each * G.each := Int.mul_comm _ _
      simp only
      omega
    · rw [if_neg h4]

/-- what the document's Has answers, where the list says what the map says -/
def Hases (G : Gt) (s : ByteArray) (t : Int) (w : World) (en : Ending) (w' : World) : Prop := en = .returned (.int .i64 (findF G s t).1) ∧ Below w.heap.size w w'
set_option maxHeartbeats 1000000 in
theorem has15 (G : Gt) (v : Value) (l : List Cl) (s : ByteArray) (t : Int) (w : World) (hv : RdCl w v l) (hs : Same G l) (hok : G.ok) (h5 : 0 ≤ t) (h6 : t ≤ 4611686018427387904) :
    Calls Try.prog 15 #[.agg #[.int .i64 G.burst, .int .i64 G.each, .int .i64 G.room, v], .string s, .int .i64 t] w (Hases G s t w) := by
  have Hv := Lib.hid hv
  have Hok := Lib.hid hok
  have Hs := Lib.hid hs
  have HB := Lib.hid (Blk.new w #[.int .i64 G.burst, .int .i64 G.each, .int .i64 G.room, v] 42)
  have HV1 : Hid (RdCl (w.alloc (.cells #[.int .i64 G.burst, .int .i64 G.each, .int .i64 G.room, v] 42)) v l) := Lib.hid (hv.below (below_alloc _ _))
  obtain ⟨a, cap, rfl, hcap, hbig, hcell⟩ := hv.open
  have Hcell := Lib.hid hcell
  clear hcell hv hs hok
  go_enter Try.func15, Try.ntmps15
  go_wp2_with fail
  refine (find18 G.burst G.each G.room _ l s _ HV1.out).mono ?_
  rintro en w1 ⟨i, rfl, hf, hb1⟩
  have hB1 := HB.out.next hb1
  have g0 : w1.cell? ⟨w.heap.size, 0, none⟩ = some (.int .i64 G.burst) := hB1.cell 0
  have g1 : w1.cell? ⟨w.heap.size, 1, none⟩ = some (.int .i64 G.each) := hB1.cell 1
  have g3 : w1.cell? ⟨w.heap.size, 3, none⟩ = some (.slice a l.length cap) := hB1.cell 3
  have Hb1 := Lib.hid (bel_trans (below_alloc w _) hb1)
  clear hB1 hb1
  rcases hf with ⟨rfl, hno⟩ | ⟨k, x, rfl, hx, rfl⟩
  · have HF : Hid ((findF G s t).1 = G.burst) := Lib.hid (by unfold findF; rw [Hs.out.none hno])
    clear hno
    go_wp2_with fail
    go_ret
    exact ⟨by rw [HF.out]; rfl, Hb1.out⟩
  · obtain ⟨bb, o, rfl, c1, c2, c3⟩ := Hcell.out k x hx
    have lb := World.block_lt_of_cell? w _ c1
    have c2' : w1.cell? ⟨bb, o + k * 3 + 1, none⟩ = some (.int .i64 x.left) := (Hb1.out.cell (p := ⟨bb, o + k * 3 + 1, none⟩) lb).trans c2
    have c3' : w1.cell? ⟨bb, o + k * 3 + 2, none⟩ = some (.int .i64 x.tick) := (Hb1.out.cell (p := ⟨bb, o + k * 3 + 2, none⟩) lb).trans c3
    have hG := Hs.out.has x (List.mem_of_getElem? hx)
    obtain ⟨q1, q2, q3, q4⟩ := Hok.out.has _ _ hG
    have HE := Lib.hid (has_eq G Hok.out (x.left, x.tick) t q1 q2)
    have HF : Hid ((findF G x.name t).1 = (fillF G (x.left, x.tick) t).1) := Lib.hid (by unfold findF; rw [hG])
    have hfit := fill_fits G Hok.out (x.left, x.tick) t q1 q2
    obtain ⟨o1, o2, o3, o4, o5, o6, o7, o8⟩ := Hok.out
    have hkl := (List.getElem?_eq_some_iff.1 hx).1
    have hk0 : (0 : Int) ≤ (k : Int) := by omega
    have hk1 : (k : Int) < (l.length : Int) := by omega
    clear c1 c2 c3 hG hx o8
    simp only at q1 q2 q3 q4 hfit
    by_cases hle : t ≤ x.tick
    · have HH : Hid ((findF G x.name t).1 = x.left) := Lib.hid (by rw [HF.out, HE.out, if_pos hle])
      clear hfit
      go_wp2_with fail
      go_ret
      exact ⟨by rw [HH.out]; rfl, Hb1.out⟩
    by_cases he : G.each = 0
    · have HH : Hid ((findF G x.name t).1 = x.left) := Lib.hid (by rw [HF.out, HE.out, if_neg hle, if_pos he])
      have hb : (G.each == 0) = true := by rw [beq_iff_eq]; exact he
      clear hfit he
      go_wp2_with fail
      go_ret
      exact ⟨by rw [HH.out]; rfl, Hb1.out⟩
    have hb : (G.each == 0) = false := by rw [beq_eq_false_iff_ne]; exact he
    have hpos : 1 ≤ G.each := by omega
    have hsub : 0 ≤ G.burst - x.left := by omega
    by_cases hq : (G.burst - x.left) / G.each < t - x.tick
    · have HH : Hid ((findF G x.name t).1 = G.burst) := Lib.hid (by rw [HF.out, HE.out, if_neg hle, if_neg he, if_pos hq])
      clear hfit he
      go_wp2_with fail
      go_ret
      exact ⟨by rw [HH.out]; rfl, Hb1.out⟩
    · have HH : Hid ((findF G x.name t).1 = x.left + (t - x.tick) * G.each) := Lib.hid (by rw [HF.out, HE.out, if_neg hle, if_neg he, if_neg hq])
      have hfit2 : 0 ≤ (t - x.tick) * G.each ∧ x.left + (t - x.tick) * G.each ≤ G.burst := by
        refine ⟨Int.mul_nonneg (by omega) (by omega), ?_⟩
        have h6 : (t - x.tick) * G.each ≤ (G.burst - x.left) / G.each * G.each := Int.mul_le_mul_of_nonneg_right (by omega) (by omega)
        have q1 := Int.mul_ediv_self_le (x := G.burst - x.left) (k := G.each) (by omega)
        have e1 : G.each * ((G.burst - x.left) / G.each) = (G.burst - x.left) / G.each * G.each := Int.mul_comm _ _
        omega
      obtain ⟨f1, f2⟩ := hfit2
      clear hfit he
      go_wp2_with fail
      go_ret
      exact ⟨by rw [HH.out]; rfl, Hb1.out⟩
end Go.Proofs.Ytjeecffhclhbaaa
