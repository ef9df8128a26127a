/- How sets stand: strings.Compare (84), label.Compare (60), Compare$1 (83), slices.CompareFunc (82). -/
import Derived.Test.YtplieoalfbpniaaGreatS8
import Derived.Shelf.Small.Strs
namespace Go.Proofs.YtplieoalfbpniaaGreat
open Go.RowKit Go.Kt Go.Ix Go.Sx
set_option maxRecDepth 100000

/-- nothing that lay has turned, and nothing was given back of what was drawn -/
structure Gr (w w' : World) : Prop where
  b : Below w.heap.size w w'
  d : w.drawn ≤ w'.drawn
theorem Gr.refl (w : World) : Gr w w := ⟨bel_refl w, Nat.le_refl _⟩
theorem Gr.trans {a b c : World} (h : Gr a b) (k : Gr b c) : Gr a c := ⟨bel_trans h.b k.b, Nat.le_trans h.d k.d⟩
theorem Gr.alloc {a b : World} (h : Gr a b) (o : Obj) : Gr a (b.alloc o) := ⟨bel_alloc h.b, h.d⟩
theorem Gr.drew {a b : World} (h : Gr a b) : Gr a b.drew := ⟨bel_drew h.b, Nat.le_succ_of_le h.d⟩
theorem Gr.drewN {a b : World} (h : Gr a b) (n : Nat) : Gr a (b.drewN n) := ⟨bel_drewN h.b n, Nat.le_trans h.d (Nat.le_add_right _ _)⟩
theorem Gr.set {a b : World} (h : Gr a b) {p : Addr} (hp : a.heap.size ≤ p.block) (u : Value) : Gr a (b.setCell p u) := ⟨bel_set h.b hp, h.d⟩
/-- it is the world after some draws, with some blocks behind it -/
theorem Gr.grow {w w' : World} (h : Gr w w') : ∃ q os, w' = Go.Sort.grow (w.drewN q) os := by
  refine ⟨w'.drawn - w.drawn, w'.heap.extract w.heap.size w'.heap.size, ?_⟩
  obtain ⟨hb, hd⟩ := h
  have hh : w'.heap = w.heap ++ w'.heap.extract w.heap.size w'.heap.size := by
    apply Array.ext_getElem?
    intro i
    by_cases hi : i < w.heap.size
    · rw [Array.getElem?_append_left hi]
      exact hb.block i hi
    · rw [Array.getElem?_append_right (by omega)]
      have hs := hb.size
      rw [Array.getElem?_extract]
      simp only [Nat.min_self]
      by_cases h2 : i < w'.heap.size
      · rw [if_pos (by omega), show w.heap.size + (i - w.heap.size) = i by omega]
      · rw [if_neg (by omega)]
        simp; omega
  cases w' with
  | mk heap tape drawn os output =>
    cases w with
    | mk heap0 tape0 drawn0 os0 output0 =>
      have h1 := hb.os
      have h2 := hb.tape
      have h3 := hb.output
      simp only at h1 h2 h3 hh hd
      subst h1 h2 h3
      simp only [Go.Sort.grow, World.drewN]
      rw [← hh, show drawn0 + (drawn - drawn0) = drawn by omega]

def cmpB (a b : ByteArray) : Int := if a = b then 0 else if Op.bytesLess a.toList b.toList = true then -1 else 1
theorem compareBytes_eq : ∀ (a b : List UInt8), Lib.compareBytes a b = if a = b then 0 else if Op.bytesLess a b = true then -1 else 1
  | [], [] => rfl
  | [], _ :: _ => by simp [Lib.compareBytes, Op.bytesLess]
  | _ :: _, [] => by simp [Lib.compareBytes, Op.bytesLess]
  | a :: xs, b :: ys => by
    rw [Lib.compareBytes, compareBytes_eq xs ys]
    by_cases h1 : a < b
    · have h2 : a ≠ b := fun e => by rw [e] at h1; exact absurd h1 (UInt8.lt_irrefl b)
      simp [Op.bytesLess, h1, h2]
    · by_cases h2 : b < a
      · have h3 : a ≠ b := fun e => by rw [e] at h2; exact absurd h2 (UInt8.lt_irrefl b)
        simp [Op.bytesLess, h1, h2, h3]
      · have h3 : a = b := by
          have := UInt8.lt_or_eq_of_le (UInt8.not_lt.1 h1)
          rcases this with h | h
          · exact absurd h h2
          · exact h.symm
        subst h3
        simp [Op.bytesLess]
theorem cmpB_eq (a b : ByteArray) : Lib.compareBytes a.data.toList b.data.toList = cmpB a b := by
  rw [compareBytes_eq]
  unfold cmpB
  rw [ByteArray.toList_eq, ByteArray.toList_eq]
  by_cases h : a = b
  · subst h; simp
  · have h2 : ¬ a.data.toList = b.data.toList := fun e => h (bl_inj e)
    rw [if_neg h, if_neg h2]
theorem scompare_any (a b : ByteArray) (w : World) : Calls Tryz.prog 84 #[.string a, .string b] w fun e w' => e = .returned (.int .i64 (cmpB a b)) ∧ w = w' := by
  rw [← cmpB_eq]
  have h1 : ∀ w, Calls Tryz.prog 104 #[.string a, .string b] w fun e w' => e = .returned (.int .i64 (Lib.compareBytes a.data.toList b.data.toList)) ∧ w = w' := fun w => by
    go_enter Tryz.func104, Tryz.ntmps104
    go_wp2
    rw [run_callFunc_extern Tryz.func130 (by kernel_rfl) (by kernel_rfl) (by kernel_rfl) (e := Extern.BytealgCompare.compare) (by kernel_rfl), Lib.run_compareString]
    simp only [Result.andThen]
    rw [Oper.upon_value]
    go_wp2
    go_ret
    exact ⟨rfl, rfl⟩
  go_enter Tryz.func84, Tryz.ntmps84
  go_wp2_with (go_at_call 104; refine (h1 _).mono ?_; rintro e w' ⟨rfl, rfl⟩)
  go_ret
  exact ⟨rfl, rfl⟩
def cmpP (p q : Pr) : Int := if cmpB p.n q.n = 0 then cmpB p.v q.v else cmpB p.n q.n
theorem cmpp_any (p q : Pr) (w : World) : Calls Tryz.prog 83 #[.agg #[.string p.n, .string p.v], .agg #[.string q.n, .string q.v]] w fun e w' => e = .returned (.int .i64 (cmpP p q)) ∧ Gr w w' := by
  unfold cmpP
  generalize h1 : cmpB p.n q.n = c
  generalize h2 : cmpB p.v q.v = d
  have H1 := Lib.hid (fun W => h1 ▸ scompare_any p.n q.n W)
  have H2 := Lib.hid (fun W => h2 ▸ scompare_any p.v q.v W)
  clear h1 h2
  by_cases hc : c = 0
  · rw [if_pos hc]
    subst hc
    go_enter Tryz.func83, Tryz.ntmps83
    go_wp2_with (go_at_call 84; first | (refine (H1.out _).mono ?_; rintro e w' ⟨rfl, rfl⟩) | (refine (H2.out _).mono ?_; rintro e w' ⟨rfl, rfl⟩))
    go_ret
    exact ⟨rfl, ((Gr.refl w).alloc _).alloc _⟩
  · rw [if_neg hc]
    have e0 : (c == 0) = false := bne_of hc
    clear hc
    go_enter Tryz.func83, Tryz.ntmps83
    go_wp2_with (go_at_call 84; refine (H1.out _).mono ?_; rintro e w' ⟨rfl, rfl⟩)
    go_ret
    exact ⟨rfl, ((Gr.refl w).alloc _).alloc _⟩
theorem cmpB_zero {a b : ByteArray} : cmpB a b = 0 ↔ a = b := by
  unfold cmpB
  constructor
  · intro h
    by_cases e : a = b
    · exact e
    · rw [if_neg e] at h; split at h <;> omega
  · rintro rfl; rw [if_pos rfl]
theorem cmpS_p (p q : Pr) (a b : List Pr) : cmpS (p :: a) (q :: b) = if cmpP p q = 0 then cmpS a b else cmpP p q := by
  rw [cmpS_cons]
  unfold cmpP
  by_cases h1 : p.n = q.n
  · rw [if_neg (by simpa using h1), if_pos (cmpB_zero.2 h1)]
    by_cases h2 : p.v = q.v
    · rw [if_neg (by simpa using h2), if_pos (cmpB_zero.2 h2)]
    · rw [if_pos h2, if_neg (fun e => h2 (cmpB_zero.1 e))]
      unfold cmpB
      rw [if_neg h2]
  · rw [if_pos h1, if_neg (fun e => h1 (cmpB_zero.1 e)), if_neg (fun e => h1 (cmpB_zero.1 e))]
    unfold cmpB
    rw [if_neg h1]
set_option maxHeartbeats 4000000 in
theorem cmpf_any (v u : Value) (l m : List Pr) (w : World) (hv : RdP w v l) (hu : RdP w u m) (hl : l.length ≤ 1048576) (hm : m.length ≤ 1048576) :
    Calls Tryz.prog 82 #[v, u, .func (.func 83) #[] #[]] w fun e w' => e = .returned (.int .i64 (cmpS l m)) ∧ Gr w w' := by
  obtain ⟨a, cap, rfl, hcap, hbig, hcell⟩ := hv.open
  obtain ⟨b, cup, rfl, hcup, hbug, hcull⟩ := hu.open
  have Hcell := Lib.hid hcell
  have Hcull := Lib.hid hcull
  clear hcell hcull hv hu
  obtain ⟨r, hr⟩ : ∃ r, cmpS l m = r := ⟨_, rfl⟩
  have HS0 : Hid (r = cmpS (l.drop 0) (m.drop 0)) := Lib.hid hr.symm
  rw [hr]
  clear hr
  go_enter Tryz.func82, Tryz.ntmps82
  go_wp2_with fail
  go_loopw [7, 8, 9, 10, 13] (fun _ _ _ _ i wr => ∃ k : Nat, k ≤ l.length ∧ k ≤ m.length ∧ i = .int .i64 k ∧ Hid (r = cmpS (l.drop k) (m.drop k)) ∧ Hid (Gr w wr)) (fun _ _ _ _ i _ => l.length - (intOf i).toNat)
  case atStart => exact ⟨0, by omega, by omega, rfl, HS0, Lib.hid (Gr.refl w)⟩
  case round =>
    clear HS0
    obtain ⟨k, hk, hkm, rfl, HS, HB⟩ := hrel
    by_cases hlt : k < l.length
    · obtain ⟨p, hp⟩ : ∃ x, l[k]? = some x := ⟨l[k], List.getElem?_eq_getElem hlt⟩
      obtain ⟨ab, ao, rfl, c1, c2⟩ := Hcell.out k p hp
      have lb := World.block_lt_of_cell? w _ c1
      have c1' : wr.cell? ⟨ab, ao + k * 2, none⟩ = some (.string p.n) := (HB.out.b.cell (p := ⟨ab, ao + k * 2, none⟩) lb).trans c1
      have c2' : wr.cell? ⟨ab, ao + k * 2 + 1, none⟩ = some (.string p.v) := (HB.out.b.cell (p := ⟨ab, ao + k * 2 + 1, none⟩) lb).trans c2
      have hbb : ab < wr.heap.size := Nat.lt_of_lt_of_le lb HB.out.b.size
      have HD : Hid (l.drop k = p :: l.drop (k + 1)) := Lib.hid (by
        obtain ⟨hk', e⟩ := List.getElem?_eq_some_iff.1 hp
        rw [List.drop_eq_getElem_cons hk', e])
      have hk1 : (0 : Int) ≤ (k : Int) := by omega
      have hk2 : (k : Int) < (l.length : Int) := by omega
      clear c1 c2 hp lb
      by_cases hmk : k < m.length
      · obtain ⟨q, hq⟩ : ∃ x, m[k]? = some x := ⟨m[k], List.getElem?_eq_getElem hmk⟩
        obtain ⟨bb, bo, rfl, d1, d2⟩ := Hcull.out k q hq
        have lb := World.block_lt_of_cell? w _ d1
        have d1' : wr.cell? ⟨bb, bo + k * 2, none⟩ = some (.string q.n) := (HB.out.b.cell (p := ⟨bb, bo + k * 2, none⟩) lb).trans d1
        have d2' : wr.cell? ⟨bb, bo + k * 2 + 1, none⟩ = some (.string q.v) := (HB.out.b.cell (p := ⟨bb, bo + k * 2 + 1, none⟩) lb).trans d2
        have hbc : bb < wr.heap.size := Nat.lt_of_lt_of_le lb HB.out.b.size
        have hk3 : (k : Int) < (m.length : Int) := by omega
        have HS1 : Hid (r = if cmpP p q = 0 then cmpS (l.drop (k + 1)) (m.drop (k + 1)) else cmpP p q) := Lib.hid (by
          obtain ⟨hk', e⟩ := List.getElem?_eq_some_iff.1 hq
          rw [HS.out, HD.out, List.drop_eq_getElem_cons hk', e, cmpS_p])
        have HC := Lib.hid (fun W => cmpp_any p q W)
        clear d1 d2 hq lb HS HD
        generalize cmpP p q = c at HS1 HC
        by_cases hc : c = 0
        · subst hc
          have HS2 : Hid (r = cmpS (l.drop (k + 1)) (m.drop (k + 1))) := Lib.hid (by rw [HS1.out, if_pos rfl])
          clear HS1
          go_wp2_with (first | (go_at_call 83; refine (HC.out _).mono ?_; rintro e w7 ⟨rfl, hg7⟩; have HG7 := Lib.hid hg7; clear hg7) | fail)
          go_roundw
          case rel => exact ⟨k + 1, by omega, by omega, by go_num, HS2, Lib.hid (Gr.trans (by repeat (first | exact HB.out | apply Gr.alloc | refine Gr.set ?_ (by simp only [World.size_alloc, World.size_setCell]; have := HB.out.b.size; omega) _)) HG7.out)⟩
          case measure => simp [intOf]; omega
        · have HS2 : Hid (r = c) := Lib.hid (by rw [HS1.out, if_neg hc])
          have hc0 : (c == 0) = false := bne_of hc
          clear HS1 hc
          go_wp2_with (first | (go_at_call 83; refine (HC.out _).mono ?_; rintro e w7 ⟨rfl, hg7⟩; have HG7 := Lib.hid hg7; clear hg7) | fail)
          go_ret
          exact ⟨ret_int HS2.out.symm, Gr.trans (by repeat (first | exact HB.out | apply Gr.alloc | refine Gr.set ?_ (by simp only [World.size_alloc, World.size_setCell]; have := HB.out.b.size; omega) _)) HG7.out⟩
      · have HS2 : Hid (r = 1) := Lib.hid (by rw [HS.out, HD.out, List.drop_of_length_le (l := m) (by omega)]; rfl)
        clear HS HD
        go_wp2_with fail
        go_ret
        exact ⟨ret_int HS2.out.symm, by repeat (first | exact HB.out | apply Gr.alloc | refine Gr.set ?_ (by simp only [World.size_alloc, World.size_setCell]; have := HB.out.b.size; omega) _)⟩
    · obtain rfl : k = l.length := by omega
      by_cases hmk : l.length < m.length
      · have HS2 : Hid (r = -1) := Lib.hid (by
          rw [HS.out, List.drop_length, List.drop_eq_getElem_cons hmk]; rfl)
        go_wp2_with fail
        go_ret
        exact ⟨ret_int HS2.out.symm, HB.out⟩
      · have HS2 : Hid (r = 0) := Lib.hid (by
          rw [HS.out, List.drop_length, List.drop_of_length_le (l := m) (by omega)]; rfl)
        go_wp2_with fail
        go_ret
        exact ⟨ret_int HS2.out.symm, HB.out⟩
theorem lcompare_any (v u : Value) (l m : List Pr) (w : World) (hv : RdP w v l) (hu : RdP w u m) (hl : l.length ≤ 1048576) (hm : m.length ≤ 1048576) :
    Calls Tryz.prog 60 #[v, u] w fun e w' => e = .returned (.int .i64 (cmpS l m)) ∧ Gr w w' := by
  obtain ⟨a, cap, rfl, -⟩ := hv.open
  obtain ⟨b, cup, rfl, -⟩ := hu.open
  have HC := Lib.hid (cmpf_any _ _ l m w hv hu hl hm)
  clear hv hu
  generalize cmpS l m = c at HC ⊢
  go_enter Tryz.func60, Tryz.ntmps60
  go_wp2_with (go_at_call 82; refine HC.out.mono ?_; rintro e w' ⟨rfl, hg⟩)
  go_ret
  exact ⟨rfl, hg⟩
end Go.Proofs.YtplieoalfbpniaaGreat
