/- The document's Retain (28). -/
import Derived.Test.YtplieoalfbpniaaGreatD1
set_option linter.unusedVariables false
set_option linter.unusedSimpArgs false
namespace Go.Proofs.YtplieoalfbpniaaGreat
open Go.RowKit Go.Kt Go.Ix Go.Sx
set_option maxRecDepth 100000
theorem ok65 : ElemOk Tryz.prog 65 123 (.agg #[.slice none 0 0, .int .i64 0, .slice none 0 0]) 3 56 := ⟨Tryz.underlying65, info_parts (by kernel_rfl), rfl, by decide⟩
theorem icells_one (x : Itm) (h1 : x.sv.oneCell' = true) (h2 : x.lv.oneCell' = true) : ∀ u ∈ icells x, u.oneCell' = true := by
  intro u hu
  simp only [icells, List.mem_cons, List.not_mem_nil, or_false] at hu
  rcases hu with rfl | rfl | rfl
  · exact h1
  · rfl
  · exact h2
/-- who turns, and who holds a row -/
def Or2 (F : Nat → Prop) (v : Value) : Nat → Prop := fun b => F b ∨ v.ownBlock = some b
theorem ItR.mono {F G : Nat → Prop} {w : World} {x : Itm} (h : ItR F w x) (hG : ∀ b, G b → F b ∨ w.heap.size ≤ b) : ItR G w x := h.keep (Turn.refl _ _) hG
/-- who turns, and one block -/
def OrB (F : Nat → Prop) (g : Nat) : Nat → Prop := fun b => F b ∨ b = g
/-- a row of items of our own: the call's new one -/
structure Mits (F : Nat → Prop) (w0 w : World) (v : Value) (R : List Itm) : Prop where
  row : Mine 123 3 w0 w v R.length (flatI R)
  it : ∀ x ∈ R, ItR (Or2 F v) w x
theorem Mits.bel {F : Nat → Prop} {w0 w : World} {v : Value} {R : List Itm} (h : Mits F w0 w v R) : Below w0.heap.size w0 w := h.row.2.2
theorem Mits.below {F : Nat → Prop} {w0 w w' : World} {v : Value} {R : List Itm} (h : Mits F w0 w v R) (hb : Below w.heap.size w w') : Mits F w0 w' v R := ⟨h.row.below hb, fun x hx => (h.it x hx).keep (Turn.of hb) (fun _ h => .inl h)⟩
theorem Mits.nil (F : Nat → Prop) (w : World) : Mits F w w (.slice none 0 0) [] := ⟨⟨own_nil w 123 3, (fun b hb => by cases hb), bel_refl w⟩, fun x hx => by cases hx⟩
theorem Mits.st {F : Nat → Prop} {w0 w : World} {v : Value} {R : List Itm} (h : Mits F w0 w v R) (hF : ∀ x, F x → x < w0.heap.size) : RSt F w v R := ⟨h.row.rd, Far.fresh h.row.1 hF h.row.2.1, fun x hx => (h.it x hx).mono (fun _ hb => .inl (.inl hb))⟩
theorem Mits.since {F : Nat → Prop} {w0 w1 w : World} {v : Value} {R : List Itm} (h : Mits F w1 w v R) (hb : Below w0.heap.size w0 w1) : Mits F w0 w v R :=
  ⟨⟨h.row.1, fun b hb' => Nat.le_trans hb.size (h.row.2.1 b hb'), bel_trans hb h.row.2.2⟩, h.it⟩
/-- an item that stood ahead of the call is apart from the call's row -/
theorem Mits.old {F : Nat → Prop} {w0 w : World} {v : Value} {R : List Itm} (h : Mits F w0 w v R) {x : Itm} (hx : ItR F w0 x) : ItR (Or2 F v) w x :=
  (hx.keep (G := fun b => F b ∨ w0.heap.size ≤ b) (Turn.of h.bel) (fun b hb => hb)).mono (fun b hb => by
    rcases hb with hb | hb
    · exact .inl (.inl hb)
    · exact .inl (.inr (h.row.2.1 b hb)))
/-- one more item -/
theorem Mits.push {F : Nat → Prop} {w0 w w' : World} {v v' : Value} {R : List Itm} {x : Itm} (h : Mits F w0 w v R) (hx : ItR (Or2 F v) w x)
    (ho : Kt.Own 123 3 w' v' (R.length + 1) (flatI R ++ icells x)) (hg : w.grownBy w' v.ownBlock) (hn : ∀ b, v'.ownBlock = some b → v.ownBlock = some b ∨ w.heap.size ≤ b) : Mits F w0 w' v' (R ++ [x]) := by
  have ht : Turn (Or2 F v) w w' := Turn.grown hg (fun b hb => .inr hb)
  have hG : ∀ b, Or2 F v' b → Or2 F v b ∨ w.heap.size ≤ b := fun b hb => by
    rcases hb with hb | hb
    · exact .inl (.inl hb)
    · rcases hn b hb with h1 | h1
      · exact .inl (.inr h1)
      · exact .inr h1
  have hs := h.bel.size
  refine ⟨⟨?_, fun b hb => ?_, h.bel.grown hg hs (fun k hk => h.row.2.1 k hk)⟩, fun y hy => ?_⟩
  · rw [List.length_append, flatI_append]
    simpa [flatI] using ho
  · rcases hn b hb with h1 | h1
    · exact h.row.2.1 b h1
    · omega
  · rcases List.mem_append.1 hy with hy | hy
    · exact (h.it y hy).keep ht hG
    · rw [List.mem_singleton.1 hy]
      exact hx.keep ht hG
/-- those from a time on -/
def retI (Q : List Itm) (t : Int) : List Itm := Q.filter fun x => decide (t ≤ x.it.time)
theorem toldI_ret (Q : List Itm) (t : Int) : toldI (retI Q t) = retL (toldI Q) t := by
  unfold toldI retI retL
  rw [List.filter_map]
  rfl
theorem retI_take {Q : List Itm} {k : Nat} {x : Itm} (h : Q[k]? = some x) (t : Int) : retI (Q.take (k + 1)) t = retI (Q.take k) t ++ (if t ≤ x.it.time then [x] else []) := by
  obtain ⟨hk, rfl⟩ := List.getElem?_eq_some_iff.1 h
  rw [List.take_succ_eq_append_getElem hk]
  unfold retI
  rw [List.filter_append]
  by_cases e : t ≤ Q[k].it.time <;> simp [e]
set_option maxHeartbeats 4000000 in
theorem rret_any {F : Nat → Prop} (v : Value) (Q : List Itm) (ti : Int) (w : World) (h : RSt F w v Q) (hF : ∀ x, F x → x < w.heap.size) (hl : Q.length ≤ 65536) :
    Calls Tryz.prog 28 #[.agg #[v], .int .i64 ti] w fun e w' => ∃ v', e = .returned (.agg #[v']) ∧ RSt F w' v' (retI Q ti) ∧ Below w.heap.size w w' := by
  obtain ⟨a, cap, rfl, hcap, hbig, hcell⟩ := h.open
  have Hcell := Lib.hid hcell
  have HL := Lib.hid hl
  have HF := Lib.hid hF
  clear hcell h hl hF
  have HX := Lib.hid ((Blk.new w #[.slice a Q.length cap] 67).next (below_alloc _ (.cells #[.slice none 0 0] 67)))
  have HBa := Lib.hid (bel_alloc (o := .cells #[.slice none 0 0] 67) (below_alloc w (.cells #[.slice a Q.length cap] 67)))
  have HY := Lib.hid (Blk.new (w.alloc (.cells #[.slice a Q.length cap] 67)) #[.slice none 0 0] 67)
  rw [World.size_alloc] at HY
  go_enter Tryz.func28, Tryz.ntmps28
  go_wp2_with fail
  generalize (w.alloc (.cells #[.slice a Q.length cap] 67)).alloc (.cells #[.slice none 0 0] 67) = w1 at HX HBa HY ⊢
  have HNo : Hid (∀ x, OrB F (w.heap.size + 1) x → F x ∨ w.heap.size ≤ x) := Lib.hid (fun x hx => by
    rcases hx with h | h
    · exact .inl h
    · exact .inr (by omega))
  have HFo : Hid (∀ x, OrB F (w.heap.size + 1) x → x < w1.heap.size) := Lib.hid (fun x hx => by
    rcases hx with h | h
    · exact Nat.lt_of_lt_of_le (HF.out x h) HBa.out.size
    · rw [h]; exact HY.out.lt)
  have HM0 : Hid (Mits (OrB F (w.heap.size + 1)) w1 w1 (.slice none 0 0) (retI (Q.take 0) ti)) := Lib.hid (Mits.nil _ w1)
  go_loopw [5, 6] (fun ov i wr => ∃ k : Nat, k ≤ Q.length ∧ i = .int .i64 k ∧ Hid (Mits (OrB F (w.heap.size + 1)) w1 wr ov (retI (Q.take k) ti))) (fun _ i _ => Q.length - (intOf i).toNat)
  case atStart => exact ⟨0, by omega, rfl, HM0⟩
  case round =>
    clear HM0
    obtain ⟨k, hk, rfl, HM⟩ := hrel
    have x0 : wr.cell? ⟨w.heap.size, 0, none⟩ = some (.slice a Q.length cap) := (HX.out.next HM.out.bel).cell 0
    by_cases hlt : k < Q.length
    · obtain ⟨x, hx⟩ : ∃ x, Q[k]? = some x := ⟨Q[k], List.getElem?_eq_getElem hlt⟩
      obtain ⟨hr, b, o, rfl, hbl, c0, c1, c2⟩ := Hcell.out k x hx
      obtain ⟨sa, sc, hsv, -⟩ := hr.set.open
      obtain ⟨la, lc, hlv, -⟩ := hr.ver.open
      have hB := bel_trans HBa.out HM.out.bel
      have d0 : wr.cell? ⟨b, o + k * 3, none⟩ = some (.slice sa x.it.set.length sc) := by rw [← hsv]; exact (hB.cell (p := ⟨b, _, none⟩) hbl).trans c0
      have d1 : wr.cell? ⟨b, o + k * 3 + 1, none⟩ = some (.int .i64 x.it.time) := (hB.cell (p := ⟨b, _, none⟩) hbl).trans c1
      have d2 : wr.cell? ⟨b, o + k * 3 + 2, none⟩ = some (.slice la x.it.l.length lc) := by rw [← hlv]; exact (hB.cell (p := ⟨b, _, none⟩) hbl).trans c2
      have HT := Lib.hid (retI_take hx ti)
      have HI : Hid (ItR (Or2 (OrB F (w.heap.size + 1)) u5) wr x) := Lib.hid (HM.out.old (hr.keep (Turn.of HBa.out) HNo.out))
      have hk1 : (0 : Int) ≤ (k : Int) := by omega
      have hk2 : (k : Int) < (Q.length : Int) := by omega
      have HRl : Hid ((retI (Q.take k) ti).length ≤ 65536) := Lib.hid (Nat.le_trans (List.length_filter_le _ _) (by rw [List.length_take]; have := HL.out; omega))
      have hic : icells x = [.slice sa x.it.set.length sc, .int .i64 x.it.time, .slice la x.it.l.length lc] := by unfold icells; rw [hsv, hlv]
      have Hic := Lib.hid hic
      clear c0 c1 c2 hx hr hsv hlv hB hic
      by_cases hti : ti ≤ x.it.time
      · have hb1 : decide (ti ≤ x.it.time) = true := by simpa using hti
        have HTe : Hid (retI (Q.take (k + 1)) ti = retI (Q.take k) ti ++ [x]) := Lib.hid (by rw [HT.out, if_pos hti])
        go_wp2_with (at_builtin; apply Hold.mk)
        unfold Hold
        refine wpList_app rfl _ _ 65 rfl ok65 (by rfl) (by rfl) (HM.out.row.1.below' (below_alloc _ _)) (by exact rd_lit 3 #[.slice sa x.it.set.length sc, .int .i64 x.it.time, .slice la x.it.l.length lc] 1 (by simp) one_le rfl) (by intro u hu; simp only [List.mem_cons, List.not_mem_nil, or_false] at hu; rcases hu with rfl | rfl | rfl <;> rfl) (by have := HRl.out; simp only [maxLen]; omega) (by have := HRl.out; omega) ?_
        intro v9 w9 ho9 hg9 hn9
        have HM9 : Hid (Mits (OrB F (w.heap.size + 1)) w1 w9 v9 (retI (Q.take (k + 1)) ti)) := Lib.hid (by
          rw [HTe.out]
          refine (HM.out.below (below_alloc _ _)).push (HI.out.keep (Turn.of (below_alloc _ _)) (fun _ h => .inl h)) ?_ hg9 hn9
          rw [Hic.out]; exact ho9)
        clear ho9 hg9 hn9
        go_wp2_with fail
        go_roundw
        case rel => exact ⟨k + 1, by omega, by go_num, HM9⟩
        case measure => simp [intOf]; omega
      · have hb1 : decide (ti ≤ x.it.time) = false := by simpa using hti
        have HTe : Hid (retI (Q.take (k + 1)) ti = retI (Q.take k) ti) := Lib.hid (by rw [HT.out, if_neg hti, List.append_nil])
        go_wp2_with fail
        go_roundw
        case rel => exact ⟨k + 1, by omega, by go_num, Lib.hid (by rw [HTe.out]; exact HM.out)⟩
        case measure => simp [intOf]; omega
    · obtain rfl : k = Q.length := by omega
      rw [List.take_length] at HM
      have hy := HY.out.next HM.out.bel
      have y0 : wr.cell? ⟨w.heap.size + 1, 0, none⟩ = some (.slice none 0 0) := hy.cell 0
      have y1 : wr.frozen? ⟨w.heap.size + 1, 0, none⟩ = false := hy.free 0
      obtain ⟨-, ra, rc, e, -, -, -, -⟩ := HM.out.row.rd
      subst e
      have HS := Lib.hid (HM.out.st HFo.out)
      have HB := Lib.hid (bel_trans HBa.out HM.out.bel)
      have hz : (wr.setCell ⟨w.heap.size + 1, 0, none⟩ (.slice ra (retI Q ti).length rc)).cell? ⟨w.heap.size + 1, 0, none⟩ = some (.slice ra (retI Q ti).length rc) := (hy.set 0 (.slice ra (retI Q ti).length rc)).cell 0
      clear hy HM
      go_wp2_with fail
      refine bodyPost_ret (v := .agg #[.slice ra (retI Q ti).length rc]) (by simp [results, Tryz.results28, go_sem, hz]) rfl ⟨_, rfl, ?_, ?_⟩
      · exact HS.out.keep ((Turn.refl (OrB F (w.heap.size + 1)) wr).set (a := ⟨w.heap.size + 1, 0, none⟩) (.inr rfl) _) (fun b hb => .inl (.inl hb))
      · exact bel_set HB.out (by show w.heap.size ≤ w.heap.size + 1; omega)
end Go.Proofs.YtplieoalfbpniaaGreat
