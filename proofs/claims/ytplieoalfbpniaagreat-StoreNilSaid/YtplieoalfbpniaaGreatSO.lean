/- store.Put (15), whole; the document's example (9). -/
import Derived.Test.YtplieoalfbpniaaGreatSN
namespace Go.Proofs.YtplieoalfbpniaaGreat
open Go.RowKit Go.Kt Go.Ix Go.Sx
set_option maxRecDepth 100000
variable {F F' : Nat → Prop} {w w' : World} {s om : Nat} {S : Sp} {L : List It} {N : Nat}

/-- store.Put -/
theorem put_any (m : Wr) (t : Tm) (w : World) (h : St F w s L N) (hN : N ≤ 1000000) (hv : RdP w m.sv m.st) (hf : Fit m.st) (hx : m.x.size ≤ maxLen) :
    Calls Tryz.prog 15 #[.pointer (some ⟨s, 0, none⟩), wagg m, t.val] w fun e w' => e = .returned (.int .i64 (putS L m t).1) ∧ ∃ F', St F' w' s (putS L m t).2 (N + 1) ∧ (∀ x, F' x → F x ∨ w.heap.size ≤ x) ∧ Turn F w w' := by
  obtain ⟨om, S, h⟩ := h
  by_cases hr : RightW m
  · by_cases hful : 65536 ≤ lenL L
    · have e : putS L m t = (4, L) := by unfold putS; rw [if_neg (by rw [pb_yes hr]; simp), if_pos hful]
      rw [e]
      refine (put_bad m t w h hv hf hx (.inr ⟨pb_yes hr, hful⟩)).mono ?_
      rintro e w' ⟨rfl, hb⟩
      rw [if_neg (by rw [pb_yes hr]; simp)]
      exact ⟨rfl, F, ⟨om, S, (h.next hb).more (Nat.le_succ _)⟩, fun x hx => .inl hx, Turn.of hb⟩
    · have e : putS L m t = putL ltS L m.st m.t (verOf m t) := by unfold putS; rw [if_neg (by rw [pb_yes hr]; simp), if_neg hful]
      rw [e]
      cases hu : S.f (.string (textL m.st)) with
      | none => exact put_none m t w h hN hv hf hx hr (by omega) hu
      | some u => exact put_some m t w h hN hv hf hx hr (by omega) hu
  · have e : putS L m t = (1, L) := by unfold putS; rw [if_pos (pb_no hr)]
    rw [e]
    refine (put_bad m t w h hv hf hx (.inl (pb_no hr))).mono ?_
    rintro e w' ⟨rfl, hb⟩
    rw [if_pos (pb_no hr)]
    exact ⟨rfl, F, ⟨om, S, (h.next hb).more (Nat.le_succ _)⟩, fun x hx => .inl hx, Turn.of hb⟩
theorem scan_st (w : World) (h : St F w s L N) (hN : N ≤ 1000000) (rv : Value) (rules : List Rl) (hr : RdR w rv rules) (hg : Glob w) (a b : Int) (t : Tm) :
    Calls Tryz.prog 10 #[.pointer (some ⟨s, 0, none⟩), rv, .int .i64 a, .int .i64 b, t.val] w fun e w' => ∃ v Q, e = .returned v ∧ Pts 35 69 w w' v Q ∧ Q.map Pn.told = scanL L (fun d => allB rules d) a b t := by
  obtain ⟨om, S, h⟩ := h
  exact scan_any w h hN rv rules hr hg a b t
theorem scan_nil (rv : Value) (a b : Int) (t : Tm) (w : World) : Calls Tryz.prog 10 #[.pointer none, rv, .int .i64 a, .int .i64 b, t.val] w fun e w' => e = .returned (.slice none 0 0) ∧ Below w.heap.size w w' := by
  unfold Tm.val
  go_enter Tryz.func10, Tryz.ntmps10
  go_wp2_with (first | (go_at_call 33; refine (all_nil _).mono ?_; rintro e w2 ⟨rfl, rfl⟩) | fail)
  refine wp_loop_rounds 1 ?_
  rw [rounds_succ]
  go_wp2_with fail
  go_ret
  exact ⟨rfl, bel_alloc (bel_refl w)⟩

/-! ### the example -/
def exD : List Pr := [⟨⟨#[97]⟩, ⟨#[49]⟩⟩]
def exM (sv : Value) : Wr := ⟨exD, 5, 1, 7, ⟨#[]⟩, sv⟩
def exT : Tm := ⟨1, 0, 0⟩
theorem ex_pair : PairP ⟨⟨#[97]⟩, ⟨#[49]⟩⟩ := by
  refine ⟨⟨by decide, by decide, fun i h => ?_⟩, ⟨by decide, by decide, fun i h => ?_⟩⟩
  · have : i = 0 := by have h' : i < 1 := h; omega
    subst this
    show nameAt 0 97
    exact .inl (by decide)
  · have : i = 0 := by have h' : i < 1 := h; omega
    subst this
    show valAt 49
    exact ⟨by decide, by decide⟩
theorem exD_right : RightP exD := by
  refine ⟨by decide, fun i h => ?_⟩
  have hi : i = 0 := by simp [exD] at h; exact h
  subst hi
  exact ⟨ex_pair, fun j hj e => by omega⟩
theorem ex_ver0 : verR ⟨⟨0, 0, 0⟩, 1, 7, ⟨#[]⟩⟩ := by decide
theorem ex_ver1 : verR ⟨exT, 1, 7, ⟨#[]⟩⟩ := by decide
theorem exM_right (sv : Value) : RightW (exM sv) := ⟨exD_right, (by show (0 : Int) ≤ 5; decide), (by show (5 : Int) ≤ 4611686018427387904; decide), ex_ver0⟩
theorem ex_put (sv : Value) : putS [] (exM sv) exT = (0, [⟨exD, 5, [⟨exT, 1, 7, ⟨#[]⟩⟩]⟩]) := by
  unfold putS
  rw [if_neg (by rw [pb_yes (exM_right sv)]; simp), if_neg (by rw [lenL_nil]; omega)]
  have hc : putC [] (verOf (exM sv) exT) = (0, [⟨exT, 1, 7, ⟨#[]⟩⟩]) := by
    unfold putC
    rw [if_neg (fun h => h ex_ver1), if_neg (by simp [has])]
    rfl
  have ha : atL ([] : List It) (exM sv).st (exM sv).t = [] := rfl
  unfold putL
  rw [ha, hc]
  rfl
def exL : List It := [⟨exD, 5, [⟨exT, 1, 7, ⟨#[]⟩⟩]⟩]
theorem ex_get : getC [⟨exT, 1, 7, ⟨#[]⟩⟩] exT = some ⟨exT, 1, 7, ⟨#[]⟩⟩ := by
  simp [getC, upto, Tm.lt, exT]
theorem ex_scan1 : (scanL exL (fun d => allB [] d) 0 6 exT).length = 1 := by
  simp [scanL, exL, tell, ex_get, allB]
theorem ex_scan0 : (scanL exL (fun d => allB [] d) 0 5 exT).length = 0 := by
  simp [scanL, exL, tell, allB]
theorem ex_len : lenL exL = 1 := rfl
theorem ex_fit : Fit exD := by
  intro p hp
  simp only [exD, List.mem_singleton] at hp
  subst hp
  exact ⟨by decide, by decide⟩
set_option maxHeartbeats 2000000 in
theorem awake_any (w : World) (hg : Glob w) : Calls Tryz.prog 9 #[] w fun e w' => e = .returned (.bool true) ∧ Below w.heap.size w w' := by
  have HG := Lib.hid hg
  clear hg
  have hl1 : decide ((lenL exL : Int) = 1) = true := by rw [ex_len]; rfl
  have HL1 := Lib.hid ex_len
  go_enter Tryz.func9, Tryz.ntmps9
  go_wp2_with (first
    | (go_at_call 14; refine (new_any w).mono ?_; rintro e w1 ⟨s, rfl, h1, hb1⟩; have H1 := Lib.hid h1; have HB1 := Lib.hid hb1; clear h1 hb1)
    | fail)
  have hp := put_any (exM (.slice (some ⟨w1.heap.size, 0, none⟩) 1 1)) exT (w1.alloc (.cells #[.string ⟨#[97]⟩, .string ⟨#[49]⟩] 69)) (H1.out.next (below_alloc _ _)) (by omega) (OwnP.rd (e := 69) (own_lit w1 69 2 #[.string ⟨#[97]⟩, .string ⟨#[49]⟩] 1 (by simp [maxLen]) rfl)) ex_fit (Nat.zero_le _)
  rw [ex_put] at hp
  refine hp.mono ?_
  rintro e w2 ⟨rfl, F2, h2, hF2, ht2⟩
  have H2 := Lib.hid (show St F2 w2 s exL 1 from h2)
  have HB2 : Hid (Below w.heap.size w w2) := Lib.hid (((Turn.of (F := fun x => w.heap.size ≤ x ∧ x < w1.heap.size) (below_alloc w1 _)).trans ht2 (fun x hx => .inl hx)) |> fun h => HB1.out.trans (h.bel HB1.out.size (fun x hx => hx.1)))
  clear h2 hF2 ht2 hp
  have hscan : ∀ (b : Int) (n : Nat), (scanL exL (fun d => allB [] d) 0 b exT).length = n → ∀ (W : World), Below w2.heap.size w2 W → Calls Tryz.prog 10 #[.pointer (some ⟨s, 0, none⟩), .slice none 0 0, .int .i64 0, .int .i64 b, .agg #[.int .i64 1, .int .u32 0, .int .u32 0]] W fun e w' => ∃ a c, e = .returned (.slice a n c) ∧ Below W.heap.size W w' := fun b n hn W hW => by
    refine (scan_st W (H2.out.next hW) (by omega) (.slice none 0 0) [] (own_nil W 119 3).rd ((HG.out.below HB2.out).below hW) 0 b exT).mono ?_
    rintro e w' ⟨v, Q, rfl, hp, hq⟩
    obtain ⟨a, c, rfl, _⟩ := hp.rd.open
    have hl := congrArg List.length hq
    rw [List.length_map, hn] at hl
    rw [hl]
    exact ⟨a, c, rfl, hp.bel⟩
  have HS1 := Lib.hid (hscan 6 1 ex_scan1)
  have HS2 := Lib.hid (hscan 5 0 ex_scan0)
  have HLn : Hid (∀ W, Below w2.heap.size w2 W → Calls Tryz.prog 19 #[.pointer (some ⟨s, 0, none⟩)] W fun e w' => e = .returned (.int .i64 1) ∧ W = w') := Lib.hid (fun W hW => by
    have := len_any W (H2.out.next hW)
    rw [ex_len] at this
    exact this)
  clear hscan hl1
  go_wp2_with (first
    | (go_at_call 19; refine (HLn.out w2 (bel_refl w2)).mono ?_; rintro e w3 ⟨rfl, rfl⟩)
    | fail)
  refine (HS1.out w2 (bel_refl w2)).mono ?_
  rintro e w3 ⟨a3, c3, rfl, hb3⟩
  have HB3 := Lib.hid hb3
  clear hb3 HS1
  go_wp2_with fail
  refine (HS2.out w3 HB3.out).mono ?_
  rintro e w4 ⟨a4, c4, rfl, hb4⟩
  have HB4 := Lib.hid hb4
  clear hb4 HS2
  go_wp2_with fail
  go_ret
  exact ⟨rfl, bel_trans HB2.out (bel_trans HB3.out HB4.out)⟩
end Go.Proofs.YtplieoalfbpniaaGreat
