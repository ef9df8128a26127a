/- same (19): a post has just the document's messages. -/
import Derived.Test.YtjhjbgdekpegdaaWD
namespace Go.Proofs.Ytjhjbgdekpegdaa
open Go.RowKit Go.Kt Go.Conc

theorem xor_fin : ∀ n : Fin 256, bits BinOp.xor IntKind.u8 ((n.val : Nat) : Int) 255 = (((UInt8.ofNat (n.val ^^^ 255)).toNat : Nat) : Int) := by decide +kernel
theorem xor_byte (b : UInt8) : ∃ u : UInt8, bits BinOp.xor IntKind.u8 (b.toNat : Int) 255 = (u.toNat : Int) := ⟨_, xor_fin ⟨b.toNat, b.toNat_lt⟩⟩
theorem own_msg {e : TypeId} {w : World} {v : Value} {ms : List (M × Value)} (hown : Own e 3 w v ms.length (mcells ms)) {i : Nat} {x : M × Value} (hx : ms[i]? = some x) :
    ∃ g cap, v = .slice (some ⟨g, 0, none⟩) ms.length cap ∧ w.cell? ⟨g, i * 3, none⟩ = some (.int .i64 x.1.frm) ∧ w.cell? ⟨g, i * 3 + 1, none⟩ = some (.int .i64 x.1.dst) ∧ w.cell? ⟨g, i * 3 + 2, none⟩ = some x.2 := by
  have hlt := (List.getElem?_eq_some_iff.1 hx).1
  rcases hown.2 with ⟨rfl, h0⟩ | ⟨g, cap, cur, rfl, _, hg, hn, hm, hcs, ht⟩
  · omega
  · refine ⟨g, cap, rfl, ?_, ?_, ?_⟩
    · rw [hown.cellAt (i * 3) (by omega), show i * 3 = i * 3 + 0 from rfl, mcells_get ms i 0 x hx (by omega)]; rfl
    · rw [hown.cellAt (i * 3 + 1) (by omega), mcells_get ms i 1 x hx (by omega)]; rfl
    · rw [hown.cellAt (i * 3 + 2) (by omega), mcells_get ms i 2 x hx (by omega)]; rfl
/-- the copies from the k-th on are whole -/
structure Sm (W0 wr : World) (v : Value) (ms : List (M × Value)) (k : Nat) : Prop where
  own : Own 32 3 wr v ms.length (mcells ms)
  rest : ∀ j x, k ≤ j → ms[j]? = some x → Mine8 5 W0 wr x.2 x.1.body
  bel : Below W0.heap.size W0 wr
theorem Sm.below {W0 wr w' : World} {v : Value} {ms : List (M × Value)} {k : Nat} (h : Sm W0 wr v ms k) (hb : Below wr.heap.size wr w') : Sm W0 w' v ms k :=
  ⟨h.own.below' hb, fun j x hj hx => (h.rest j x hj hx).below hb, bel_trans h.bel hb⟩
theorem Sm.next {W0 wr : World} {v : Value} {ms : List (M × Value)} {k : Nat} (h : Sm W0 wr v ms k) : Sm W0 wr v ms (k + 1) := ⟨h.own, fun j x hj hx => h.rest j x (by omega) hx, h.bel⟩
theorem Sm.set {W0 wr : World} {v : Value} {ms : List (M × Value)} {k : Nat} (h : Sm W0 wr v ms (k + 1)) (hd : ms.Pairwise fun x y => ∀ b, x.2.ownBlock = some b → y.2.ownBlock ≠ some b) {x : M × Value} (hx : ms[k]? = some x)
    {g : Nat} (hg : x.2.ownBlock = some g) {l : List UInt8} (ho : Own8 5 wr x.2 l) (hz : W0.heap.size ≤ g) (j : Nat) (u : Value) : Sm W0 (wr.setCell ⟨g, j, none⟩ u) v ms (k + 1) := by
  refine ⟨own_set h.own (fun b hb e => ?_) u, fun i y hi hy => ⟨own_set (h.rest i y hi hy).1 (fun b hb e => ?_) u, (h.rest i y hi hy).2⟩, h.bel.setCell hz u⟩
  · obtain ⟨cs, t, h1⟩ := own_block h.own hb
    obtain ⟨cs', t', h2⟩ := own_block ho hg
    simp only at e
    rw [e, h2] at h1
    injection h1 with h1
    injection h1 with _ h1
    exact absurd h1 (by decide)
  · simp only at e
    obtain ⟨hk, rfl⟩ := List.getElem?_eq_some_iff.1 hx
    obtain ⟨hi', rfl⟩ := List.getElem?_eq_some_iff.1 hy
    exact (List.pairwise_iff_getElem.1 hd k i hk hi' (by omega)) g hg (by rw [← e]; exact hb)

set_option maxRecDepth 100000 in
set_option maxHeartbeats 4000000 in
theorem same_any (B pb room room' : Nat) (l : List M) (lv : Value) (w : World) (hp : PostAt B w pb room l) (hr : RefAt w lv l) (hlen : l.length ≤ 4096) :
    Calls Try.prog 19 #[.pointer (some ⟨pb, 0, none⟩), refv room' lv] w fun e w' => e = .returned (.bool true) ∧ Below w.heap.size w w' := by
  have HP := Lib.hid hp
  have HR := Lib.hid hr
  obtain ⟨a, cap, rfl⟩ := hr.form
  have HX := Lib.hid (Blk.new w #[.int .i64 room', .slice a l.length cap] 41)
  clear hp hr
  unfold refv
  go_enter Try.func19, Try.ntmps19
  go_wp2_with fail
  refine (all_any B pb room l _ (HP.out.below (below_alloc w _))).mono ?_
  intro e w1 h1
  obtain ⟨v, ms, rfl, rfl, hcp⟩ := h1
  simp only [List.length_map] at *
  have HB1 := Lib.hid (bel_trans (below_alloc w _) hcp.bel)
  have HX1 := Lib.hid (HX.out.next hcp.bel)
  have hv := hcp.own.rd
  obtain ⟨_, va, vcap, rfl, _⟩ := hv
  have HSm : Hid (Sm (w.alloc (.cells #[.int .i64 room', .slice a ms.length cap] 41)) w1 (.slice va ms.length vcap) ms 0) := Lib.hid ⟨hcp.own, fun j x _ hx => hcp.bod x (List.mem_of_getElem? hx), hcp.bel⟩
  have Hdis := Lib.hid hcp.dis
  have q1 : w1.cell? ⟨w.heap.size, 1, none⟩ = some (.slice a ms.length cap) := HX1.out.cell 1
  have hx1l := HX1.out.lt
  have HQ : Hid (∀ n, Calls Try.prog 13 #[.pointer (some ⟨pb, 0, none⟩)] (w1.drewN n) fun e w' => e = .returned (.int .i64 ms.length) ∧ w' = w1.drewN n) := Lib.hid (fun n => by
    have := (len_any B pb room _ (w1.drewN n) (HP.out.below (bel_drewN HB1.out n))).mono fun e w' h => And.intro h.1 h.2.symm
    rw [List.length_map] at this
    exact this)
  obtain ⟨rms, hri, hrm⟩ := HR.out
  have hrl : rms.length = ms.length := by
    have := congrArg List.length hrm
    simpa using this
  have HRI := Lib.hid hri
  have Hrm := Lib.hid hrm
  have Hrl := Lib.hid hrl
  clear hcp hri hrm hrl
  go_wp2_with fail
  go_quiet ((go_at_call 13; exact Calls.quiet_of_same (HQ.out _)))
  go_wp2_with fail
  have HSm0 := Lib.hid (HSm.out.below (bel_drewN (bel_refl w1) nq))
  clear HQ q1 HSm
  generalize hW0 : (w.alloc (.cells #[.int .i64 room', .slice a ms.length cap] 41)) = W0 at *
  have HW0 : Hid (Below w.heap.size w W0) := Lib.hid (by rw [← hW0]; exact below_alloc w _)
  clear hW0
  go_loopw [6, 7, 26] (fun _ _ iv wr => ∃ k : Nat, k ≤ ms.length ∧ iv = .int .i64 k ∧ Hid (Sm W0 wr (.slice va ms.length vcap) ms k)) (fun _ _ iv _ => ms.length - (intOf iv).toNat)
  case atStart => exact ⟨0, by omega, rfl, HSm0⟩
  case round =>
    clear HSm0
    obtain ⟨k, hk, rfl, HS⟩ := hrel
    by_cases hlt : k < ms.length
    · obtain ⟨⟨m, bv⟩, hx⟩ : ∃ x, ms[k]? = some x := ⟨ms[k], List.getElem?_eq_getElem hlt⟩
      obtain ⟨g, cap', hg, c0, c1, c2⟩ := own_msg HS.out.own hx
      cases hg
      have hbo := HS.out.rest k _ (Nat.le_refl _) hx
      simp only at c0 c1 c2 hbo
      obtain ⟨ba, bcap, rfl, hb1, hb2, _⟩ := hbo.rd.open
      obtain ⟨⟨rm, rv⟩, hrx, hre⟩ : ∃ x, rms[k]? = some x ∧ x.1 = m := by
        have h1 : (rms.map (·.1))[k]? = (ms.map (·.1))[k]? := by rw [Hrm.out]
        rw [List.getElem?_map, List.getElem?_map, hx] at h1
        obtain ⟨x, hx', he⟩ := Option.map_eq_some_iff.1 h1
        exact ⟨x, hx', he⟩
      simp only at hre
      subst hre
      have HRr := Lib.hid (HRI.out.below (bel_trans HW0.out HS.out.bel))
      obtain ⟨rg, rcap, hrg, r0, r1, r2⟩ := HRr.out.msg hrx
      injection hrg with e1 e2 e3
      subst e1
      have hrb := (HRr.out.bod _ (List.mem_of_getElem? hrx)).rd
      simp only at r0 r1 r2 hrb
      obtain ⟨ra, rbcap, rfl, _⟩ := hrb.open
      have HRb := Lib.hid hrb
      have HBb := Lib.hid hbo
      have hxb := HX.out.next HS.out.bel
      have q1 : wr.cell? ⟨w.heap.size, 1, none⟩ = some (.slice (some ⟨rg, 0, none⟩) ms.length cap) := hxb.cell 1
      have HXb := Lib.hid hxb
      have hxbl := hxb.lt
      have hgl := World.block_lt_of_cell? wr _ c0
      have hrl := World.block_lt_of_cell? wr _ r0
      have hk1 : (0 : Int) ≤ (k : Int) := by omega
      have hk2 : (k : Int) < (ms.length : Int) := by omega
      have hxr := bel_refl wr
      have HC2 := Lib.hid (fun w' (h : Below wr.heap.size wr w') => own_msg (HS.out.own.below' h) hx)
      have HR2 := Lib.hid (fun w' (h : Below wr.heap.size wr w') => (HRr.out.below h).msg hrx)
      have HK : Hid (∀ w', Below wr.heap.size wr w' → w'.cell? ⟨g, k * 3, none⟩ = some (.int .i64 rm.frm) ∧ w'.cell? ⟨g, k * 3 + 1, none⟩ = some (.int .i64 rm.dst) ∧ w'.cell? ⟨g, k * 3 + 2, none⟩ = some (.slice ba rm.body.length bcap) ∧ w'.cell? ⟨w.heap.size, 1, none⟩ = some (.slice (some ⟨rg, 0, none⟩) ms.length cap) ∧ w'.cell? ⟨rg, k * 3, none⟩ = some (.int .i64 rm.frm) ∧ w'.cell? ⟨rg, k * 3 + 1, none⟩ = some (.int .i64 rm.dst) ∧ w'.cell? ⟨rg, k * 3 + 2, none⟩ = some (.slice ra rm.body.length rbcap)) := Lib.hid (fun w' h => by
        obtain ⟨g', cp', hg', d0, d1, d2⟩ := HC2.out w' h
        cases hg'
        obtain ⟨g', cp', hg', f0, f1, f2⟩ := HR2.out w' h
        injection hg' with e1 _ _
        cases e1
        exact ⟨d0, d1, d2, (HXb.out.next h).cell 1, f0, f1, f2⟩)
      have Hx := Lib.hid hx
      clear hx hrx hbo hrb hxb e2 e3 HC2 HR2
      go_wp2_with fail
      go_region_held3 (fun w' => w'.cell? ⟨g, k * 3, none⟩ = some (.int .i64 rm.frm) ∧ w'.cell? ⟨g, k * 3 + 1, none⟩ = some (.int .i64 rm.dst) ∧ w'.cell? ⟨g, k * 3 + 2, none⟩ = some (.slice ba rm.body.length bcap) ∧ w'.cell? ⟨w.heap.size, 1, none⟩ = some (.slice (some ⟨rg, 0, none⟩) ms.length cap) ∧ w'.cell? ⟨rg, k * 3, none⟩ = some (.int .i64 rm.frm) ∧ w'.cell? ⟨rg, k * 3 + 1, none⟩ = some (.int .i64 rm.dst) ∧ w'.cell? ⟨rg, k * 3 + 2, none⟩ = some (.slice ra rm.body.length rbcap))
        (first | go_keep | (exact HK.out _ (by repeat (first | assumption | apply bel_alloc | apply bel_drew))))
        (first
          | (go_at_call 12; refine (from_any rm.frm rm.dst ba rm.body.length bcap _).mono ?_; rintro e w6 ⟨rfl, hb6⟩; have hx6 : Below wr.heap.size wr w6 := bel_trans (by repeat (first | assumption | apply bel_alloc | apply bel_drew)) hb6; clear hb6)
          | (go_at_call 11; refine (same_yes rm.frm rm.dst rm.body _ _ _ (HBb.out.rd.below (by repeat (first | assumption | apply bel_alloc | apply bel_drew))) (HRb.out.below (by repeat (first | assumption | apply bel_alloc | apply bel_drew)))).mono ?_; rintro e w7 ⟨rfl, hb7⟩; have hx7 : Below wr.heap.size wr w7 := bel_trans (by repeat (first | assumption | apply bel_alloc | apply bel_drew)) hb7; clear hb7))
      all_goals (go_wp2_with fail)
      have HS7 := Lib.hid (HS.out.next.below hx7)
      have HM7 := Lib.hid (HBb.out.below hx7)
      obtain ⟨wo, rfl⟩ : ∃ wo, wo = wr := ⟨_, rfl⟩
      clear HK HXb HBb HRb HRr q1 c0 c1 c2 r0 r1 r2
      go_loopw [7, 47] (fun _ iv wi => ∃ (j : Nat) (l' : List UInt8), j ≤ rm.body.length ∧ iv = .int .i64 j ∧ Hid (l'.length = rm.body.length) ∧ Hid (Sm W0 wi (.slice (some ⟨g, 0, none⟩) ms.length vcap) ms (k + 1)) ∧ Hid (Mine8 5 W0 wi (.slice ba rm.body.length bcap) l')) (fun _ iv _ => rm.body.length - (intOf iv).toNat)
      case atStart => exact ⟨0, rm.body, by omega, rfl, Lib.hid rfl, HS7, HM7⟩
      case round =>
        clear HS7 HM7
        obtain ⟨j, l', hj, rfl, Hl', HSj, HMj⟩ := hrel
        obtain ⟨wi, rfl⟩ : ∃ wi, wi = wr := ⟨_, rfl⟩
        by_cases hjl : j < rm.body.length
        · obtain ⟨g2, hg2, hz2, c5, f5, hset⟩ := HMj.out.place j (by rw [Hl'.out]; exact hjl)
          subst hg2
          obtain ⟨g3, cp3, hg3, _, _, c2⟩ := own_msg HSj.out.own Hx.out
          cases hg3
          simp only at c2
          have Hset := Lib.hid hset
          have HSset := Lib.hid (fun u => HSj.out.set Hdis.out Hx.out rfl HMj.out.1 hz2 j u)
          have hj1 : (0 : Int) ≤ (j : Int) := by omega
          have hj2 : (j : Int) < (rm.body.length : Int) := by omega
          generalize l'[j]'(by rw [Hl'.out]; exact hjl) = by1 at *
          clear hset
          obtain ⟨u, hu⟩ := xor_byte by1
          have Hu := Lib.hid hu
          clear hu
          have hj3 : (j : Int) + 1 ≤ 9223372036854775807 := by unfold maxLen at hb2; omega
          go_wp2_with fail
          rw [Hu.out]
          go_roundw
          case rel => exact ⟨j + 1, l'.set j u, by omega, by go_num, Lib.hid (by rw [List.length_set, Hl'.out]), Lib.hid (HSset.out _), Lib.hid (Hset.out u)⟩
          case measure => simp [intOf]; omega
        · obtain rfl : j = rm.body.length := by omega
          go_wp2_with fail
          go_roundw
          case rel => exact ⟨k + 1, by omega, by go_num, HSj⟩
          case measure => simp [intOf]; omega
    · obtain rfl : k = ms.length := by omega
      go_wp2_with fail
      go_ret
      exact ⟨rfl, bel_trans HW0.out HS.out.bel⟩
end Go.Proofs.Ytjhjbgdekpegdaa
