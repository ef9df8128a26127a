/- A series laid into a store in memory. -/
import Derived.Test.YtplieoalfbpniaaGreatSD
namespace Go.Proofs.YtplieoalfbpniaaGreat
open Go.RowKit Go.Kt Go.Ix Go.Sx
set_option maxRecDepth 100000
variable {F F' : Nat → Prop} {w w' : World} {s om : Nat} {S : Sp} {L : List It} {N : Nat}

/-- a series that is new, with one version -/
theorem put_new {w1 w2 w3 : World} {d : List Pr} {xb mb : Nat} {sv v' : Value} {z : Int} {c : List Ver} {n2 n3 : Nat} (h : StAt F w s om S L N) (hu : S.f (.string (textL d)) = none) (hd : RightP d) (hz : 0 ≤ z ∧ z ≤ 4611686018427387904) (hb : Below w.heap.size w w1)
    (hx : Blk w1 xb #[sv, .map (some mb)] 90) (hx2 : w.heap.size ≤ xb) (hs : OwnP 69 w1 sv d) (hs2 : ∀ b, sv.ownBlock = some b → w.heap.size ≤ b) (hmb : MapIs Tryz.prog 2 w1 mb (fun _ => none) 0) (hmb2 : w.heap.size ≤ mb)
    (hv : OwnV 98 w1 v' c) (hv2 : ∀ b, v'.ownBlock = some b → w.heap.size ≤ b) (hc : Chain c) (hcl : c.length = 1) (hcv : ∀ x ∈ c, verR x)
    (hm2 : MapIs Tryz.prog 2 w2 mb (upd (fun _ => none) (litT z) v') n2) (hn2 : n2 ≤ 1) (hg2 : w1.grownBy w2 (some mb))
    (hm3 : MapIs Tryz.prog 9 w3 om (upd S.f (.string (textL d)) (.pointer (some ⟨xb, 0, none⟩))) n3) (hn3 : n3 = S.n + 1) (hg3 : w2.grownBy w3 (some om)) (hlen : lenL L + 1 ≤ 65536) :
    ∃ F' S', StAt F' (w3.setCell ⟨s, 1, none⟩ (.int .i64 ((lenL L : Int) + 1))) s om S' (setL ltS L d z c) (N + 1) ∧ (∀ x, F' x → F x ∨ w.heap.size ≤ x) ∧ (∀ x, F x → F' x) ∧ Turn F w (w3.setCell ⟨s, 1, none⟩ (.int .i64 ((lenL L : Int) + 1))) := by
  have h1 := h.next hb
  subst hn3
  have hsz := hb.size
  obtain ⟨k, hk⟩ : ∃ k : Lit, k = .string (textL d) := ⟨_, rfl⟩
  rw [← hk] at hu hm3
  let G : Nat → Prop := fun x => x = mb ∨ x = om ∨ x = s
  have hsoft : Soft w1 G := by
    rintro x (rfl | rfl | rfl)
    · exact .inl (map_is hmb)
    · exact .inl (map_is h1.outer)
    · exact .inr ⟨_, _, h1.blk⟩
  have t2 : Turn G w1 w2 := Turn.grown hg2 (fun b hb => .inl (by injection hb with hb; exact hb.symm))
  have t3 : Turn G w2 w3 := Turn.grown hg3 (fun b hb => .inr (.inl (by injection hb with hb; exact hb.symm)))
  have t23 : Turn G w1 w3 := t2.trans t3 (fun x hx => .inl hx)
  have t4 : Turn G w1 (w3.setCell ⟨s, 1, none⟩ (.int .i64 ((lenL L : Int) + 1))) := t23.set (.inr (.inr rfl)) _
  have hslt := h.lt _ h.Fs
  have holt := h.lt _ h.Fo
  have hsb : s ≠ mb := by omega
  have hso : s ≠ om := blk_no_map h1.blk h1.outer
  have hbs3 : Blk w3 s #[.map (some om), .int .i64 (lenL L : Int)] 104 := by
    have a2 : Blk w2 s #[.map (some om), .int .i64 (lenL L : Int)] 104 := h1.blk.grown hg2 (fun e => hsb (by injection e with e; exact e.symm))
    exact a2.grown hg3 (fun e => hso (by injection e with e; exact e.symm))
  have hbs4 := hbs3.set 1 (.int .i64 ((lenL L : Int) + 1))
  have hm4 : MapIs Tryz.prog 2 (w3.setCell ⟨s, 1, none⟩ (.int .i64 ((lenL L : Int) + 1))) mb (upd (fun _ => none) (litT z) v') n2 := (hm2.grown hg3 (fun e => by injection e with e; omega)).setCell (a := ⟨s, 1, none⟩) (fun e => hsb e.symm) _
  have hm5 := hm3.setCell (a := ⟨s, 1, none⟩) (fun e => hso e.symm) (.int .i64 ((lenL L : Int) + 1))
  have hv4 : OwnV 98 (w3.setCell ⟨s, 1, none⟩ (.int .i64 ((lenL L : Int) + 1))) v' c := own_keep t4 hv (soft_own hsoft hv (by decide))
  have hnone : atL L d z = [] := h.none hd (fun u v hu' _ => by rw [← hk, hu] at hu'; cases hu')
  have hlen2 : lenL (setL ltS L d z c) = lenL L + 1 := by
    have := lenL_set line_sets h.ok.rise d z c
    rw [hnone] at this
    simp only [List.length_nil] at this
    omega
  have hne : ∀ k' u', S.f k' = some u' → k' ≠ k := fun k' u' hu' e => by rw [e, hu] at hu'; cases hu'
  refine ⟨fun x => F x ∨ v'.ownBlock = some x ∨ sv.ownBlock = some x ∨ x = mb ∨ x = xb, ⟨upd S.f k (.pointer (some ⟨xb, 0, none⟩)), S.n + 1, setX S.x k xb, setX S.sv k sv, setX S.d k d, setX S.b k mb, setX S.g k (upd (fun _ => none) (litT z) v'), setX S.c k n2, setX S.l k (setX (S.l k) (litT z) c)⟩, ⟨?_, .inl h.Fs, .inl h.Fo, hm5, ?_, ?_, ?_, ?_, ?_, by omega, ⟨Nat.succ_le_succ h.nb.1, ?_⟩, ?_⟩, ?_, fun x hx => .inl hx, ?_⟩
  · rw [hlen2]
    exact hbs4
  · intro k' u' hu'
    have hu0 : upd S.f k (.pointer (some ⟨xb, 0, none⟩)) k' = some u' := hu'
    by_cases e : k' = k
    · rw [e] at hu0 ⊢
      rw [upd_same] at hu0
      injection hu0 with hu0
      subst hu0
      refine ⟨?_, ?_, ?_, ?_, ?_, ?_, ?_, ?_, ?_, ?_, ?_⟩
      · show _ = Value.pointer (some ⟨setX S.x k xb k, 0, none⟩)
        rw [setX_same]
      · exact .inr (.inr (.inr (.inr (setX_same _ _ _))))
      · show Blk _ (setX S.x k xb k) #[setX S.sv k sv k, .map (some (setX S.b k mb k))] 90
        rw [setX_same, setX_same, setX_same]
        exact blk_keep t4 hx (soft_blk hsoft hx (by decide))
      · show OwnP 69 _ (setX S.sv k sv k) (setX S.d k d k)
        rw [setX_same, setX_same]
        exact own_keep t4 hs (soft_own hsoft hs (by decide))
      · show ∀ b, (setX S.sv k sv k).ownBlock = some b → _
        rw [setX_same]
        exact fun b hb => .inr (.inr (.inl hb))
      · exact .inr (.inr (.inr (.inl (setX_same _ _ _))))
      · show setX S.b k mb k ≠ om
        rw [setX_same]
        omega
      · show MapIs Tryz.prog 2 _ (setX S.b k mb k) (setX S.g k _ k) (setX S.c k n2 k)
        rw [setX_same, setX_same, setX_same]
        exact hm4
      · show k = .string (textL (setX S.d k d k))
        rw [setX_same]
        exact hk
      · show RightP (setX S.d k d k)
        rw [setX_same]
        exact hd
      · intro t v hv0
        have hv0 : setX S.g k (upd (fun _ => none) (litT z) v') k t = some v := hv0
        show OwnV 98 _ v (setX S.l k (setX (S.l k) (litT z) c) k t) ∧ _
        rw [setX_same] at hv0 ⊢
        by_cases et : t = litT z
        · subst et
          rw [upd_same] at hv0
          injection hv0 with hv0
          subst hv0
          rw [setX_same]
          exact ⟨hv4, fun b hb => .inr (.inl hb), z, rfl, hz⟩
        · rw [upd_other _ _ et] at hv0
          cases hv0
    · rw [upd_other _ _ e] at hu0
      have hk' := h.ser k' u' hu0
      have hbl := h.lt _ hk'.Fb
      have := (h1.ser k' u' hu0).soft t4 hsoft (by
        rintro (e2 | e2 | e2)
        · omega
        · exact hk'.ne e2
        · exact blk_no_map h1.blk (h1.ser k' u' hu0).map e2.symm)
      refine ⟨?_, ?_, ?_, ?_, ?_, ?_, ?_, ?_, ?_, ?_, ?_⟩
      · show _ = Value.pointer (some ⟨setX S.x k xb k', 0, none⟩)
        rw [setX_other _ _ e]; exact this.ptr
      · left
        show F (setX S.x k xb k')
        rw [setX_other _ _ e]; exact this.Fx
      · show Blk _ (setX S.x k xb k') #[setX S.sv k sv k', .map (some (setX S.b k mb k'))] 90
        rw [setX_other _ _ e, setX_other _ _ e, setX_other _ _ e]; exact this.blk
      · show OwnP 69 _ (setX S.sv k sv k') (setX S.d k d k')
        rw [setX_other _ _ e, setX_other _ _ e]; exact this.set
      · show ∀ b, (setX S.sv k sv k').ownBlock = some b → _
        rw [setX_other _ _ e]
        exact fun b hb => .inl (this.Fs b hb)
      · left
        show F (setX S.b k mb k')
        rw [setX_other _ _ e]; exact this.Fb
      · show setX S.b k mb k' ≠ om
        rw [setX_other _ _ e]; exact this.ne
      · show MapIs Tryz.prog 2 _ (setX S.b k mb k') (setX S.g k _ k') (setX S.c k n2 k')
        rw [setX_other _ _ e, setX_other _ _ e, setX_other _ _ e]; exact this.map
      · show k' = .string (textL (setX S.d k d k'))
        rw [setX_other _ _ e]; exact this.key
      · show RightP (setX S.d k d k')
        rw [setX_other _ _ e]; exact this.right
      · intro t v hv0
        have hv0 : setX S.g k (upd (fun _ => none) (litT z) v') k' t = some v := hv0
        show OwnV 98 _ v (setX S.l k (setX (S.l k) (litT z) c) k' t) ∧ _
        rw [setX_other _ _ e] at hv0 ⊢
        obtain ⟨r1, r2, r3⟩ := this.rows t v hv0
        exact ⟨r1, fun b hb => .inl (r2 b hb), r3⟩
  · intro k1 u1 k2 u2 h1' h2' hne12
    have h1' : upd S.f k (.pointer (some ⟨xb, 0, none⟩)) k1 = some u1 := h1'
    have h2' : upd S.f k (.pointer (some ⟨xb, 0, none⟩)) k2 = some u2 := h2'
    show setX S.b k mb k1 ≠ setX S.b k mb k2
    by_cases e1 : k1 = k
    · have e2 : k2 ≠ k := fun e => hne12 (by rw [e1, e])
      rw [upd_other _ _ e2] at h2'
      rw [e1, setX_same, setX_other _ _ e2]
      have := h.lt _ (h.ser k2 u2 h2').Fb
      omega
    · rw [upd_other _ _ e1] at h1'
      rw [setX_other _ _ e1]
      by_cases e2 : k2 = k
      · rw [e2, setX_same]
        have := h.lt _ (h.ser k1 u1 h1').Fb
        omega
      · rw [upd_other _ _ e2] at h2'
        rw [setX_other _ _ e2]
        exact h.apart k1 u1 k2 u2 h1' h2' hne12
  · intro it
    rw [setL_told]
    constructor
    · rintro (rfl | ⟨hm, -⟩)
      · refine ⟨k, .pointer (some ⟨xb, 0, none⟩), z, v', upd_same _ _ _, ?_, ?_⟩
        · show setX S.g k _ k (litT z) = some v'
          rw [setX_same, upd_same]
        · show _ = (⟨setX S.d k d k, z, setX S.l k _ k (litT z)⟩ : It)
          rw [setX_same, setX_same, setX_same]
      · obtain ⟨k', u', z', v, hu', hv0, rfl⟩ := (h.told it).1 hm
        have e := hne k' u' hu'
        refine ⟨k', u', z', v, ?_, ?_, ?_⟩
        · show upd S.f k _ k' = some u'
          rw [upd_other _ _ e]; exact hu'
        · show setX S.g k _ k' (litT z') = some v
          rw [setX_other _ _ e]; exact hv0
        · show _ = (⟨setX S.d k d k', z', setX S.l k _ k' (litT z')⟩ : It)
          rw [setX_other _ _ e, setX_other _ _ e]
    · rintro ⟨k', u', z', v, hu', hv0, rfl⟩
      have hu' : upd S.f k (.pointer (some ⟨xb, 0, none⟩)) k' = some u' := hu'
      have hv0 : setX S.g k (upd (fun _ => none) (litT z) v') k' (litT z') = some v := hv0
      show (⟨setX S.d k d k', z', setX S.l k _ k' (litT z')⟩ : It) = _ ∨ _
      by_cases e : k' = k
      · left
        rw [e, setX_same] at hv0
        rw [e, setX_same, setX_same]
        by_cases ez : z' = z
        · rw [ez, setX_same]
        · have hzz : litT z' ≠ litT z := fun e => ez (litT_inj e)
          rw [upd_other _ _ hzz] at hv0
          cases hv0
      · right
        rw [setX_other _ _ e] at hv0
        rw [upd_other _ _ e] at hu'
        show (⟨setX S.d k d k', z', setX S.l k _ k' (litT z')⟩ : It) ∈ L ∧ ¬ (setX S.d k d k' = d ∧ z' = z)
        rw [setX_other _ _ e, setX_other _ _ e]
        refine ⟨(h.told _).2 ⟨k', u', z', v, hu', hv0, rfl⟩, fun e2 => ?_⟩
        have := (h.ser k' u' hu').key
        rw [e2.1, ← hk] at this
        exact e this
  · refine ⟨setL_rise line_sets h.ok.rise _ _ _, fun x hx => ?_, fun x hx => ?_⟩
    · rcases setL_told.1 hx with rfl | ⟨h1, -⟩
      · exact hc
      · exact h.ok.chain x h1
    · rcases setL_told.1 hx with rfl | ⟨h1, -⟩
      · intro e
        have e : c = [] := e
        rw [e] at hcl
        simp at hcl
      · exact h.ok.full x h1
  · intro it hit
    rcases setL_told.1 hit with rfl | ⟨h1, -⟩
    · exact hcv
    · exact h.ver it h1
  · intro k' u' hu'
    have hu' : upd S.f k (.pointer (some ⟨xb, 0, none⟩)) k' = some u' := hu'
    show setX S.c k n2 k' ≤ N + 1
    by_cases e : k' = k
    · rw [e, setX_same]
      omega
    · rw [setX_other _ _ e]
      rw [upd_other _ _ e] at hu'
      exact Nat.le_succ_of_le (h.nb.2 k' u' hu')
  · intro x hx2
    have hs4 := t4.size
    rcases hx2 with hx2 | hx2 | hx2 | rfl | rfl
    · have := h.lt x hx2
      omega
    · exact hv4.lt x hx2
    · have := hs.lt x hx2
      omega
    · have := hmb.lt
      omega
    · have := hx.lt
      omega
  · intro x hx'
    rcases hx' with hx' | hx' | hx' | rfl | rfl
    · exact .inl hx'
    · exact .inr (hv2 x hx')
    · exact .inr (hs2 x hx')
    · exact .inr hmb2
    · exact .inr hx2
  · refine (Turn.of (F := F) hb).trans t4 ?_
    rintro x (rfl | rfl | rfl)
    · exact .inr hmb2
    · exact .inl h.Fo
    · exact .inl h.Fs
end Go.Proofs.YtplieoalfbpniaaGreat
