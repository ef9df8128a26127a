/- A version laid into a store in memory. -/
import Derived.Test.YtplieoalfbpniaaGreatSC
namespace Go.Proofs.YtplieoalfbpniaaGreat
open Go.RowKit Go.Kt Go.Ix Go.Sx
set_option maxRecDepth 100000
variable {F F' : Nat → Prop} {w w' : World} {s om : Nat} {S : Sp} {L : List It} {N : Nat}

theorem setL_told {L : List It} {d : List Pr} {z : Int} {c : List Ver} {it : It} : it ∈ setL ltS L d z c ↔ it = ⟨d, z, c⟩ ∨ (it ∈ L ∧ ¬ (it.set = d ∧ it.time = z)) := setL_mem line_sets
/-- a series that stands has one version more -/
theorem put_old {w1 w2 w3 : World} {k : Lit} {u v' : Value} {z : Int} {c : List Ver} {n2 n3 : Nat} (h : StAt F w s om S L N) (hu : S.f k = some u) (hz : 0 ≤ z ∧ z ≤ 4611686018427387904) (hb : Below w.heap.size w w1)
    (hv : OwnV 98 w1 v' c) (hv2 : ∀ b, v'.ownBlock = some b → w.heap.size ≤ b) (hc : Chain c) (hcl : c.length = (atL L (S.d k) z).length + 1) (hcv : ∀ x ∈ c, verR x)
    (hm2 : MapIs Tryz.prog 2 w2 (S.b k) (upd (S.g k) (litT z) v') n2) (hn2 : n2 ≤ S.c k + 1) (hg2 : w1.grownBy w2 (some (S.b k)))
    (hm3 : MapIs Tryz.prog 9 w3 om (upd S.f k u) n3) (hn3 : n3 = S.n) (hg3 : w2.grownBy w3 (some om)) (hlen : lenL L + 1 ≤ 65536) :
    ∃ F', StAt F' (w3.setCell ⟨s, 1, none⟩ (.int .i64 ((lenL L : Int) + 1))) s om { S with g := setX S.g k (upd (S.g k) (litT z) v'), c := setX S.c k n2, l := setX S.l k (setX (S.l k) (litT z) c) } (setL ltS L (S.d k) z c) (N + 1) ∧ (∀ x, F' x → F x ∨ w.heap.size ≤ x) ∧ (∀ x, F x → F' x) ∧ Turn F w (w3.setCell ⟨s, 1, none⟩ (.int .i64 ((lenL L : Int) + 1))) := by
  have hk := h.ser k u hu
  have h1 := h.next hb
  have hk1 := h1.ser k u hu
  rw [upd_id hu] at hm3
  subst hn3
  have hsz := hb.size
  -- the three blocks that turn
  let G : Nat → Prop := fun x => x = S.b k ∨ x = om ∨ x = s
  have hsoft : Soft w1 G := by
    rintro x (rfl | rfl | rfl)
    · exact .inl (map_is hk1.map)
    · exact .inl (map_is h1.outer)
    · exact .inr ⟨_, _, h1.blk⟩
  have t2 : Turn G w1 w2 := Turn.grown hg2 (fun b hb => .inl (by injection hb with hb; exact hb.symm))
  have t3 : Turn G w2 w3 := Turn.grown hg3 (fun b hb => .inr (.inl (by injection hb with hb; exact hb.symm)))
  have t23 : Turn G w1 w3 := t2.trans t3 (fun x hx => .inl hx)
  have t4 : Turn G w1 (w3.setCell ⟨s, 1, none⟩ (.int .i64 ((lenL L : Int) + 1))) := t23.set (.inr (.inr rfl)) _
  have hsb : s ≠ S.b k := blk_no_map h1.blk hk1.map
  have hso : s ≠ om := blk_no_map h1.blk h1.outer
  have hbs3 : Blk w3 s #[.map (some om), .int .i64 (lenL L : Int)] 104 := by
    have a2 : Blk w2 s #[.map (some om), .int .i64 (lenL L : Int)] 104 := h1.blk.grown hg2 (fun e => hsb (by injection e with e; exact e.symm))
    exact a2.grown hg3 (fun e => hso (by injection e with e; exact e.symm))
  have hbs4 := hbs3.set 1 (.int .i64 ((lenL L : Int) + 1))
  have hm4 : MapIs Tryz.prog 2 (w3.setCell ⟨s, 1, none⟩ (.int .i64 ((lenL L : Int) + 1))) (S.b k) (upd (S.g k) (litT z) v') n2 := (hm2.grown hg3 (fun e => hk.ne (by injection e))).setCell (a := ⟨s, 1, none⟩) (fun e => hsb e.symm) _
  have hm5 := hm3.setCell (a := ⟨s, 1, none⟩) (fun e => hso e.symm) (.int .i64 ((lenL L : Int) + 1))
  have hv4 : OwnV 98 (w3.setCell ⟨s, 1, none⟩ (.int .i64 ((lenL L : Int) + 1))) v' c := own_keep t4 hv (soft_own hsoft hv (by decide))
  have hst := h.ok
  have hlen2 : lenL (setL ltS L (S.d k) z c) = lenL L + 1 := by
    have := lenL_set line_sets h.ok.rise (S.d k) z c
    omega
  refine ⟨fun x => F x ∨ v'.ownBlock = some x, ⟨?_, .inl h.Fs, .inl h.Fo, hm5, ?_, ?_, ?_, ?_, ?_, by omega, ⟨Nat.le_succ_of_le h.nb.1, ?_⟩, ?_⟩, ?_, fun x hx => .inl hx, ?_⟩
  · rw [hlen2]
    exact hbs4
  · intro k' u' hu'
    have hu0 : S.f k' = some u' := hu'
    by_cases e : k' = k
    · subst e
      obtain rfl : u = u' := by rw [hu] at hu0; injection hu0
      have := hk1
      refine ⟨this.ptr, .inl this.Fx, blk_keep t4 this.blk (soft_blk hsoft this.blk (by decide)), own_keep t4 this.set (soft_own hsoft this.set (by decide)), fun b hb => .inl (this.Fs b hb), .inl this.Fb, this.ne, ?_, this.key, this.right, ?_⟩
      · show MapIs Tryz.prog 2 _ (S.b k') (setX S.g k' _ k') (setX S.c k' n2 k')
        rw [setX_same, setX_same]
        exact hm4
      · intro t v hv0
        have hv0 : setX S.g k' (upd (S.g k') (litT z) v') k' t = some v := hv0
        show OwnV 98 _ v (setX S.l k' (setX (S.l k') (litT z) c) k' t) ∧ _
        rw [setX_same] at hv0 ⊢
        by_cases et : t = litT z
        · subst et
          rw [upd_same] at hv0
          injection hv0 with hv0
          subst hv0
          rw [setX_same]
          exact ⟨hv4, fun b hb => .inr hb, z, rfl, hz⟩
        · rw [upd_other _ _ et] at hv0
          rw [setX_other _ _ et]
          obtain ⟨r1, r2, r3⟩ := this.rows t v hv0
          exact ⟨own_keep t4 r1 (soft_own hsoft r1 (by decide)), fun b hb => .inl (r2 b hb), r3⟩
    · have := (h1.ser k' u' hu0).soft t4 hsoft (by
        rintro (e2 | e2 | e2)
        · exact h.apart k' u' k u hu0 hu e e2
        · exact (h.ser k' u' hu0).ne e2
        · exact blk_no_map h1.blk (h1.ser k' u' hu0).map e2.symm)
      refine ⟨this.ptr, .inl this.Fx, this.blk, this.set, fun b hb => .inl (this.Fs b hb), .inl this.Fb, this.ne, ?_, this.key, this.right, ?_⟩
      · show MapIs Tryz.prog 2 _ (S.b k') (setX S.g k _ k') (setX S.c k n2 k')
        rw [setX_other _ _ e, setX_other _ _ e]
        exact this.map
      · intro t v hv0
        have hv0 : setX S.g k (upd (S.g k) (litT z) v') k' t = some v := hv0
        show OwnV 98 _ v (setX S.l k (setX (S.l k) (litT z) c) k' t) ∧ _
        rw [setX_other _ _ e] at hv0 ⊢
        obtain ⟨r1, r2, r3⟩ := this.rows t v hv0
        exact ⟨r1, fun b hb => .inl (r2 b hb), r3⟩
  · exact h.apart
  · intro it
    rw [setL_told]
    constructor
    · rintro (rfl | ⟨hm, hne⟩)
      · refine ⟨k, u, z, v', hu, ?_, ?_⟩
        · show setX S.g k _ k (litT z) = some v'
          rw [setX_same, upd_same]
        · show _ = (⟨S.d k, z, setX S.l k _ k (litT z)⟩ : It)
          rw [setX_same, setX_same]
      · obtain ⟨k', u', z', v, hu', hv0, rfl⟩ := (h.told it).1 hm
        refine ⟨k', u', z', v, hu', ?_, ?_⟩
        · show setX S.g k _ k' (litT z') = some v
          by_cases e : k' = k
          · subst e
            rw [setX_same]
            have hzz : litT z' ≠ litT z := fun e => hne ⟨rfl, litT_inj e⟩
            rw [upd_other _ _ hzz]
            exact hv0
          · rw [setX_other _ _ e]
            exact hv0
        · show _ = (⟨S.d k', z', setX S.l k _ k' (litT z')⟩ : It)
          by_cases e : k' = k
          · subst e
            have hzz : litT z' ≠ litT z := fun e => hne ⟨rfl, litT_inj e⟩
            rw [setX_same, setX_other _ _ hzz]
          · rw [setX_other _ _ e]
    · rintro ⟨k', u', z', v, hu', hv0, rfl⟩
      have hu' : S.f k' = some u' := hu'
      have hv0 : setX S.g k (upd (S.g k) (litT z) v') k' (litT z') = some v := hv0
      by_cases e : k' = k
      · subst e
        by_cases ez : z' = z
        · subst ez
          left
          show (⟨S.d k', z', setX S.l k' _ k' (litT z')⟩ : It) = _
          rw [setX_same, setX_same]
        · right
          have hzz : litT z' ≠ litT z := fun e => ez (litT_inj e)
          rw [setX_same, upd_other _ _ hzz] at hv0
          refine ⟨?_, fun e => ez e.2⟩
          show (⟨S.d k', z', setX S.l k' _ k' (litT z')⟩ : It) ∈ L
          rw [setX_same, setX_other _ _ hzz]
          exact (h.told _).2 ⟨k', u', z', v, hu', hv0, rfl⟩
      · right
        rw [setX_other _ _ e] at hv0
        refine ⟨?_, fun e2 => ?_⟩
        · show (⟨S.d k', z', setX S.l k _ k' (litT z')⟩ : It) ∈ L
          rw [setX_other _ _ e]
          exact (h.told _).2 ⟨k', u', z', v, hu', hv0, rfl⟩
        · have e3 : S.d k' = S.d k := e2.1
          have := (h.ser k' u' hu').key
          rw [e3, ← hk.key] at this
          exact e this
  · refine ⟨setL_rise line_sets h.ok.rise _ _ _, fun x hx => ?_, fun x hx => ?_⟩
    · rcases setL_told.1 hx with rfl | ⟨h1, -⟩
      · exact hc
      · exact h.ok.chain x h1
    · rcases setL_told.1 hx with rfl | ⟨h1, -⟩
      · intro e
        have e : c = [] := e
        rw [e] at hcl
        simp at hcl
      · exact h.ok.full x h1
  · intro it hit
    rcases setL_told.1 hit with rfl | ⟨h1, -⟩
    · exact hcv
    · exact h.ver it h1
  · intro k' u' hu'
    show setX S.c k n2 k' ≤ N + 1
    by_cases e : k' = k
    · rw [e, setX_same]
      have := h.nb.2 k u hu
      omega
    · rw [setX_other _ _ e]
      exact Nat.le_succ_of_le (h.nb.2 k' u' hu')
  · intro x hx
    have := t4.size
    rcases hx with hx | hx
    · have := h.lt x hx
      omega
    · exact hv4.lt x hx
  · intro x hx
    rcases hx with hx | hx
    · exact .inl hx
    · exact .inr (hv2 x hx)
  · refine ((Turn.of (F := F) hb).trans (t4.mono (G := F) ?_) (fun x hx => .inl hx))
    rintro x (rfl | rfl | rfl)
    · exact hk.Fb
    · exact h.Fo
    · exact h.Fs
end Go.Proofs.YtplieoalfbpniaaGreat
