/- What StorePlays keeps from step to step. -/
import Derived.Test.YtplieoalfbpniaaGreatDH
import Derived.Test.YtplieoalfbpniaaGreatDA
set_option linter.unusedVariables false
set_option linter.unusedSimpArgs false
namespace Go.Proofs.YtplieoalfbpniaaGreat
open Go.RowKit Go.Kt Go.Ix Go.Sx
set_option maxRecDepth 100000
set_option maxHeartbeats 1000000 in
/-- law11.To: its labels lie in new memory -/
theorem wto_new (m : Wr) (w : World) (hv : RdP w m.sv m.st) (hlen : m.st.length ≤ 4398046511104) :
    Calls Tryz.prog 16 #[wagg m] w fun e w' => ∃ a c, e = .returned (.agg #[.slice a m.st.length c, .int .i64 m.t, .int .i64 m.k, .int .i64 m.n, .string m.x]) ∧ MineP 69 w w' (.slice a m.st.length c) m.st := by
  obtain ⟨st, t, k, n, x, sv⟩ := m
  simp only at hv hlen
  obtain ⟨a, cap, rfl, _⟩ := hv.open
  have HV := Lib.hid hv
  clear hv
  unfold wagg
  simp only
  go_enter Tryz.func16, Tryz.ntmps16
  go_wp2_with fail
  have HX := Lib.hid ((Blk.new w #[.slice a st.length cap, .int .i64 t, .int .i64 k, .int .i64 n, .string x] 43).next (below_alloc _ (.cells #[.slice none 0 0, .int .i64 0, .int .i64 0, .int .i64 0, .string ⟨#[]⟩] 50)))
  have HR := Lib.hid (Blk.new (w.alloc (.cells #[.slice a st.length cap, .int .i64 t, .int .i64 k, .int .i64 n, .string x] 43)) #[.slice none 0 0, .int .i64 0, .int .i64 0, .int .i64 0, .string ⟨#[]⟩] 50)
  have Hb := Lib.hid (bel_alloc (o := .cells #[.slice none 0 0, .int .i64 0, .int .i64 0, .int .i64 0, .string ⟨#[]⟩] 50) (bel_alloc (o := .cells #[.slice a st.length cap, .int .i64 t, .int .i64 k, .int .i64 n, .string x] 43) (bel_refl w)))
  have Hs5 : Hid (((w.alloc (.cells #[.slice a st.length cap, .int .i64 t, .int .i64 k, .int .i64 n, .string x] 43)).alloc (.cells #[.slice none 0 0, .int .i64 0, .int .i64 0, .int .i64 0, .string ⟨#[]⟩] 50)).heap.size = w.heap.size + 2) := Lib.hid (by simp only [World.size_alloc])
  simp only [World.size_alloc] at HX HR
  generalize (w.alloc (.cells #[.slice a st.length cap, .int .i64 t, .int .i64 k, .int .i64 n, .string x] 43)).alloc (.cells #[.slice none 0 0, .int .i64 0, .int .i64 0, .int .i64 0, .string ⟨#[]⟩] 50) = w5 at HX HR Hb Hs5 ⊢
  have HK : Hid (∀ w', Below w5.heap.size w5 w' → w'.cell? ⟨w.heap.size, 0, none⟩ = some (.slice a st.length cap) ∧ w'.cell? ⟨w.heap.size, 1, none⟩ = some (.int .i64 t) ∧ w'.cell? ⟨w.heap.size, 2, none⟩ = some (.int .i64 k) ∧ w'.cell? ⟨w.heap.size, 3, none⟩ = some (.int .i64 n) ∧ w'.cell? ⟨w.heap.size, 4, none⟩ = some (.string x)) :=
    Lib.hid (fun w' h => ⟨(HX.out.next h).cell 0, (HX.out.next h).cell 1, (HX.out.next h).cell 2, (HX.out.next h).cell 3, (HX.out.next h).cell 4⟩)
  have HV5 := Lib.hid (HV.out.below Hb.out)
  have hx5 := bel_refl w5
  obtain ⟨k0, k1, k2, k3, k4⟩ := HK.out _ hx5
  go_region_held3 (fun w' => w'.cell? ⟨w.heap.size, 0, none⟩ = some (.slice a st.length cap) ∧ w'.cell? ⟨w.heap.size, 1, none⟩ = some (.int .i64 t) ∧ w'.cell? ⟨w.heap.size, 2, none⟩ = some (.int .i64 k) ∧ w'.cell? ⟨w.heap.size, 3, none⟩ = some (.int .i64 n) ∧ w'.cell? ⟨w.heap.size, 4, none⟩ = some (.string x))
    (first | (with_reducible exact ⟨k0, k1, k2, k3, k4⟩) | (with_reducible refine HK.out _ ?_; (repeat (first | assumption | apply bel_alloc | apply bel_drew)); done) | go_keep)
    (first
      | (go_simp; go_at_call 41; refine (to_any (.slice a st.length cap) st _ (HV5.out.below (by repeat (first | exact bel_refl _ | assumption | apply bel_alloc | apply bel_drew))) hlen).mono ?_; intro e w6 h6; obtain ⟨v6, rfl, hm6⟩ := h6; obtain ⟨a6, cap6, rfl, _⟩ := hm6.rd.open; have hx6 : Below w5.heap.size w5 w6 := bel_trans (by repeat (first | assumption | apply bel_alloc | apply bel_drew)) hm6.bel; have HM6 := Lib.hid hm6; obtain ⟨q0, q1, q2, q3, q4⟩ := HK.out _ hx6; have hr := HR.out.next hx6; have r0 : w6.cell? ⟨w.heap.size + 1, 0, none⟩ = some (.slice none 0 0) := hr.cell 0; have r1 : w6.cell? ⟨w.heap.size + 1, 1, none⟩ = some (.int .i64 0) := hr.cell 1; have r2 : w6.cell? ⟨w.heap.size + 1, 2, none⟩ = some (.int .i64 0) := hr.cell 2; have r3 : w6.cell? ⟨w.heap.size + 1, 3, none⟩ = some (.int .i64 0) := hr.cell 3; have r4 : w6.cell? ⟨w.heap.size + 1, 4, none⟩ = some (.string ⟨#[]⟩) := hr.cell 4; have f0 : w6.frozen? ⟨w.heap.size + 1, 0, none⟩ = false := hr.free 0; have f1 : w6.frozen? ⟨w.heap.size + 1, 1, none⟩ = false := hr.free 1; have f2 : w6.frozen? ⟨w.heap.size + 1, 2, none⟩ = false := hr.free 2; have f3 : w6.frozen? ⟨w.heap.size + 1, 3, none⟩ = false := hr.free 3; have f4 : w6.frozen? ⟨w.heap.size + 1, 4, none⟩ = false := hr.free 4; clear hm6 hr))
  go_wp2_with fail
  refine bodyPost_ret (v := .agg #[.slice a6 st.length cap6, .int .i64 t, .int .i64 k, .int .i64 n, .string x]) (by simp [results, Tryz.results16, go_sem, *]) rfl ⟨_, _, rfl, ?_, fun b hb => ?_, ?_⟩
  · have hne : ∀ c, (Value.slice a6 st.length cap6).ownBlock = some c → c ≠ w.heap.size + 1 := fun c hc e => by
      have := HM6.out.2.1 c hc
      have := Hs5.out
      simp only [World.size_drew] at *
      omega
    exact own_set (own_set (own_set (own_set (own_set HM6.out.1 hne _) hne _) hne _) hne _) hne _
  · have h1 := HM6.out.2.1 b hb
    have h2 := Hs5.out
    simp only [World.size_drew] at *
    omega
  · have h6 := bel_trans Hb.out hx6
    exact bel_set (bel_set (bel_set (bel_set (bel_set h6 (Nat.le_succ _)) (Nat.le_succ _)) (Nat.le_succ _)) (Nat.le_succ _)) (Nat.le_succ _)

/-- a row of our own whose contents nobody asks for -/
def Sh (e : TypeId) (size : Nat) (w : World) (v : Value) (n : Nat) : Prop := ∃ xs, Kt.Own e size w v n xs
theorem Sh.set {e : TypeId} {size : Nat} {w : World} {v : Value} {n : Nat} (h : Sh e size w v n) (b j : Nat) (u : Value) : Sh e size (w.setCell ⟨b, j, none⟩ u) v n := by
  obtain ⟨xs, h⟩ := h
  by_cases hv : v.ownBlock = some b
  · have h' := h
    rcases h with ⟨hl, ⟨rfl, h0⟩ | ⟨g, cap', cur, rfl, hb, hg, hn, hm, hcs, ht⟩⟩
    · cases hv
    · have hown : w.ownsRow 0 e size (.slice (some ⟨g, 0, none⟩) n cap') n xs := h'
      injection hv with hv
      simp only at hv
      subst hv
      exact ⟨_, (hown.stored j u).1⟩
  · exact ⟨xs, own_set h (fun c hc e => hv (by rw [hc]; exact congrArg some e)) u⟩
theorem Sh.below {e : TypeId} {size : Nat} {w w' : World} {v : Value} {n : Nat} (h : Sh e size w v n) (hb : Below w.heap.size w w') : Sh e size w' v n := by
  obtain ⟨xs, h⟩ := h
  exact ⟨xs, h.below' hb⟩
/-- its places -/
theorem Sh.place {e : TypeId} {size : Nat} {w : World} {v : Value} {n : Nat} (h : Sh e size w v n) {j : Nat} (hj : j < n * size) : ∃ b cap u, v = .slice (some ⟨b, 0, none⟩) n cap ∧ w.cell? ⟨b, j, none⟩ = some u ∧ w.frozen? ⟨b, j, none⟩ = false := by
  obtain ⟨xs, h⟩ := h
  obtain ⟨b, cap, e, h1, h2, -⟩ := own_place h hj
  have hl : xs.length = n * size := h.1
  exact ⟨b, cap, xs[j]'(by omega), e, by rw [h1, List.getElem?_eq_getElem], h2⟩
/-- two stores side by side: the program's at s, the document's in the block m -/
structure PlAt (w0 w : World) (F : Nat → Prop) (s m N : Nat) (M : List It) (Q : List Itm) (u : Value) : Prop where
  st : St F w s M N
  lo : ∀ x, F x → w0.heap.size ≤ x
  bel : Below w0.heap.size w0 w
  rst : RSt (OrB F m) w u Q
  told : toldI Q = M
  blk : Blk w m #[u] 67
  nm : ¬ F m
  hm : w0.heap.size ≤ m
variable {w0 w w' : World} {F : Nat → Prop} {s m N : Nat} {M : List It} {Q : List Itm} {u : Value}
theorem PlAt.below (h : PlAt w0 w F s m N M Q u) (hb : Below w.heap.size w w') : PlAt w0 w' F s m N M Q u :=
  ⟨h.st.next hb, h.lo, bel_trans h.bel hb, h.rst.below hb, h.told, h.blk.next hb, h.nm, h.hm⟩
theorem PlAt.more {N' : Nat} (h : PlAt w0 w F s m N M Q u) (hn : N ≤ N') : PlAt w0 w F s m N' M Q u := ⟨h.st.more hn, h.lo, h.bel, h.rst, h.told, h.blk, h.nm, h.hm⟩
theorem PlAt.ok (h : PlAt w0 w F s m N M Q u) : StoreOk ltS M := by obtain ⟨om, S, h1⟩ := h.st; exact h1.ok
theorem PlAt.len (h : PlAt w0 w F s m N M Q u) : lenL M ≤ 65536 := by obtain ⟨om, S, h1⟩ := h.st; exact h1.len
theorem PlAt.lt (h : PlAt w0 w F s m N M Q u) : ∀ x, OrB F m x → x < w.heap.size := fun x hx => by
  rcases hx with hx | hx
  · exact h.st.lt x hx
  · rw [hx]; exact h.blk.lt
theorem PlAt.flen (h : PlAt w0 w F s m N M Q u) : Q.length ≤ 65536 := by
  have h1 := len_le_lenL h.ok.full
  have h2 := h.len
  have h3 : M.length = Q.length := by rw [← h.told]; simp [toldI]
  omega
theorem PlAt.each (h : PlAt w0 w F s m N M Q u) : ∀ x ∈ Q, (Chain x.it.l ∧ x.it.l.length ≤ 65536) ∧ RightP x.it.set := fun x hx => by
  obtain ⟨om, S, h1⟩ := h.st
  have hm : x.it ∈ M := by rw [← h.told]; exact List.mem_map_of_mem hx
  have h2 : atL M x.it.set x.it.time = x.it.l := atL_of line_sets h1.ok.rise hm
  exact ⟨⟨h1.ok.chain _ hm, by rw [← h2]; exact Nat.le_trans (atL_len h1.ok _ _) h1.len⟩, right_sets h1 _ hm⟩
theorem PlAt.cell (h : PlAt w0 w F s m N M Q u) : w.cell? ⟨m, 0, none⟩ = some u := h.blk.cell 0
theorem PlAt.free (h : PlAt w0 w F s m N M Q u) : w.frozen? ⟨m, 0, none⟩ = false := h.blk.free 0
/-- the document's store is written into its variable -/
theorem PlAt.fin {v : Value} (hst : St F w s M N) (hlo : ∀ x, F x → w0.heap.size ≤ x) (hb : Below w0.heap.size w0 w) (hr : RSt (OrB F m) w v Q) (ht : toldI Q = M) (hk : Blk w m #[u] 67) (hn : ¬ F m) (hm : w0.heap.size ≤ m) :
    PlAt w0 (w.setCell ⟨m, 0, none⟩ v) F s m N M Q v := by
  have h1 : Turn (fun x => x = m) w (w.setCell ⟨m, 0, none⟩ v) := (Turn.refl (fun x => x = m) w).set (a := ⟨m, 0, none⟩) rfl v
  refine ⟨hst.keep h1 (fun x hx e => hn (e ▸ hx)), hlo, bel_set hb hm, hr.keep (h1.mono (fun x hx => .inr hx)) (fun _ hx => .inl hx), ht, ?_, hn, hm⟩
  simpa using hk.set 0 v
/-- a step that turns the program's store -/
theorem PlAt.turned {F' : Nat → Prop} {M' : List It} {N' : Nat} {w1 : World} (h : PlAt w0 w F s m N M Q u) (hb1 : Below w.heap.size w w1) (hst : St F' w' s M' N') (hF : ∀ x, F' x → F x ∨ w1.heap.size ≤ x) (ht : Turn F w1 w') :
    (∀ x, F' x → w0.heap.size ≤ x) ∧ Below w0.heap.size w0 w' ∧ RSt (OrB F' m) w' u Q ∧ Blk w' m #[u] 67 ∧ ¬ F' m := by
  have hT : Turn F w w' := (Turn.of (F := F) hb1).trans ht (fun x hx => .inl hx)
  have h0 := h.bel.size
  have h1 := hb1.size
  have hm := h.blk.lt
  refine ⟨fun x hx => ?_, h.bel.trans (hT.bel h0 h.lo), h.rst.keep (hT.mono (fun x hx => .inl hx)) (fun x hx => ?_), blk_keep hT h.blk h.nm, fun hx => ?_⟩
  · rcases hF x hx with h2 | h2
    · exact h.lo x h2
    · omega
  · rcases hx with hx | hx
    · rcases hF x hx with h2 | h2
      · exact .inl (.inl h2)
      · exact .inr (by omega)
    · exact .inl (.inr hx)
  · rcases hF m hx with h2 | h2
    · exact h.nm h2
    · omega
theorem PlAt.turn {F' : Nat → Prop} {M' : List It} {N' : Nat} (h : PlAt w0 w F s m N M Q u) (hst : St F' w' s M' N') (hF : ∀ x, F' x → F x ∨ w.heap.size ≤ x) (ht : Turn F w w') :
    (∀ x, F' x → w0.heap.size ≤ x) ∧ Below w0.heap.size w0 w' ∧ RSt (OrB F' m) w' u Q ∧ Blk w' m #[u] 67 ∧ ¬ F' m := h.turned (bel_refl w) hst hF ht
/-- what lay when the law began is apart from all that it makes -/
theorem far_old {G : Nat → Prop} {v : Value} {l : List Pr} (h : RdP w0 v l) (hG : ∀ x, G x → w0.heap.size ≤ x) (hs : w0.heap.size ≤ w.heap.size) : Far G w v l.length := by
  obtain ⟨a, c, rfl, -, -, hc⟩ := h.open
  intro hn b hb
  obtain ⟨b', o, rfl, hlt, -⟩ := hc 0 l[0] (List.getElem?_eq_getElem hn)
  injection hb with hb
  simp only at hb
  subst hb
  have hl := World.block_lt_of_cell? w0 _ hlt
  simp only at hl
  exact ⟨Nat.lt_of_lt_of_le hl hs, fun hx => by have := hG _ hx; omega⟩
end Go.Proofs.YtplieoalfbpniaaGreat
