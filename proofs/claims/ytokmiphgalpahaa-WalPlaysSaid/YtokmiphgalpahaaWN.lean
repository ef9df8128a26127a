/- A segment taken out of the disk. Drop (15). Segs (20). Append (10) to a segment that is not there. Append (10) to a segment that is not there: done. What a crash leaves (plain), a row cut, the disk's footprint made tight. Crash (13). The disk as a plain list of segments, and what each call does to it. A disk that a call has made; awake (9). -/
import Derived.Test.YtokmiphgalpahaaWE
import Derived.Lib.SlBytesConst
namespace Go.Proofs.Ytokmiphgalpahaa
open Go.RowKit Go.Kt
set_option maxRecDepth 100000
variable {F : Nat → Prop} {w w' : World} {d mb : Nat} {room fuse : Int} {down : Bool} {l : List Sg}
/-- all segments but n -/
def del (n : Int) (l : List Sg) : List Sg := l.filter (fun t => decide (t.n ≠ n))
theorem del_all (n : Int) : ∀ l : List Sg, Lacks l n → del n l = l
  | [], _ => rfl
  | t :: ks, h => by
    have h1 := h t (by simp)
    have ih := del_all n ks (fun x hx => h x (by simp [hx]))
    unfold del at ih ⊢
    rw [List.filter_cons, ih]
    simp [h1]
theorem len_del {s : Sg} : ∀ l : List Sg, l.Pairwise (fun a b => a.n < b.n) → s ∈ l → (del s.n l).length + 1 = l.length
  | [], _, h => by cases h
  | t :: ks, hp, h => by
    obtain ⟨h1, h2⟩ := List.pairwise_cons.1 hp
    by_cases e : t.n = s.n
    · have e1 : del s.n (t :: ks) = del s.n ks := by simp [del, List.filter_cons, e]
      rw [e1, del_all s.n ks (fun x hx => by have := h1 x hx; omega)]
      rfl
    · have e1 : del s.n (t :: ks) = t :: del s.n ks := by simp [del, List.filter_cons, e]
      have hs : s ∈ ks := by
        rcases List.mem_cons.1 h with rfl | h3
        · exact (e rfl).elim
        · exact h3
      rw [e1, List.length_cons, len_del ks h2 hs, List.length_cons]
theorem used_del (n : Int) : ∀ l : List Sg, used (del n l) ≤ used l
  | [] => Nat.le_refl _
  | t :: ks => by
    have ih := used_del n ks
    have e2 : ∀ (t : Sg) (ks : List Sg), used (t :: ks) = t.b.length + used ks := fun t ks => by simp [used]
    by_cases e : t.n = n
    · have e1 : del n (t :: ks) = del n ks := by simp [del, List.filter_cons, e]
      rw [e1, e2]; omega
    · have e1 : del n (t :: ks) = t :: del n ks := by simp [del, List.filter_cons, e]
      rw [e1, e2, e2]; omega
theorem mem_del {n : Int} {l : List Sg} {x : Sg} : x ∈ del n l ↔ x ∈ l ∧ x.n ≠ n := by simp [del, List.mem_filter]
theorem DiskIs.drop (h : DiskIs F w d mb room fuse down l) {s : Sg} (hs : s ∈ l) (ty : TypeId) :
    ∃ w', (Builtin.delete_ #[67, 3] ty #[.map (some mb), .int .i64 s.n]).run Try.prog w = .ok (.tuple #[]) w' ∧ DiskIs F w' d mb room fuse down (del s.n l) ∧ w.grownBy w' (some mb) := by
  obtain ⟨f, hm, hf⟩ := h.map
  have h1 := (h.seg s hs).2.2.2
  obtain ⟨w', hr, hm', hmt⟩ := mapIs_del hm key3 Try.underlying67 (keyOf3 (n := s.n) ⟨by omega, h1.2⟩) ty
  have hgr := hmt.grown
  have hfs := (hf _ _).2 ⟨s, hs, rfl, rfl⟩
  rw [hfs] at hm'
  have hln := len_del l h.inc hs
  have nm : ∀ {x : Nat} {cs : Array Value} {t : TypeId}, Blk w x cs t → some mb ≠ some x := fun hk e => by
    injection e with e
    subst e
    obtain ⟨D, ⟨es, ck, hb1, _⟩, _⟩ := hm
    unfold Blk at hk
    rw [hb1] at hk
    cases hk
  refine ⟨w', hr, ⟨h.blk.grown hgr (nm h.blk), ⟨cut f (.int .i64 s.n), ?_, fun k v => ?_⟩, h.inc.filter _, ?_, h.gs.filter _, h.vs.filter _, h.Fd, h.Fm, ?_, h.room0, h.room1, ?_, ?_, h.fuse0, h.fuse1⟩, hgr⟩
  · have e : (if (some s.ptr).isSome then l.length - 1 else l.length) = (del s.n l).length := by simp; omega
    rw [e] at hm'
    exact hm'
  · unfold cut
    by_cases hk : k = .int .i64 s.n
    · rw [if_pos hk]
      refine ⟨fun e => (by cases e), ?_⟩
      rintro ⟨t, ht, e1, e2⟩
      rw [hk] at e1
      injection e1 with _ e1
      exact ((mem_del.1 ht).2 e1.symm).elim
    · rw [if_neg hk, hf]
      constructor
      · rintro ⟨t, ht, e1, e2⟩
        exact ⟨t, mem_del.2 ⟨ht, fun e => hk (by rw [e1, e])⟩, e1, e2⟩
      · rintro ⟨t, ht, e1, e2⟩
        exact ⟨t, (mem_del.1 ht).1, e1, e2⟩
  · intro t ht
    obtain ⟨c1, c2, c3⟩ := h.seg t (mem_del.1 ht).1
    exact ⟨c1.grown hgr (nm c1), Own.grown c2 hgr (fun b hb e => by
        injection e with e
        subst e
        exact own_no_map c2 hm hb), c3⟩
  · exact fun t ht => h.Fs t (mem_del.1 ht).1
  · have := h.len; omega
  · have := used_del s.n l; have := h.tot; omega
end Go.Proofs.Ytokmiphgalpahaa
namespace Go.Proofs.Ytokmiphgalpahaa
open Go.RowKit Go.Kt
set_option maxRecDepth 100000
variable {F : Nat → Prop} {w w' : World} {d mb : Nat} {room fuse : Int} {down : Bool} {l : List Sg}
theorem drop_yes (h : DiskIs F w d mb room fuse false l) (hf : fuse ≠ 0) {s : Sg} (hs : s ∈ l) : Calls Try.prog 29 #[.pointer (some ⟨d, 0, none⟩), .int .i64 s.n] w fun e w' => e = .returned (.int .i64 0) ∧ DiskIs F w' d mb room (powF fuse) false (del s.n l) ∧ Turn F w w' := by
  have H := Lib.hid h
  have Hs := Lib.hid hs
  have e1 : decide (fuse ≠ 0) = true := by simpa using hf
  have e2 : decide (fuse = 0) = false := by simpa using hf
  clear h hs hf
  go_enter Try.func29, Try.ntmps29
  go_wp2_with (first
    | (go_at_call 47; refine (find_yes H.out Hs.out).mono ?_; rintro e w1 ⟨rfl, rfl⟩)
    | (go_at_call 50; refine (power_any H.out).mono ?_; rw [e1, e2]; rintro e w1 ⟨rfl, hD1, hT1⟩
       obtain ⟨w2, hr, hD2, hg2⟩ := hD1.drop Hs.out 0
       obtain ⟨k0, k1, k2, k3⟩ := hD1.cell
       have HD2 := Lib.hid hD2
       have HT2 : Hid (Turn F w w2) := Lib.hid ((hT1.mono (fun x hx => hx ▸ H.out.Fd)).trans (Turn.grown hg2 (F := F) (fun x hx => by injection hx with hx; exact hx ▸ H.out.Fm)) (fun x hx => .inl hx))
       clear hD1 hT1 hD2 hg2))
  go_ret
  exact ⟨rfl, HD2.out, HT2.out⟩
theorem drop_dead (h : DiskIs F w d mb room 0 false l) {s : Sg} (hs : s ∈ l) : Calls Try.prog 29 #[.pointer (some ⟨d, 0, none⟩), .int .i64 s.n] w fun e w' => e = .returned (.int .i64 5) ∧ DiskIs F w' d mb room 0 true l ∧ Turn F w w' := by
  have H := Lib.hid h
  have Hs := Lib.hid hs
  clear h hs
  go_enter Try.func29, Try.ntmps29
  go_wp2_with (first
    | (go_at_call 47; refine (find_yes H.out Hs.out).mono ?_; rintro e w1 ⟨rfl, rfl⟩)
    | (go_at_call 50; refine (power_any H.out).mono ?_; rintro e w1 ⟨rfl, hD1, hT1⟩
       have HD1 := Lib.hid hD1
       have HT1 := Lib.hid hT1
       clear hD1 hT1))
  go_ret
  exact ⟨rfl, HD1.out, HT1.out.mono (fun x hx => hx ▸ H.out.Fd)⟩
theorem drop_no (h : DiskIs F w d mb room fuse false l) {n : Int} (hn : Rng n) (hl : Lacks l n) : Calls Try.prog 29 #[.pointer (some ⟨d, 0, none⟩), .int .i64 n] w fun e w' => e = .returned (.int .i64 6) ∧ w = w' := by
  have H := Lib.hid h
  have Hn := Lib.hid hn
  have Hl := Lib.hid hl
  clear h hn hl
  go_enter Try.func29, Try.ntmps29
  go_wp2_with (go_at_call 47; refine (find_no H.out Hn.out Hl.out).mono ?_; rintro e w1 ⟨rfl, rfl⟩)
  go_ret
  exact ⟨rfl, rfl⟩
theorem drop_down (h : DiskIs F w d mb room fuse true l) (n : Int) : Calls Try.prog 29 #[.pointer (some ⟨d, 0, none⟩), .int .i64 n] w fun e w' => e = .returned (.int .i64 5) ∧ w = w' := by
  have H := Lib.hid h
  clear h
  go_enter Try.func29, Try.ntmps29
  go_wp2_with (go_at_call 47; refine (find_down H.out n).mono ?_; rintro e w1 ⟨rfl, rfl⟩)
  go_ret
  exact ⟨rfl, rfl⟩
theorem drop_nil (w : World) (n : Int) : Calls Try.prog 29 #[.pointer none, .int .i64 n] w fun e w' => e = .returned (.int .i64 2) ∧ w = w' := by
  go_enter Try.func29, Try.ntmps29
  go_wp2_with (go_at_call 47; refine (find_nil w n).mono ?_; rintro e w1 ⟨rfl, rfl⟩)
  go_ret
  exact ⟨rfl, rfl⟩
end Go.Proofs.Ytokmiphgalpahaa
namespace Go.Proofs.Ytokmiphgalpahaa
open Go.RowKit Go.Kt
set_option maxRecDepth 100000
variable {F : Nat → Prop} {w w' : World} {d mb : Nat} {room fuse : Int} {down : Bool} {l : List Sg}
theorem nums_sorted {ss : List Int} {D : DataW Value} {f : Lit → Option Value} {n : Nat} (hl : l.Pairwise (fun a b => a.n < b.n)) (hf : SegMap f l) (hcf : ∀ kl, (f kl = none → Maps.has D kl = false) ∧ ∀ v, f kl = some v → Maps.has D kl = true ∧ ∀ z, D.atKey kl z = .held v)
    (hown : w.ownsMap Try.prog 3 anyElem mb n D) (hp : ss.Perm (intKeys D)) : ss.mergeSort (fun x y => decide (x ≤ y)) = l.map (·.n) := by
  have h1 : (l.map (·.n)).Perm (intKeys D) := by
    refine CollectedI.perm (left := fun _ => false) (ss := l.map (·.n)) ⟨?_, fun x => ⟨fun hx => ⟨?_, rfl⟩, fun hx => ?_⟩⟩ hown key3 Try.underlying3 (fun _ => rfl)
    · exact List.pairwise_map.2 (hl.imp fun h => by omega)
    · obtain ⟨s, hs, rfl⟩ := List.mem_map.1 hx
      exact ((hcf _).2 _ ((hf _ _).2 ⟨s, hs, rfl, rfl⟩)).1
    · cases he : f (.int .i64 x) with
      | none => rw [(hcf _).1 he] at hx; cases hx.1
      | some v =>
        obtain ⟨s, hs, e1, _⟩ := (hf _ _).1 he
        injection e1 with _ e1
        exact List.mem_map.2 ⟨s, hs, e1.symm⟩
  have h2 := mergeSort_of_perm_i (hp.trans h1.symm)
  refine h2.trans (List.mergeSort_of_pairwise ?_)
  exact List.pairwise_map.2 (hl.imp fun h => by simp; omega)
theorem segs_yes (h : DiskIs F w d mb room fuse false l) : Calls Try.prog 20 #[.pointer (some ⟨d, 0, none⟩)] w fun e w' => ∃ v, e = .returned (.tuple #[v, .int .i64 0]) ∧ w'.ownsRow w.heap.size 3 1 v l.length (l.map (fun s => encZ s.n)) ∧ Below w.heap.size w w' := by
  obtain ⟨c0, c1, c2, c3⟩ := h.cell
  obtain ⟨f, ⟨D, hD, hsz, hcf⟩, hf⟩ := h.map
  have hlen := h.len
  have cS := sorted_any mb l.length D anyElem w hD (by unfold maxLen; omega) (by omega)
  have CS := Lib.hid cS
  have HN : Hid (∀ ss : List Int, ss.Perm (intKeys D) → ss.mergeSort (fun x y => decide (x ≤ y)) = l.map (·.n)) := Lib.hid (fun ss hp => nums_sorted h.inc hf hcf hD hp)
  have H := Lib.hid h
  clear h hD hsz hcf hf cS
  go_enter Try.func20, Try.ntmps20
  go_wp2_with (first
    | (go_at_call 44; refine (up_any H.out).mono ?_; rintro e w1 ⟨rfl, rfl⟩)
    | (go_at_call 46; refine (keys_any (some mb) _).mono ?_; rintro e w1 ⟨rfl, rfl⟩)
    | (go_at_call 45; refine CS.out.mono ?_; rintro e w2 ⟨v, ss, rfl, hp, hrow, hnil, hb⟩; have hm := HN.out ss hp; have hll : ss.length = l.length := (by have := congrArg List.length hm; simpa using this); rw [hm, hll] at hrow; have Hrow := Lib.hid hrow; have Hb := Lib.hid hb; clear hp hrow hnil hb hm hll))
  go_ret2
  refine ⟨_, rfl, ?_, ?_⟩
  · have := Hrow.out
    rw [List.map_map] at this
    exact ownsRow_base_a this (by simp)
  · exact ((Below.refl _ w).alloc (Nat.le_refl _) _).trans (Hb.out.mono (by simp))
theorem segs_down (h : DiskIs F w d mb room fuse true l) : Calls Try.prog 20 #[.pointer (some ⟨d, 0, none⟩)] w fun e w' => e = .returned (.tuple #[.slice none 0 0, .int .i64 5]) ∧ w = w' := by
  have H := Lib.hid h
  clear h
  go_enter Try.func20, Try.ntmps20
  go_wp2_with (go_at_call 44; refine (up_any H.out).mono ?_; rintro e w1 ⟨rfl, rfl⟩)
  go_ret2
  exact ⟨rfl, rfl⟩
theorem segs_nil (w : World) : Calls Try.prog 20 #[.pointer none] w fun e w' => e = .returned (.tuple #[.slice none 0 0, .int .i64 2]) ∧ w = w' := by
  go_enter Try.func20, Try.ntmps20
  go_wp2_with (go_at_call 44; refine (up_nil _).mono ?_; rintro e w1 ⟨rfl, rfl⟩)
  go_ret2
  exact ⟨rfl, rfl⟩
end Go.Proofs.Ytokmiphgalpahaa
namespace Go.Proofs.Ytokmiphgalpahaa
open Go.RowKit Go.Kt
set_option maxRecDepth 100000
variable {F : Nat → Prop} {w w' : World} {d mb : Nat} {room fuse : Int} {down : Bool} {l : List Sg}
theorem run_len48 (h : DiskIs F w d mb room fuse down l) (ty : TypeId) : (Builtin.len_ #[67] ty #[.map (some mb)]).run Try.prog w = .ok (.int .i64 (l.length : Int)) w := by
  obtain ⟨f, hm, hf⟩ := h.map
  exact hm.len Try.underlying67 ty
set_option maxRecDepth 100000 in
set_option maxHeartbeats 1000000 in
theorem append_full2 (h : DiskIs F w d mb room fuse false l) {n : Int} (hn : Rng n) (h1 : 1 ≤ n) (hlk : Lacks l n) {v : Value} {pl : List UInt8} (hv : Rd8 w v pl) (hroom : room - used l < pl.length ∨ 1024 ≤ l.length) :
    Calls Try.prog 26 #[.pointer (some ⟨d, 0, none⟩), .int .i64 n, v] w fun e w' => e = .returned (.int .i64 4) ∧ Below w.heap.size w w' := by
  have hl := look_no h hn hlk
  have hn2 := hn.2
  have d1 : decide (n < 1) = false := by simp only [decide_eq_false_iff_not]; omega
  obtain ⟨c0, c1, c2, c3⟩ := h.cell
  have hr0 := h.room0
  have hr1 := h.room1
  have ht := h.tot
  have Hv : Hid (Rd8 w v pl) := Lib.hid hv
  obtain ⟨a, cap, rfl, hcap, hbig, hz1⟩ := hv.open
  clear hz1
  have H := Lib.hid h
  have Hlk := Lib.hid hlk
  have hle := h.len
  by_cases hp : room - (used l : Int) < (pl.length : Int)
  · have d2 : decide (room - (used l : Int) < (pl.length : Int)) = true := by simpa using hp
    clear h hv hlk hroom hn hp
    generalize hm : l.length = m at *
    generalize hu : used l = u at *
    have hw : IntKind.wrap .i64 (room - (u : Int)) = room - u := by
      simp [IntKind.wrap, IntKind.bits, IntKind.signed]
      omega
    have HU : Hid (∀ W, Below w.heap.size w W → Calls Try.prog 38 #[.pointer (some ⟨d, 0, none⟩)] W fun e w' => e = .returned (.int .i64 u) ∧ Below W.heap.size W w') := Lib.hid (fun W hW => by
      have := used_any (H.out.next hW)
      rwa [hu] at this)
    have HC : Hid (∀ W, Below w.heap.size w W → W.cell? ⟨d, 0, none⟩ = some (.int .i64 room) ∧ W.cell? ⟨d, 1, none⟩ = some (.map (some mb)) ∧ W.cell? ⟨d, 2, none⟩ = some (.int .i64 fuse) ∧ W.cell? ⟨d, 3, none⟩ = some (.bool false) ∧ (Builtin.len_ #[67] 3 #[.map (some mb)]).run Try.prog W = .ok (.int .i64 (m : Int)) W) := Lib.hid (fun W hW => by
      have h1 := (H.out.next hW).cell
      have h2 := run_len48 (H.out.next hW) 3
      rw [hm] at h2
      exact ⟨h1.1, h1.2.1, h1.2.2.1, h1.2.2.2, h2⟩)
    have hx1 := bel_refl w
    go_enter Try.func26, Try.ntmps26
    go_wp2_with (go_at_call 44; refine (up_any H.out).mono ?_; rintro e w1 ⟨rfl, rfl⟩)
    go_region_law
      (go_simp; go_at_call 38; refine (HU.out _ (by repeat (first | assumption | apply bel_alloc | apply bel_drew))).mono ?_; intro e w3 h3; obtain ⟨rfl, hb3⟩ := h3; have hx3 : Below w.heap.size w w3 := bel_trans (by repeat (first | assumption | apply bel_alloc | apply bel_drew)) hb3; obtain ⟨k0, k1, k2, k3, k4⟩ := HC.out _ hx3; clear hb3)
    all_goals (go_wp2_with fail)
    all_goals (first
      | (go_ret; refine ⟨rfl, ?_⟩; first | with_reducible assumption | exact hx3)
      | (exfalso; rw [hw] at *; omega))
  · have d2 : decide (room - (used l : Int) < (pl.length : Int)) = false := by simpa using hp
    have d3 : decide (1024 ≤ (l.length : Int)) = true := by simp only [decide_eq_true_eq]; omega
    clear h hv hlk hroom hn hp
    generalize hm : l.length = m at *
    generalize hu : used l = u at *
    have hw : IntKind.wrap .i64 (room - (u : Int)) = room - u := by
      simp [IntKind.wrap, IntKind.bits, IntKind.signed]
      omega
    have HU : Hid (∀ W, Below w.heap.size w W → Calls Try.prog 38 #[.pointer (some ⟨d, 0, none⟩)] W fun e w' => e = .returned (.int .i64 u) ∧ Below W.heap.size W w') := Lib.hid (fun W hW => by
      have := used_any (H.out.next hW)
      rwa [hu] at this)
    have HC : Hid (∀ W, Below w.heap.size w W → W.cell? ⟨d, 0, none⟩ = some (.int .i64 room) ∧ W.cell? ⟨d, 1, none⟩ = some (.map (some mb)) ∧ W.cell? ⟨d, 2, none⟩ = some (.int .i64 fuse) ∧ W.cell? ⟨d, 3, none⟩ = some (.bool false) ∧ (Builtin.len_ #[67] 3 #[.map (some mb)]).run Try.prog W = .ok (.int .i64 (m : Int)) W) := Lib.hid (fun W hW => by
      have h1 := (H.out.next hW).cell
      have h2 := run_len48 (H.out.next hW) 3
      rw [hm] at h2
      exact ⟨h1.1, h1.2.1, h1.2.2.1, h1.2.2.2, h2⟩)
    have hx1 := bel_refl w
    go_enter Try.func26, Try.ntmps26
    go_wp2_with (go_at_call 44; refine (up_any H.out).mono ?_; rintro e w1 ⟨rfl, rfl⟩)
    go_region_law
      (go_simp; go_at_call 38; refine (HU.out _ (by repeat (first | assumption | apply bel_alloc | apply bel_drew))).mono ?_; intro e w3 h3; obtain ⟨rfl, hb3⟩ := h3; have hx3 : Below w.heap.size w w3 := bel_trans (by repeat (first | assumption | apply bel_alloc | apply bel_drew)) hb3; obtain ⟨k0, k1, k2, k3, k4⟩ := HC.out _ hx3; clear hb3)
    all_goals (go_wp2_with fail)
    all_goals (first
      | (go_ret; refine ⟨rfl, ?_⟩; first | with_reducible assumption | exact hx3)
      | (exfalso; rw [hw] at *; omega))
set_option maxRecDepth 100000 in
set_option maxHeartbeats 1000000 in
theorem append_dead2 (h : DiskIs F w d mb room 0 false l) {n : Int} (hn : Rng n) (h1 : 1 ≤ n) (hlk : Lacks l n) (hlen : l.length < 1024) {v : Value} {pl : List UInt8} (hv : Rd8 w v pl) (hF : ∀ x, v.ownBlock = some x → pl ≠ [] → ¬ F x) (hlt : ∀ x, v.ownBlock = some x → pl ≠ [] → x < w.heap.size) (hroom : (pl.length : Int) ≤ room - used l) :
    Calls Try.prog 26 #[.pointer (some ⟨d, 0, none⟩), .int .i64 n, v] w fun e w' => e = .returned (.int .i64 5) ∧ DiskIs F w' d mb room 0 true l ∧ Turn F w w' := by
  have hl := look_no h hn hlk
  have hn2 := hn.2
  have d1 : decide (n < 1) = false := by simp only [decide_eq_false_iff_not]; omega
  obtain ⟨c0, c1, c2, c3⟩ := h.cell
  have hr0 := h.room0
  have hr1 := h.room1
  have ht := h.tot
  have Hv : Hid (Rd8 w v pl) := Lib.hid hv
  have HF := Lib.hid hF
  have Hlt := Lib.hid hlt
  obtain ⟨a, cap, rfl, hcap, hbig, hz1⟩ := hv.open
  clear hz1
  have H := Lib.hid h
  have Hlk := Lib.hid hlk
  have d2 : decide (room - (used l : Int) < (pl.length : Int)) = false := by simp only [decide_eq_false_iff_not]; omega
  have d3 : decide (1024 ≤ (l.length : Int)) = false := by simp only [decide_eq_false_iff_not]; omega
  clear h hv hlk hF hlt hn
  generalize hm : l.length = m at *
  generalize hu : used l = u at *
  have hw : IntKind.wrap .i64 (room - (u : Int)) = room - u := by
    simp [IntKind.wrap, IntKind.bits, IntKind.signed]
    omega
  have HU : Hid (∀ W, Below w.heap.size w W → Calls Try.prog 38 #[.pointer (some ⟨d, 0, none⟩)] W fun e w' => e = .returned (.int .i64 u) ∧ Below W.heap.size W w') := Lib.hid (fun W hW => by
    have := used_any (H.out.next hW)
    rwa [hu] at this)
  have HC : Hid (∀ W, Below w.heap.size w W → W.cell? ⟨d, 0, none⟩ = some (.int .i64 room) ∧ W.cell? ⟨d, 1, none⟩ = some (.map (some mb)) ∧ W.cell? ⟨d, 2, none⟩ = some (.int .i64 0) ∧ W.cell? ⟨d, 3, none⟩ = some (.bool false) ∧ (Builtin.len_ #[67] 3 #[.map (some mb)]).run Try.prog W = .ok (.int .i64 (m : Int)) W) := Lib.hid (fun W hW => by
    have h1 := (H.out.next hW).cell
    have h2 := run_len48 (H.out.next hW) 3
    rw [hm] at h2
    exact ⟨h1.1, h1.2.1, h1.2.2.1, h1.2.2.2, h2⟩)
  have hx1 := bel_refl w
  go_enter Try.func26, Try.ntmps26
  go_wp2_with (go_at_call 44; refine (up_any H.out).mono ?_; rintro e w1 ⟨rfl, rfl⟩)
  go_region_law
    (go_simp; go_at_call 38; refine (HU.out _ (by repeat (first | assumption | apply bel_alloc | apply bel_drew))).mono ?_; intro e w3 h3; obtain ⟨rfl, hb3⟩ := h3; have hx3 : Below w.heap.size w w3 := bel_trans (by repeat (first | assumption | apply bel_alloc | apply bel_drew)) hb3; obtain ⟨k0, k1, k2, k3, k4⟩ := HC.out _ hx3; clear hb3)
  all_goals (go_wp2_with (go_at_call 50; refine (power_any (H.out.next hx3)).mono ?_; rintro e w4 ⟨rfl, hD4, hT4⟩; have HD4 := Lib.hid hD4; have HT4 : Hid (Turn F w w4) := Lib.hid ((Turn.of (F := F) hx3).trans hT4 (fun x hx => .inl (hx ▸ H.out.Fd))); clear hD4 hT4))
  all_goals (first
    | (go_ret; exact ⟨rfl, HD4.out, HT4.out⟩)
    | (exfalso; rw [hw] at *; omega))
end Go.Proofs.Ytokmiphgalpahaa
namespace Go.Proofs.Ytokmiphgalpahaa
open Go.RowKit Go.Kt
set_option maxRecDepth 100000
variable {F : Nat → Prop} {w w' : World} {d mb : Nat} {room fuse : Int} {down : Bool} {l : List Sg}
set_option maxRecDepth 100000 in
set_option maxHeartbeats 1000000 in
theorem append_yes2 (h : DiskIs F w d mb room fuse false l) (hf : fuse ≠ 0) {n : Int} (hn : Rng n) (h1 : 1 ≤ n) (hlk : Lacks l n) (hlen : l.length < 1024) {v : Value} {pl : List UInt8} (hv : Rd8 w v pl) (hF : ∀ x, v.ownBlock = some x → pl ≠ [] → ¬ F x) (hlt : ∀ x, v.ownBlock = some x → pl ≠ [] → x < w.heap.size) (hroom : (pl.length : Int) ≤ room - used l) :
    Calls Try.prog 26 #[.pointer (some ⟨d, 0, none⟩), .int .i64 n, v] w fun e w' => ∃ g v', e = .returned (.int .i64 0) ∧ DiskIs (Plus F w w') w' d mb room (powF fuse) false ((ins (fresh n g) l).map (swap { fresh n g with v := v', b := pl })) ∧ Turn F w w' := by
  have hl := look_no h hn hlk
  have hn2 := hn.2
  have d1 : decide (n < 1) = false := by simp only [decide_eq_false_iff_not]; omega
  obtain ⟨c0, c1, c2, c3⟩ := h.cell
  have hr0 := h.room0
  have hr1 := h.room1
  have ht := h.tot
  have Hv : Hid (Rd8 w v pl) := Lib.hid hv
  have HF := Lib.hid hF
  have Hlt := Lib.hid hlt
  obtain ⟨a, cap, rfl, hcap, hbig, hz1⟩ := hv.open
  clear hz1
  have H := Lib.hid h
  have Hlk := Lib.hid hlk
  have d2 : decide (room - (used l : Int) < (pl.length : Int)) = false := by simp only [decide_eq_false_iff_not]; omega
  have d3 : decide (1024 ≤ (l.length : Int)) = false := by simp only [decide_eq_false_iff_not]; omega
  have e1 : decide (fuse ≠ 0) = true := by simpa using hf
  have e2 : decide (fuse = 0) = false := by simpa using hf
  clear h hv hlk hF hlt hn hf
  have Hp : Hid (1 ≤ n ∧ n ≤ 9223372036854775807 ∧ l.length < 1024) := Lib.hid ⟨h1, hn2, hlen⟩
  generalize hm : l.length = m at *
  generalize hu : used l = u at *
  have hw : IntKind.wrap .i64 (room - (u : Int)) = room - u := by
    simp [IntKind.wrap, IntKind.bits, IntKind.signed]
    omega
  have HU : Hid (∀ W, Below w.heap.size w W → Calls Try.prog 38 #[.pointer (some ⟨d, 0, none⟩)] W fun e w' => e = .returned (.int .i64 u) ∧ Below W.heap.size W w') := Lib.hid (fun W hW => by
    have := used_any (H.out.next hW)
    rwa [hu] at this)
  have HC : Hid (∀ W, Below w.heap.size w W → W.cell? ⟨d, 0, none⟩ = some (.int .i64 room) ∧ W.cell? ⟨d, 1, none⟩ = some (.map (some mb)) ∧ W.cell? ⟨d, 2, none⟩ = some (.int .i64 fuse) ∧ W.cell? ⟨d, 3, none⟩ = some (.bool false) ∧ (Builtin.len_ #[67] 3 #[.map (some mb)]).run Try.prog W = .ok (.int .i64 (m : Int)) W) := Lib.hid (fun W hW => by
    have h1 := (H.out.next hW).cell
    have h2 := run_len48 (H.out.next hW) 3
    rw [hm] at h2
    exact ⟨h1.1, h1.2.1, h1.2.2.1, h1.2.2.2, h2⟩)
  have hx1 := bel_refl w
  go_enter Try.func26, Try.ntmps26
  go_wp2_with (go_at_call 44; refine (up_any H.out).mono ?_; rintro e w1 ⟨rfl, rfl⟩)
  go_region_law
    (go_simp; go_at_call 38; refine (HU.out _ (by repeat (first | assumption | apply bel_alloc | apply bel_drew))).mono ?_; intro e w3 h3; obtain ⟨rfl, hb3⟩ := h3; have hx3 : Below w.heap.size w w3 := bel_trans (by repeat (first | assumption | apply bel_alloc | apply bel_drew)) hb3; obtain ⟨k0, k1, k2, k3, k4⟩ := HC.out _ hx3; clear hb3)
  all_goals (go_upto_region 15 with (go_at_call 50; refine (power_any (H.out.next hx3)).mono ?_; rw [e1, e2]; rintro e w4 ⟨rfl, hD4, hT4⟩; have HD4 := Lib.hid hD4; have HT4 : Hid (Turn F w w4) := Lib.hid ((Turn.of (F := F) hx3).trans hT4 (fun x hx => .inl (hx ▸ H.out.Fd))); have j1 : w4.cell? ⟨d, 1, none⟩ = some (.map (some mb)) := hD4.cell.2.1; have hdl4 := hD4.blk.lt; have hP := (hD4.next (below_alloc w4 (.cells #[.slice none 0 0, .int .i64 0, .bool false] 95))).put (G := fun x => F x ∨ x = w4.heap.size) (g := w4.heap.size) Hlk.out Hp.out.1 Hp.out.2.1 (by have hz := Hp.out.2.2; omega) (Blk.new w4 _ 95) (fun s hs e => by have := (hD4.seg s hs).1.lt; omega) (fun x hx => .inl hx) (.inr rfl); obtain ⟨w5, hrun5, hD5, hG5⟩ := hP; have HD5 := Lib.hid hD5; have HG5 := Lib.hid hG5; clear hD4 hT4 hD5 hG5))
  all_goals (have HT5 : Hid (Turn F w w5) := Lib.hid ((HT4.out.alloc _).trans (Turn.grown HG5.out (F := F) (fun x hx => by injection hx with hx; exact hx ▸ H.out.Fm)) (fun x hx => .inl hx)))
  all_goals (have hmem : fresh n w4.heap.size ∈ ins (fresh n w4.heap.size) l := (mem_ins _ _ _).2 (.inl rfl))
  all_goals (have Hq := Lib.hid (HD5.out.seg _ hmem))
  all_goals (have q0 : w5.cell? ⟨w4.heap.size, 0, none⟩ = some (.slice none 0 0) := Hq.out.1.cell 0; have q1 : w5.frozen? ⟨w4.heap.size, 0, none⟩ = false := Hq.out.1.free 0; have hgl : w4.heap.size < w5.heap.size := Hq.out.1.lt)
  all_goals (have HR : Hid (Rd8 w5 (.slice a pl.length cap) pl) := Lib.hid (rd8_turn Hv.out HT5.out Hlt.out HF.out))
  all_goals (have HS : Hid (w.heap.size ≤ w4.heap.size) := Lib.hid HT4.out.size)
  all_goals (have Hmem := Lib.hid hmem; clear hmem)
  all_goals (generalize hgz : w4.heap.size = gz at *)
  all_goals (go_wp2_with (at_builtin; apply Hold.mk))
  all_goals (unfold Hold)
  all_goals (
    (refine wpList_app rfl _ _ 22 rfl ok28 (by rfl) (by rfl) (by exact (own_nil w5 5 1)) (HR.out) (by8_one _) (by simp only [maxLen]; omega) (by omega) ?_; intro v7 w7 ho7 hg7 hn7; obtain ⟨_, ta, tcap, rfl, _⟩ := ho7.rd; have b7 := Hq.out.1.grown hg7 (by intro e; cases e); have k7 : w7.cell? ⟨gz, 0, none⟩ = some (.slice none 0 0) := b7.cell 0; have f7 : w7.frozen? ⟨gz, 0, none⟩ = false := b7.free 0; have hgl7 : gz < w7.heap.size := b7.lt; have B7 := Lib.hid b7; have HO7 := Lib.hid ho7; have HG7 := Lib.hid hg7; have HN7 := Lib.hid hn7; clear b7 ho7 hg7 hn7; have HO7 : Hid (Own 5 1 w7 (.slice ta pl.length tcap) pl.length (pl.map by8)) := Lib.hid (by have hz := HO7.out; rw [Nat.zero_add] at hz; exact hz); rw [Nat.zero_add] at HN7))
  all_goals (go_wp2_with fail)
  all_goals go_ret
  all_goals (refine ⟨gz, .slice ta pl.length tcap, rfl, ?_, ?_⟩)
  all_goals (have hT5 : Turn (fun x => x = gz) w5 w7 := Turn.grown HG7.out (fun x hx => by cases hx))
  all_goals (have hT6 := hT5.set (a := ⟨gz, 0, none⟩) rfl (.slice ta pl.length tcap))
  all_goals (have hS := HS.out)
  all_goals (first
    | exact HT5.out.trans hT6 (fun x hx => .inr (by rw [hx]; exact hS))
    | skip)
  all_goals (refine HD5.out.turn (s' := { fresh n gz with v := .slice ta pl.length tcap, b := pl }) Hmem.out rfl rfl (hT6.mono (fun x hx => .inl hx)) (B7.out.set 0 _) ?_ ?_ ?_ ?_ (fun x hx => ?_) ?_)
  all_goals (first
    | (have hne : ∀ b, (Value.slice ta pl.length tcap).ownBlock = some b → b ≠ gz := fun b hb e => by
         subst e
         exact own_no_blk HO7.out B7.out (by decide) hb
       have hz := own_set HO7.out (p := ⟨gz, 0, none⟩) hne (.slice ta pl.length tcap)
       show Own8 5 _ (.slice ta pl.length tcap) pl
       unfold Own8
       exact hz)
    | (show (0 : Nat) ≤ _; omega)
    | (intro x hx
       rcases HN7.out x hx with hz | hz
       · cases hz
       · exact .inr hz)
    | (have hz := used_swap_app (s' := { fresh n gz with v := .slice ta pl.length tcap, b := pl }) (m := pl.length) (ins (fresh n gz) l) HD5.out.inc (fun t ht e => by rw [HD5.out.same_n ht Hmem.out e]; exact (Nat.zero_add _).symm)
       rw [used_ins] at hz
       have hz2 : (fresh n gz).b.length = 0 := rfl
       omega)
    | (rcases hx with hx | rfl
       · exact .inl hx
       · refine .inr ⟨by omega, ?_⟩
         simpa using hgl7)
    | (intro x hx
       rcases HN7.out x hx with hz | hz
       · cases hz
       · refine .inr ⟨by omega, ?_⟩
         have hz2 := HO7.out.lt x hx
         simpa using hz2))
end Go.Proofs.Ytokmiphgalpahaa
namespace Go.Proofs.Ytokmiphgalpahaa
open Go.RowKit Go.Kt
set_option maxRecDepth 100000
variable {F : Nat → Prop} {w w' : World} {d mb : Nat} {room fuse : Int} {down : Bool} {l : List Sg}

def cutV (v : Value) (k : Nat) : Value := match v with
  | .slice a _ cap => .slice a k cap
  | v => v
theorem cutV_block (v : Value) (k : Nat) : (cutV v k).ownBlock = v.ownBlock := by
  cases v <;> try rfl
  rename_i a n cap
  cases a <;> rfl
theorem own8_cut {w : World} {v : Value} {b : List UInt8} (h : Own8 5 w v b) (k : Nat) (hk : k ≤ b.length) : Own8 5 w (cutV v k) (b.take k) := by
  have hlen : (b.take k).length = k := by simp; omega
  unfold Own8
  rw [hlen]
  refine ⟨by simp [hlen]; omega, ?_⟩
  rcases h.2 with ⟨rfl, h0⟩ | ⟨g, cap, cur, rfl, hb, hg, hn, hm, hcs, ht⟩
  · left
    have : k = 0 := by omega
    subst this
    exact ⟨rfl, rfl⟩
  · refine .inr ⟨g, cap, cur, rfl, hb, hg, by omega, hm, hcs, ?_⟩
    have h2 := congrArg (List.take k) ht
    rw [List.take_take] at h2
    rw [List.map_take, ← h2, show min k (b.length * 1) = k * 1 by omega]
def moreOf (keep : List Int) (i m : Nat) : Nat := match keep[i]? with
  | some k => min k.toNat m
  | none => 0
theorem moreOf_le (keep : List Int) (i m : Nat) : moreOf keep i m ≤ m := by
  unfold moreOf
  split
  · exact Nat.min_le_right _ _
  · omega
def keepN (keep : List Int) (i : Nat) (s : Sg) : Nat := s.sure + moreOf keep i (s.b.length - s.sure)
def Sg.cutTo (s : Sg) (k : Nat) (kept : Bool) : Sg := { s with v := cutV s.v k, b := s.b.take k, sure := k, kept := kept }
def crashL (keep : List Int) : Nat → List Sg → List Sg
  | _, [] => []
  | i, s :: t => if keepN keep i s = 0 ∧ s.kept = false then crashL keep (i + 1) t else s.cutTo (keepN keep i s) true :: crashL keep (i + 1) t
theorem crashL_append (keep : List Int) : ∀ (i : Nat) (a b : List Sg), crashL keep i (a ++ b) = crashL keep i a ++ crashL keep (i + a.length) b
  | i, [], b => by simp [crashL]
  | i, s :: t, b => by
    have ih := crashL_append keep (i + 1) t b
    have e : ∀ t', crashL keep i (s :: t') = if keepN keep i s = 0 ∧ s.kept = false then crashL keep (i + 1) t' else s.cutTo (keepN keep i s) true :: crashL keep (i + 1) t' := fun _ => rfl
    rw [List.cons_append, e, e, ih, List.length_cons, show i + 1 + t.length = i + (t.length + 1) by omega]
    split
    · rfl
    · rfl
theorem swap_mid {s s' : Sg} (hn : s'.n = s.n) (a b : List Sg) (h : (a ++ s :: b).Pairwise (fun x y => x.n < y.n)) : (a ++ s :: b).map (swap s') = a ++ s' :: b := by
  obtain ⟨h1, h2, h3⟩ := List.pairwise_append.1 h
  obtain ⟨h4, h5⟩ := List.pairwise_cons.1 h2
  have ne : ∀ (k : List Sg), (∀ t ∈ k, t.n ≠ s.n) → k.map (swap s') = k := fun k hk => by
    conv => rhs; rw [← List.map_id k]
    refine List.map_congr_left fun t ht => ?_
    unfold swap
    rw [if_neg (by rw [hn]; exact hk t ht)]
    rfl
  rw [List.map_append, List.map_cons, ne a (fun t ht => by have := h3 t ht s (by simp); omega), ne b (fun t ht => by have := h4 t ht; omega)]
  have : swap s' s = s' := if_pos hn.symm
  rw [this]
theorem del_mid {s : Sg} (a b : List Sg) (h : (a ++ s :: b).Pairwise (fun x y => x.n < y.n)) : del s.n (a ++ s :: b) = a ++ b := by
  obtain ⟨h1, h2, h3⟩ := List.pairwise_append.1 h
  obtain ⟨h4, h5⟩ := List.pairwise_cons.1 h2
  have ne : ∀ (k : List Sg), (∀ t ∈ k, t.n ≠ s.n) → del s.n k = k := fun k hk => by
    unfold del
    rw [List.filter_eq_self]
    intro t ht
    simpa using hk t ht
  have e : del s.n (a ++ s :: b) = del s.n a ++ del s.n (s :: b) := by simp [del, List.filter_append]
  have e2 : del s.n (s :: b) = del s.n b := by simp [del, List.filter_cons]
  rw [e, e2, ne a (fun t ht => by have := h3 t ht s (by simp); omega), ne b (fun t ht => by have := h4 t ht; omega)]
theorem used_mid (a b : List Sg) (s : Sg) : used (a ++ s :: b) = used a + s.b.length + used b := by simp [used]; omega
theorem DiskIs.tight (h : DiskIs F w d mb room fuse down l) : DiskIs (fun x => F x ∧ x < w.heap.size) w d mb room fuse down l := by
  refine ⟨h.blk, h.map, h.inc, h.seg, h.gs, h.vs, ⟨h.Fd, h.blk.lt⟩, ⟨h.Fm, ?_⟩, fun s hs => ⟨⟨(h.Fs s hs).1, (h.seg s hs).1.lt⟩, fun x hx => ⟨(h.Fs s hs).2 x hx, (h.seg s hs).2.1.lt x hx⟩⟩, h.room0, h.room1, h.len, h.tot, h.fuse0, h.fuse1⟩
  obtain ⟨f, hm, _⟩ := h.map
  exact hm.lt
theorem DiskIs.look1 (h : DiskIs F w d mb room fuse down l) {s : Sg} (hs : s ∈ l) : (Instr.lookup 67 (.map (some mb)) (.int .i64 s.n) false).run Try.prog w = .ok s.ptr w := by
  obtain ⟨f, hm, hf⟩ := h.map
  have h1 := (h.seg s hs).2.2.2
  rw [hm.look1 key3 Try.underlying67 (zero52 w) (keyOf3 ⟨by omega, by omega⟩), (hf _ _).2 ⟨s, hs, rfl, rfl⟩]
  rfl
end Go.Proofs.Ytokmiphgalpahaa
namespace Go.Proofs.Ytokmiphgalpahaa
open Go.RowKit Go.Kt
set_option maxRecDepth 100000
variable {F : Nat → Prop} {w w' : World} {d mb : Nat} {room fuse : Int} {down : Bool} {l : List Sg}
theorem crash_nil (w : World) (v : Value) : Calls Try.prog 25 #[.pointer none, v] w fun e w' => e = .returned (.int .i64 2) ∧ w = w' := by
  go_enter Try.func25, Try.ntmps25
  go_wp2_with fail
  go_ret
  exact ⟨rfl, rfl⟩
theorem own_cut_run {w : World} {a : Option Addr} {n cap : Nat} {b : List UInt8} (h : Own8 5 w (.slice a n cap) b) (k : Nat) (hk : k ≤ n) (W : World) : (Instr.slice 22 (.slice a n cap) none (some (.int .i64 (k : Int))) none).run Try.prog W = .ok (.slice a k cap) W := by
  rcases h.2 with ⟨e, h0⟩ | ⟨g, cap', cur, e, hb, hg, hn, hm, hcs, ht⟩
  · injection e with e1 e2 e3
    subst e1 e2 e3
    obtain rfl : k = 0 := by omega
    rw [run_cut_hi ok28 W none 0 0 0 .i64 (by omega) (by omega)]
    rfl
  · injection e with e1 e2 e3
    subst e1 e2 e3
    rw [run_cut_hi ok28 W _ _ _ k .i64 hk (by omega)]
    split <;> simp [Addr.add]
theorem Turn.drewN {F : Nat → Prop} {w w' : World} (n : Nat) (h : Turn F w w') : Turn F w (w'.drewN n) := ⟨h.os, h.tape, h.output, h.size, h.block⟩
theorem Turn.drew {F : Nat → Prop} {w w' : World} (h : Turn F w w') : Turn F w w'.drew := ⟨h.os, h.tape, h.output, h.size, h.block⟩
theorem crash_gone {keep : List Int} {pre : List Sg} {s : Sg} (h : keepN keep pre.length s = 0 ∧ s.kept = false) : crashL keep 0 (pre ++ [s]) = crashL keep 0 pre := by
  rw [crashL_append, Nat.zero_add]
  show _ ++ (if keepN keep pre.length s = 0 ∧ s.kept = false then [] else _) = _
  rw [if_pos h, List.append_nil]
theorem crash_stay {keep : List Int} {pre : List Sg} {s : Sg} (h : ¬ (keepN keep pre.length s = 0 ∧ s.kept = false)) : crashL keep 0 (pre ++ [s]) = crashL keep 0 pre ++ [s.cutTo (keepN keep pre.length s) true] := by
  rw [crashL_append, Nat.zero_add]
  show _ ++ (if keepN keep pre.length s = 0 ∧ s.kept = false then [] else _) = _
  rw [if_neg h]
  rfl
theorem DiskIs.cut1 {a rest : List Sg} {s : Sg} (h : DiskIs F w d mb room fuse down (a ++ s :: rest)) {k : Nat} {kept : Bool} (hk : k ≤ s.b.length) (ht : Turn (fun x => x = s.g) w w') (hb : Blk w' s.g (s.cutTo k kept).cells 95) :
    DiskIs F w' d mb room fuse down (a ++ s.cutTo k kept :: rest) := by
  have hs : s ∈ a ++ s :: rest := by simp
  have hg := h.seg s hs
  have e := swap_mid (s := s) (s' := s.cutTo k kept) rfl a rest h.inc
  rw [← e]
  have hlen : (s.b.take k).length = k := by simp; omega
  refine h.turn (s := s) (s' := s.cutTo k kept) hs rfl rfl (ht.mono (fun x hx => .inl hx)) hb ?_ (by show k ≤ (s.b.take k).length; omega) (fun x hx => .inl (by rw [← cutV_block s.v k]; exact hx)) ?_ (fun x hx => hx) (fun x hx => (h.Fs s hs).2 x (by rw [← cutV_block s.v k]; exact hx))
  · have h1 : Own8 5 w' s.v s.b := Own.keep hg.2.1 fun b hb => ht.block b (hg.2.1.lt b hb) (fun e => own_no_blk hg.2.1 hg.1 (by decide) (e ▸ hb))
    exact own8_cut h1 k hk
  · rw [e]
    have h1 := h.tot
    rw [used_mid] at h1 ⊢
    have : (s.cutTo k kept).b.length = k := hlen
    omega
set_option maxRecDepth 100000 in
set_option maxHeartbeats 4000000 in
theorem crash_any (h : DiskIs F w d mb room fuse down l) {kv : Value} {keep : List Int} (hk : RdRow 1 w kv keep.length (keep.map encZ)) (hF : ∀ x, kv.ownBlock = some x → keep ≠ [] → ¬ F x) (hlt : ∀ x, kv.ownBlock = some x → keep ≠ [] → x < w.heap.size) :
    Calls Try.prog 25 #[.pointer (some ⟨d, 0, none⟩), kv] w fun e w' => e = .returned (.int .i64 0) ∧ DiskIs F w' d mb room (-1) false (crashL keep 0 l) ∧ Turn F w w' := by
  obtain ⟨c0, c1, c2, c3⟩ := h.cell
  obtain ⟨f, ⟨D, hD, hsz, hcf⟩, hf⟩ := h.map
  have hlen := h.len
  have cS := sorted_any mb l.length D anyElem w hD (by unfold maxLen; omega) (by omega)
  have CS := Lib.hid cS
  have HN : Hid (∀ ss : List Int, ss.Perm (intKeys D) → ss.mergeSort (fun x y => decide (x ≤ y)) = l.map (·.n)) := Lib.hid (fun ss hp => nums_sorted h.inc hf hcf hD hp)
  have H := Lib.hid h
  have HK := Lib.hid hk
  obtain ⟨_, ka, kcap, rfl, _⟩ := hk
  have HF := Lib.hid hF
  have Hlt := Lib.hid hlt
  clear h hD hsz hcf hf cS hF hlt
  go_enter Try.func25, Try.ntmps25
  go_wp2_with (first
    | (go_at_call 46; refine (keys_any (some mb) _).mono ?_; rintro e w1 ⟨rfl, rfl⟩)
    | (go_at_call 45; refine CS.out.mono ?_; rintro e w2 ⟨v, ss, rfl, hp, hrow, hnil, hb⟩; have hm := HN.out ss hp; have hll : ss.length = l.length := (by have := congrArg List.length hm; simpa using this); rw [hm, hll] at hrow; have HB2 : Hid (Below w.heap.size w w2) := Lib.hid (((Below.refl _ w).alloc (Nat.le_refl _) _).trans (hb.mono (by simp))); obtain ⟨_, va, vcap, rfl, _⟩ := (show Own 3 1 w2 v l.length ((l.map (·.n)).map encZ) from ownsRow_base_a hrow (by omega)).rd; have Hrow := Lib.hid hrow; clear hp hrow hnil hb hm hll))
  have HT2 : Hid (DiskIs (fun x => F x ∧ x < w.heap.size) w2 d mb room fuse down l) := Lib.hid (H.out.tight.next HB2.out)
  go_loopw [5, 6, 7, 8, 18] (fun _ _ _ _ iv wr => ∃ pre rest, Hid (l = pre ++ rest) ∧ iv = .int .i64 (pre.length : Int) ∧ Hid (DiskIs (fun x => F x ∧ x < w.heap.size) wr d mb room fuse down (crashL keep 0 pre ++ rest)) ∧ Hid (Turn (fun x => F x ∧ x < w.heap.size) w2 wr)) (fun _ _ _ _ iv _ => l.length - (intOf iv).toNat)
  case atStart => exact ⟨[], l, Lib.hid rfl, rfl, HT2, Lib.hid (Turn.refl _ _)⟩
  case round =>
    obtain ⟨pre, rest, Hl, rfl, HD, HT⟩ := hrel
    cases rest with
    | nil =>
      have hl2 : pre.length = l.length := by rw [Hl.out]; simp
      have hb := HD.out.blk
      have q3 : wr.frozen? ⟨d, 3, none⟩ = false := hb.free 3
      have q2 : wr.frozen? ⟨d, 2, none⟩ = false := hb.free 2
      have hdl := hb.lt
      obtain ⟨_, _, g2, g3⟩ := HD.out.cell
      have HTF : Hid (Turn (· = d) wr ((wr.setCell ⟨d, 3, none⟩ (.bool false)).setCell ⟨d, 2, none⟩ (.int .i64 (-1)))) := Lib.hid (((Turn.refl (· = d) wr).set (a := ⟨d, 3, none⟩) rfl _).set (a := ⟨d, 2, none⟩) rfl _)
      have HDF : Hid (DiskIs (fun x => F x ∧ x < w.heap.size) ((wr.setCell ⟨d, 3, none⟩ (.bool false)).setCell ⟨d, 2, none⟩ (.int .i64 (-1))) d mb room (-1) false (crashL keep 0 pre ++ [])) := Lib.hid (HD.out.own ((hb.set 3 _).set 2 _) HTF.out (by omega) (by omega))
      clear hb
      go_wp2_with fail
      go_ret
      have hz := HDF.out
      rw [List.append_nil] at hz
      have hpl : pre = l := by have := Hl.out; rw [List.append_nil] at this; exact this.symm
      subst hpl
      exact ⟨rfl, hz.more (fun x hx => hx.1), ((Turn.of (F := F) HB2.out).trans (HT.out.trans HTF.out (fun x hx => .inl (hx ▸ HD.out.Fd))) (fun x hx => .inl hx.1))⟩
    | cons s rest =>
      have hs : s ∈ crashL keep 0 pre ++ s :: rest := by simp
      have hi : pre.length < l.length := by rw [Hl.out]; simp
      have hsl : l[pre.length]? = some s := by rw [Hl.out]; simp
      have hgo := (HD.out.seg s hs)
      have hb := hgo.1
      have k0 : wr.cell? ⟨s.g, 0, none⟩ = some s.v := hb.cell 0
      have k1 : wr.cell? ⟨s.g, 1, none⟩ = some (.int .i64 s.sure) := hb.cell 1
      have k2 : wr.cell? ⟨s.g, 2, none⟩ = some (.bool s.kept) := hb.cell 2
      have f0 : wr.frozen? ⟨s.g, 0, none⟩ = false := hb.free 0
      have f1 : wr.frozen? ⟨s.g, 1, none⟩ = false := hb.free 1
      have f2 : wr.frozen? ⟨s.g, 2, none⟩ = false := hb.free 2
      have hgl := hb.lt
      have hl1 := HD.out.look1 hs
      unfold Sg.ptr at hl1
      obtain ⟨_, e1, _, _⟩ := HD.out.cell
      have hsm := HD.out.small hs
      have hsu := hgo.2.2.1
      obtain ⟨_, sa, scap, hsv, hsc, hsm2, _⟩ := hgo.2.1.rd
      rw [hsv] at k0
      have hcut : Hid (∀ (k : Nat), k ≤ s.b.length → ∀ W, (Instr.slice 22 (.slice sa s.b.length scap) none (some (.int .i64 (k : Int))) none).run Try.prog W = .ok (.slice sa k scap) W) := Lib.hid (fun k hk W => own_cut_run (by rw [← hsv]; exact hgo.2.1) k hk W)
      have Hgo := Lib.hid hgo
      have Hsv := Lib.hid hsv
      have Hs := Lib.hid hs
      obtain ⟨vb, hvb, hvc⟩ : ∃ b, va = some ⟨b, 0, none⟩ ∧ wr.cell? ⟨b, pre.length, none⟩ = some (.int .i64 s.n) := by
        have hrow := Hrow.out
        have hq := World.ownsRow.lt hrow
        rcases hrow.2 with ⟨e, h0⟩ | ⟨g, cap', cur, e, hb, hg, hn, hm, hcs, ht⟩
        · omega
        · injection e with e1 e2 e3
          subst e1
          refine ⟨g, rfl, ?_⟩
          have h5 := hq g rfl
          rw [World.cell?_of_block (w := w2) (HT.out.block g h5.2 (fun hx => by have := hx.2; omega)), cell_of_row w2 g _ cur 3 (0, 0) hg]
          have h2 := congrArg (fun z => z[pre.length]?) ht
          simp only [List.getElem?_take, if_pos (show pre.length < l.length * 1 by omega)] at h2
          rw [List.map_map, List.getElem?_map, hsl] at h2
          simpa [encZ] using h2
      subst hvb
      have j1 : (0 : Int) ≤ (pre.length : Int) := by omega
      have j2 : (pre.length : Int) < (l.length : Int) := by omega
      clear hgo hb hsv hs hsl
      by_cases hki : pre.length < keep.length
      · obtain ⟨kx, hkx⟩ : ∃ x, keep[pre.length]? = some x := ⟨keep[pre.length], List.getElem?_eq_getElem hki⟩
        obtain ⟨kb, ko, hka, hkc⟩ : ∃ b o, ka = some ⟨b, o, none⟩ ∧ wr.cell? ⟨b, o + pre.length, none⟩ = some (.int .i64 kx) := by
          have h1 := HK.out.below HB2.out
          have h2 : RdRow 1 wr (.slice ka keep.length kcap) keep.length (keep.map encZ) := h1.keep fun b hb => HT.out.block b (Nat.lt_of_lt_of_le (Hlt.out b hb (by rintro rfl; simp at hki)) HB2.out.size) (fun hx => HF.out b hb (by rintro rfl; simp at hki) hx.1)
          obtain ⟨_, a', c', e, _, _, _, h6⟩ := h2
          injection e with e1 _ _
          subst e1
          exact h6 pre.length _ (by rw [List.getElem?_map, hkx]; rfl)
        subst hka
        have j3 : (pre.length : Int) < (keep.length : Int) := by omega
        go_upto_region 9 with fail
        go_quiet (fail)
        go_upto_region 9 with fail
        have hm : moreOf keep pre.length (s.b.length - s.sure) = min kx.toNat (s.b.length - s.sure) := by unfold moreOf; rw [hkx]
        rw [show max 0 (min kx ((s.b.length : Int) - (s.sure : Int))) = ((moreOf keep pre.length (s.b.length - s.sure) : Nat) : Int) by omega]
        have hmle := moreOf_le keep pre.length (s.b.length - s.sure)
        have HKN : Hid (keepN keep pre.length s = s.sure + moreOf keep pre.length (s.b.length - s.sure)) := Lib.hid rfl
        clear hm
        generalize moreOf keep pre.length (s.b.length - s.sure) = m at *
        have hrun : ∀ W, (Instr.slice 22 (.slice sa s.b.length scap) none (some (.int .i64 ((s.sure : Int) + (m : Int)))) none).run Try.prog W = .ok (.slice sa (s.sure + m) scap) W := fun W => by
          have := hcut.out (s.sure + m) (by omega) W
          rwa [Int.natCast_add] at this
        go_region
        all_goals (go_upto_region 11 with fail)
        have hT3 : Turn (fun x => x = s.g) wr (((wr.drewN (nq + 1)).setCell ⟨s.g, 0, none⟩ (.slice sa (s.sure + m) scap)).setCell ⟨s.g, 1, none⟩ (.int .i64 ((s.sure : Int) + (m : Int)))) := ((Turn.drewN (nq + 1) (Turn.refl (fun x => x = s.g) wr)).set (a := ⟨s.g, 0, none⟩) rfl _).set (a := ⟨s.g, 1, none⟩) rfl _
        have hB3 : Blk (((wr.drewN (nq + 1)).setCell ⟨s.g, 0, none⟩ (.slice sa (s.sure + m) scap)).setCell ⟨s.g, 1, none⟩ (.int .i64 ((s.sure : Int) + (m : Int)))) s.g #[.slice sa (s.sure + m) scap, .int .i64 ((s.sure : Int) + (m : Int)), .bool s.kept] 95 := by
          have hz := Hgo.out.1
          have hz2 := (hz.set 0 (.slice sa (s.sure + m) scap)).set 1 (.int .i64 ((s.sure : Int) + (m : Int)))
          exact hz2
        have hkk : keepN keep pre.length s = s.sure + m := HKN.out
        generalize (((wr.drewN (nq + 1)).setCell ⟨s.g, 0, none⟩ (.slice sa (s.sure + m) scap)).setCell ⟨s.g, 1, none⟩ (.int .i64 ((s.sure : Int) + (m : Int)))) = W3 at *
        have HD3 : Hid (DiskIs (fun x => F x ∧ x < w.heap.size) W3 d mb room fuse down (crashL keep 0 pre ++ s.cutTo (s.sure + m) s.kept :: rest)) := Lib.hid (HD.out.cut1 (by omega) hT3 (by
          have e : (s.cutTo (s.sure + m) s.kept).cells = #[.slice sa (s.sure + m) scap, .int .i64 ((s.sure : Int) + (m : Int)), .bool s.kept] := by
            unfold Sg.cells Sg.cutTo cutV
            simp only [Hsv.out]
            rw [Int.natCast_add]
          rw [e]
          exact hB3))
        obtain ⟨_, e5, _, _⟩ := HD3.out.cell
        have m1 : W3.cell? ⟨s.g, 1, none⟩ = some (.int .i64 ((s.sure : Int) + (m : Int))) := hB3.cell 1
        have m2 : W3.cell? ⟨s.g, 2, none⟩ = some (.bool s.kept) := hB3.cell 2
        have m3 : W3.frozen? ⟨s.g, 2, none⟩ = false := hB3.free 2
        have hgl3 := hB3.lt
        have HT3 : Hid (Turn (fun x => F x ∧ x < w.heap.size) w2 W3) := Lib.hid (HT.out.trans hT3 (fun x hx => .inl (hx ▸ (HD.out.Fs s Hs.out).1)))
        have HB3 := Lib.hid hB3
        have HHl : Hid (l = (pre ++ [s]) ++ rest) := Lib.hid (by rw [Hl.out]; simp)
        clear hT3 hB3
        by_cases hgone : keepN keep pre.length s = 0 ∧ s.kept = false
        · have z1 : ((s.sure : Int) + (m : Int)) = 0 := by have := hgone.1; omega
          have z2 := hgone.2
          have Hgone := Lib.hid hgone
          obtain ⟨w5, hr5, hD5, hg5⟩ := HD3.out.drop (s := s.cutTo (s.sure + m) s.kept) (by simp) 0
          have hr5' : (Builtin.delete_ #[67, 3] 0 #[.map (some mb), .int .i64 s.n]).run Try.prog W3 = .ok (.tuple #[]) w5 := hr5
          have HD5 : Hid (DiskIs (fun x => F x ∧ x < w.heap.size) w5 d mb room fuse down (crashL keep 0 (pre ++ [s]) ++ rest)) := Lib.hid (by
            have hz := del_mid (crashL keep 0 pre) rest HD3.out.inc
            have hz2 := hD5
            rw [hz] at hz2
            rw [crash_gone Hgone.out]
            exact hz2)
          have HT5 : Hid (Turn (fun x => F x ∧ x < w.heap.size) w2 w5) := Lib.hid (HT3.out.trans (Turn.grown hg5 (F := fun x => F x ∧ x < w.heap.size) (fun x hx => by injection hx with hx; exact hx ▸ HD.out.Fm)) (fun x hx => .inl hx))
          rw [z2] at m2
          clear hgone hr5 hD5 hg5 hkk
          go_wp2_with fail
          go_roundw
          case rel => exact ⟨pre ++ [s], rest, HHl, by simp, HD5, HT5⟩
          case measure => simp [intOf] <;> omega
        · have HTF : Hid (Turn (fun x => x = s.g) W3 (W3.setCell ⟨s.g, 2, none⟩ (.bool true))) := Lib.hid ((Turn.refl (fun x => x = s.g) W3).set (a := ⟨s.g, 2, none⟩) rfl _)
          have HD5 : Hid (DiskIs (fun x => F x ∧ x < w.heap.size) (W3.setCell ⟨s.g, 2, none⟩ (.bool true)) d mb room fuse down (crashL keep 0 (pre ++ [s]) ++ rest)) := Lib.hid (by
            have hq := HD3.out.cut1 (k := s.sure + m) (kept := true) (by show _ ≤ (s.b.take (s.sure + m)).length; rw [List.length_take]; omega) HTF.out (by
              have hz := HB3.out.set 2 (.bool true)
              have e : ((s.cutTo (s.sure + m) s.kept).cutTo (s.sure + m) true).cells = #[.slice sa (s.sure + m) scap, .int .i64 ((s.sure : Int) + (m : Int)), .bool true] := by
                unfold Sg.cells Sg.cutTo cutV
                simp only [Hsv.out]
                rw [Int.natCast_add]
              rw [e]
              exact hz)
            have e2 : (s.cutTo (s.sure + m) s.kept).cutTo (s.sure + m) true = s.cutTo (s.sure + m) true := by
              unfold Sg.cutTo cutV
              simp only [Hsv.out]
              rw [List.take_take, Nat.min_self]
            rw [e2] at hq
            rw [crash_stay hgone, hkk, List.append_assoc]
            exact hq)
          have HT5 : Hid (Turn (fun x => F x ∧ x < w.heap.size) w2 (W3.setCell ⟨s.g, 2, none⟩ (.bool true))) := Lib.hid (HT3.out.trans HTF.out (fun x hx => .inl (hx ▸ (HD.out.Fs s Hs.out).1)))
          by_cases hz0 : ((s.sure : Int) + (m : Int)) = 0
          · have z2 : s.kept = true := by
              cases hkp : s.kept with
              | true => rfl
              | false => exact (hgone ⟨by omega, hkp⟩).elim
            rw [z2] at m2
            clear hgone hkk
            go_wp2_with fail
            go_roundw
            case rel => exact ⟨pre ++ [s], rest, HHl, by simp, HD5, HT5⟩
            case measure => simp [intOf] <;> omega
          · have z1 : decide (((s.sure : Int) + (m : Int)) = 0) = false := by simpa using hz0
            clear hgone hkk
            go_wp2_with fail
            go_roundw
            case rel => exact ⟨pre ++ [s], rest, HHl, by simp, HD5, HT5⟩
            case measure => simp [intOf] <;> omega
      · have j3 : decide ((pre.length : Int) < (keep.length : Int)) = false := by simp only [decide_eq_false_iff_not]; omega
        go_upto_region 9 with fail
        have HKN : Hid (keepN keep pre.length s = s.sure) := Lib.hid (by unfold keepN moreOf; rw [List.getElem?_eq_none (by omega)]; rfl)
        have hrun : ∀ W, (Instr.slice 22 (.slice sa s.b.length scap) none (some (.int .i64 (s.sure : Int))) none).run Try.prog W = .ok (.slice sa s.sure scap) W := fun W => hcut.out s.sure (by omega) W
        go_region
        all_goals (go_upto_region 11 with fail)
        have hT3 : Turn (fun x => x = s.g) wr ((wr.setCell ⟨s.g, 0, none⟩ (.slice sa s.sure scap)).setCell ⟨s.g, 1, none⟩ (.int .i64 s.sure)).drew := (((Turn.refl (fun x => x = s.g) wr)).set (a := ⟨s.g, 0, none⟩) rfl _).set (a := ⟨s.g, 1, none⟩) rfl _ |>.drew
        have hB3 : Blk ((wr.setCell ⟨s.g, 0, none⟩ (.slice sa s.sure scap)).setCell ⟨s.g, 1, none⟩ (.int .i64 s.sure)).drew s.g #[.slice sa (s.sure) scap, .int .i64 (s.sure : Int), .bool s.kept] 95 := by
          have hz := Hgo.out.1
          have hz2 := (hz.set 0 (.slice sa (s.sure) scap)).set 1 (.int .i64 (s.sure : Int))
          exact hz2
        have hkk : keepN keep pre.length s = s.sure := HKN.out
        generalize ((wr.setCell ⟨s.g, 0, none⟩ (.slice sa s.sure scap)).setCell ⟨s.g, 1, none⟩ (.int .i64 s.sure)).drew = W3 at *
        have HD3 : Hid (DiskIs (fun x => F x ∧ x < w.heap.size) W3 d mb room fuse down (crashL keep 0 pre ++ s.cutTo (s.sure) s.kept :: rest)) := Lib.hid (HD.out.cut1 (by omega) hT3 (by
          have e : (s.cutTo (s.sure) s.kept).cells = #[.slice sa (s.sure) scap, .int .i64 (s.sure : Int), .bool s.kept] := by
            unfold Sg.cells Sg.cutTo cutV
            simp only [Hsv.out]
          rw [e]
          exact hB3))
        obtain ⟨_, e5, _, _⟩ := HD3.out.cell
        have m1 : W3.cell? ⟨s.g, 1, none⟩ = some (.int .i64 (s.sure : Int)) := hB3.cell 1
        have m2 : W3.cell? ⟨s.g, 2, none⟩ = some (.bool s.kept) := hB3.cell 2
        have m3 : W3.frozen? ⟨s.g, 2, none⟩ = false := hB3.free 2
        have hgl3 := hB3.lt
        have HT3 : Hid (Turn (fun x => F x ∧ x < w.heap.size) w2 W3) := Lib.hid (HT.out.trans hT3 (fun x hx => .inl (hx ▸ (HD.out.Fs s Hs.out).1)))
        have HB3 := Lib.hid hB3
        have HHl : Hid (l = (pre ++ [s]) ++ rest) := Lib.hid (by rw [Hl.out]; simp)
        clear hT3 hB3
        by_cases hgone : keepN keep pre.length s = 0 ∧ s.kept = false
        · have z1 : (s.sure : Int) = 0 := by have := hgone.1; omega
          have z2 := hgone.2
          have Hgone := Lib.hid hgone
          obtain ⟨w5, hr5, hD5, hg5⟩ := HD3.out.drop (s := s.cutTo (s.sure) s.kept) (by simp) 0
          have hr5' : (Builtin.delete_ #[67, 3] 0 #[.map (some mb), .int .i64 s.n]).run Try.prog W3 = .ok (.tuple #[]) w5 := hr5
          have HD5 : Hid (DiskIs (fun x => F x ∧ x < w.heap.size) w5 d mb room fuse down (crashL keep 0 (pre ++ [s]) ++ rest)) := Lib.hid (by
            have hz := del_mid (crashL keep 0 pre) rest HD3.out.inc
            have hz2 := hD5
            rw [hz] at hz2
            rw [crash_gone Hgone.out]
            exact hz2)
          have HT5 : Hid (Turn (fun x => F x ∧ x < w.heap.size) w2 w5) := Lib.hid (HT3.out.trans (Turn.grown hg5 (F := fun x => F x ∧ x < w.heap.size) (fun x hx => by injection hx with hx; exact hx ▸ HD.out.Fm)) (fun x hx => .inl hx))
          rw [z2] at m2
          clear hgone hr5 hD5 hg5 hkk
          go_wp2_with fail
          go_roundw
          case rel => exact ⟨pre ++ [s], rest, HHl, by simp, HD5, HT5⟩
          case measure => simp [intOf] <;> omega
        · have HTF : Hid (Turn (fun x => x = s.g) W3 (W3.setCell ⟨s.g, 2, none⟩ (.bool true))) := Lib.hid ((Turn.refl (fun x => x = s.g) W3).set (a := ⟨s.g, 2, none⟩) rfl _)
          have HD5 : Hid (DiskIs (fun x => F x ∧ x < w.heap.size) (W3.setCell ⟨s.g, 2, none⟩ (.bool true)) d mb room fuse down (crashL keep 0 (pre ++ [s]) ++ rest)) := Lib.hid (by
            have hq := HD3.out.cut1 (k := s.sure) (kept := true) (by show _ ≤ (s.b.take (s.sure)).length; rw [List.length_take]; omega) HTF.out (by
              have hz := HB3.out.set 2 (.bool true)
              have e : ((s.cutTo (s.sure) s.kept).cutTo (s.sure) true).cells = #[.slice sa (s.sure) scap, .int .i64 (s.sure : Int), .bool true] := by
                unfold Sg.cells Sg.cutTo cutV
                simp only [Hsv.out]
              rw [e]
              exact hz)
            have e2 : (s.cutTo (s.sure) s.kept).cutTo (s.sure) true = s.cutTo (s.sure) true := by
              unfold Sg.cutTo cutV
              simp only [Hsv.out]
              rw [List.take_take, Nat.min_self]
            rw [e2] at hq
            rw [crash_stay hgone, hkk, List.append_assoc]
            exact hq)
          have HT5 : Hid (Turn (fun x => F x ∧ x < w.heap.size) w2 (W3.setCell ⟨s.g, 2, none⟩ (.bool true))) := Lib.hid (HT3.out.trans HTF.out (fun x hx => .inl (hx ▸ (HD.out.Fs s Hs.out).1)))
          by_cases hz0 : (s.sure : Int) = 0
          · have z2 : s.kept = true := by
              cases hkp : s.kept with
              | true => rfl
              | false => exact (hgone ⟨by omega, hkp⟩).elim
            rw [z2] at m2
            clear hgone hkk
            go_wp2_with fail
            go_roundw
            case rel => exact ⟨pre ++ [s], rest, HHl, by simp, HD5, HT5⟩
            case measure => simp [intOf] <;> omega
          · have z1 : decide ((s.sure : Int) = 0) = false := by simpa using hz0
            clear hgone hkk
            go_wp2_with fail
            go_roundw
            case rel => exact ⟨pre ++ [s], rest, HHl, by simp, HD5, HT5⟩
            case measure => simp [intOf] <;> omega
end Go.Proofs.Ytokmiphgalpahaa
namespace Go.Proofs.Ytokmiphgalpahaa
open Go.RowKit Go.Kt
set_option maxRecDepth 100000
variable {F : Nat → Prop} {w w' : World} {d mb : Nat} {room fuse : Int} {down : Bool} {l : List Sg}

/-- a segment as plain data -/
structure Pg where
  n : Int
  b : List UInt8
  sure : Nat
  kept : Bool
/-- a disk as plain data -/
structure Pd where
  room : Int
  fuse : Int
  down : Bool
  L : List Pg
def Sg.pg (s : Sg) : Pg := ⟨s.n, s.b, s.sure, s.kept⟩
def usedP (L : List Pg) : Nat := (L.map fun p => p.b.length).sum
def HasP (n : Int) (L : List Pg) : Prop := ∃ p ∈ L, p.n = n
instance (n : Int) (L : List Pg) : Decidable (HasP n L) := by unfold HasP; infer_instance
def addP (n : Int) (pl : List UInt8) (p : Pg) : Pg := if p.n = n then { p with b := p.b ++ pl } else p
def syncP (n : Int) (p : Pg) : Pg := if p.n = n then { p with sure := p.b.length, kept := true } else p
def insP (q : Pg) : List Pg → List Pg
  | [] => [q]
  | t :: ks => if t.n < q.n then t :: insP q ks else q :: t :: ks
def appP (n : Int) (pl : List UInt8) (L : List Pg) : List Pg := if HasP n L then L.map (addP n pl) else insP ⟨n, pl, 0, false⟩ L
def dropP (n : Int) (L : List Pg) : List Pg := L.filter fun p => decide (p.n ≠ n)
def keepP (keep : List Int) (i : Nat) (p : Pg) : Nat := p.sure + moreOf keep i (p.b.length - p.sure)
def crashP (keep : List Int) : Nat → List Pg → List Pg
  | _, [] => []
  | i, p :: t => if keepP keep i p = 0 ∧ p.kept = false then crashP keep (i + 1) t else ⟨p.n, p.b.take (keepP keep i p), keepP keep i p, true⟩ :: crashP keep (i + 1) t
def Pd.app (P : Pd) (n : Int) (pl : List UInt8) : Int × Pd :=
  if P.down = true then (5, P)
  else if n < 1 then (1, P)
  else if P.room - usedP P.L < pl.length ∨ (¬ HasP n P.L ∧ 1024 ≤ P.L.length) then (4, P)
  else if P.fuse = 0 then (5, { P with down := true })
  else (0, { P with fuse := powF P.fuse, L := appP n pl P.L })
def Pd.sync (P : Pd) (n : Int) : Int × Pd :=
  if P.down = true then (5, P)
  else if ¬ HasP n P.L then (6, P)
  else if P.fuse = 0 then (5, { P with down := true })
  else (0, { P with fuse := powF P.fuse, L := P.L.map (syncP n) })
def Pd.drop (P : Pd) (n : Int) : Int × Pd :=
  if P.down = true then (5, P)
  else if ¬ HasP n P.L then (6, P)
  else if P.fuse = 0 then (5, { P with down := true })
  else (0, { P with fuse := powF P.fuse, L := dropP n P.L })
def Pd.setFuse (P : Pd) (n : Int) : Int × Pd := if P.down = true then (5, P) else (0, { P with fuse := max n (-1) })
def Pd.crash (P : Pd) (keep : List Int) : Pd := ⟨P.room, -1, false, crashP keep 0 P.L⟩

theorem used_pg (l : List Sg) : used l = usedP (l.map Sg.pg) := by
  unfold used usedP
  rw [List.map_map]
  rfl
theorem lacks_pg {n : Int} : Lacks l n ↔ ¬ HasP n (l.map Sg.pg) := by
  constructor
  · rintro h ⟨p, hp, e⟩
    obtain ⟨s, hs, rfl⟩ := List.mem_map.1 hp
    exact h s hs e
  · exact fun h s hs e => h ⟨s.pg, List.mem_map.2 ⟨s, hs, rfl⟩, e⟩
theorem has_pg {n : Int} (h : HasP n (l.map Sg.pg)) : ∃ s ∈ l, s.n = n := by
  obtain ⟨p, hp, e⟩ := h
  obtain ⟨s, hs, rfl⟩ := List.mem_map.1 hp
  exact ⟨s, hs, e⟩
theorem ins_pg (s : Sg) : ∀ l : List Sg, (ins s l).map Sg.pg = insP s.pg (l.map Sg.pg)
  | [] => rfl
  | t :: ks => by
    unfold ins
    rw [List.map_cons]
    unfold insP
    have e : (t.pg.n < s.pg.n) = (t.n < s.n) := rfl
    split
    · rename_i h
      rw [if_pos (show t.pg.n < s.pg.n from h), List.map_cons, ins_pg s ks]
    · rename_i h
      rw [if_neg (show ¬ t.pg.n < s.pg.n from h), List.map_cons, List.map_cons]
theorem crash_pg (keep : List Int) : ∀ (i : Nat) (l : List Sg), (crashL keep i l).map Sg.pg = crashP keep i (l.map Sg.pg)
  | _, [] => rfl
  | i, s :: t => by
    have e1 : crashL keep i (s :: t) = if keepN keep i s = 0 ∧ s.kept = false then crashL keep (i + 1) t else s.cutTo (keepN keep i s) true :: crashL keep (i + 1) t := rfl
    have e2 : crashP keep i ((s :: t).map Sg.pg) = if keepN keep i s = 0 ∧ s.kept = false then crashP keep (i + 1) (t.map Sg.pg) else (s.cutTo (keepN keep i s) true).pg :: crashP keep (i + 1) (t.map Sg.pg) := rfl
    rw [e1, e2]
    split
    · exact crash_pg keep (i + 1) t
    · rw [List.map_cons, crash_pg keep (i + 1) t]
theorem swap_pg (h : DiskIs F w d mb room fuse down l) {s s' : Sg} (hs : s ∈ l) (hn : s'.n = s.n) {f : Pg → Pg} (hf : s'.pg = f s.pg) (hf' : ∀ p : Pg, p.n ≠ s.n → f p = p) : (l.map (swap s')).map Sg.pg = (l.map Sg.pg).map f := by
  rw [List.map_map, List.map_map]
  refine List.map_congr_left fun t ht => ?_
  show (swap s' t).pg = f t.pg
  unfold swap
  split
  · rename_i e
    rw [h.same_n ht hs (e.trans hn), hf]
  · rename_i e
    exact (hf' t.pg (fun e2 => e (e2.trans hn.symm))).symm
theorem swap_ins {q q' : Sg} (hn : q'.n = q.n) : ∀ l : List Sg, Lacks l q.n → (ins q l).map (swap q') = ins q' l
  | [], _ => by
    show [swap q' q] = [q']
    rw [show swap q' q = q' from if_pos hn.symm]
  | t :: ks, h => by
    have e3 : ∀ q : Sg, ins q (t :: ks) = if t.n < q.n then t :: ins q ks else q :: t :: ks := fun _ => rfl
    have ht : swap q' t = t := if_neg (by rw [hn]; exact h t (by simp))
    have hks : ks.map (swap q') = ks := by
      conv => rhs; rw [← List.map_id ks]
      exact List.map_congr_left fun x hx => if_neg (by rw [hn]; exact h x (by simp [hx]))
    rw [e3, e3, hn]
    split
    · rw [List.map_cons, ht, swap_ins hn ks (fun x hx => h x (by simp [hx]))]
    · rw [List.map_cons, List.map_cons, ht, hks, show swap q' q = q' from if_pos hn.symm]
theorem drop_pg (n : Int) (l : List Sg) : (del n l).map Sg.pg = dropP n (l.map Sg.pg) := by
  unfold del dropP
  rw [List.filter_map]
  rfl

/-- a disk in memory, as plain data -/
def DAt (F : Nat → Prop) (w : World) (d mb : Nat) (P : Pd) : Prop := ∃ l, DiskIs F w d mb P.room P.fuse P.down l ∧ l.map Sg.pg = P.L
theorem DAt.more {P : Pd} (h : DAt F w d mb P) {G : Nat → Prop} (hG : ∀ x, F x → G x) : DAt G w d mb P := by
  obtain ⟨l, h1, h2⟩ := h
  exact ⟨l, h1.more hG, h2⟩
theorem DAt.keep {P : Pd} (h : DAt F w d mb P) {G : Nat → Prop} (ht : Turn G w w') (hG : ∀ x, F x → ¬ G x) : DAt F w' d mb P := by
  obtain ⟨l, h1, h2⟩ := h
  exact ⟨l, h1.keep ht hG, h2⟩
theorem DAt.next {P : Pd} (h : DAt F w d mb P) (hb : Below w.heap.size w w') : DAt F w' d mb P := by
  obtain ⟨l, h1, h2⟩ := h
  exact ⟨l, h1.next hb, h2⟩
theorem DAt.tight {P : Pd} (h : DAt F w d mb P) : DAt (fun x => F x ∧ x < w.heap.size) w d mb P := by
  obtain ⟨l, h1, h2⟩ := h
  exact ⟨l, h1.tight, h2⟩
theorem plus_of {x : Nat} (h : F x) : Plus F w w' x := .inl h

def Done (F : Nat → Prop) (w : World) (d mb : Nat) (r : Int × Pd) (e : Ending) (w' : World) : Prop := e = .returned (.int .i64 r.1) ∧ DAt (Plus F w w') w' d mb r.2 ∧ Turn F w w'

theorem app_any {P : Pd} (h : DAt F w d mb P) {n : Int} (hn : Rng n) {v : Value} {pl : List UInt8} (hv : Rd8 w v pl) (hF : ∀ x, v.ownBlock = some x → pl ≠ [] → ¬ F x) (hlt : ∀ x, v.ownBlock = some x → pl ≠ [] → x < w.heap.size) :
    Calls Try.prog 26 #[.pointer (some ⟨d, 0, none⟩), .int .i64 n, v] w (Done F w d mb (P.app n pl)) := by
  obtain ⟨l, hD, hL⟩ := h
  obtain ⟨room, fuse, down, L⟩ := P
  simp only at hD hL
  subst hL
  unfold Pd.app
  have hlen : (l.map Sg.pg).length = l.length := List.length_map _
  simp only [hlen, ← used_pg]
  split
  · rename_i hd
    subst hd
    refine (append_down hD n v).mono ?_
    rintro e w1 ⟨rfl, rfl⟩
    exact ⟨rfl, ⟨l, hD.more (fun x hx => .inl hx), rfl⟩, Turn.refl _ _⟩
  rename_i hd
  obtain rfl : down = false := by simpa using hd
  split
  · rename_i h1
    refine (append_arg hD hn h1 v).mono ?_
    rintro e w1 ⟨rfl, rfl⟩
    exact ⟨rfl, ⟨l, hD.more (fun x hx => .inl hx), rfl⟩, Turn.refl _ _⟩
  rename_i h1
  have h1' : 1 ≤ n := by omega
  have fullc : ∀ e w1, (e = .returned (.int .i64 4) ∧ Below w.heap.size w w1) → Done F w d mb (4, ⟨room, fuse, false, l.map Sg.pg⟩) e w1 := fun e w1 ⟨he, hb⟩ => ⟨he, ⟨l, (hD.next hb).more (fun x hx => .inl hx), rfl⟩, Turn.of hb⟩
  have deadc : ∀ {fuse : Int} (e) (w1), (e = .returned (.int .i64 5) ∧ DiskIs F w1 d mb room fuse true l ∧ Turn F w w1) → Done F w d mb (5, ⟨room, fuse, true, l.map Sg.pg⟩) e w1 := fun e w1 ⟨he, hb, ht⟩ => ⟨he, ⟨l, hb.more (fun x hx => .inl hx), rfl⟩, ht⟩
  rcases lacks_or l n with hlk | ⟨s, hs, rfl⟩
  · have hno : ¬ HasP n (l.map Sg.pg) := lacks_pg.1 hlk
    split
    · rename_i h2
      refine (append_full2 hD hn h1' hlk hv ?_).mono fullc
      rcases h2 with h2 | h2
      · exact .inl h2
      · exact .inr h2.2
    rename_i h2
    have h3 : l.length < 1024 := Nat.lt_of_not_le fun h => h2 (.inr ⟨hno, h⟩)
    have h4 : (pl.length : Int) ≤ room - used l := by
      have : ¬ (room - used l < pl.length) := fun h => h2 (.inl h)
      omega
    split
    · rename_i hf
      subst hf
      exact (append_dead2 hD hn h1' hlk h3 hv hF hlt h4).mono deadc
    · rename_i hf
      refine (append_yes2 hD hf hn h1' hlk h3 hv hF hlt h4).mono ?_
      rintro e w1 ⟨g, v', rfl, hD1, ht⟩
      refine ⟨rfl, ⟨_, hD1, ?_⟩, ht⟩
      unfold appP
      rw [if_neg hno]
      have e1 : (ins (fresh n g) l).map (swap { fresh n g with v := v', b := pl }) = ins { fresh n g with v := v', b := pl } l := swap_ins (q := fresh n g) (q' := { fresh n g with v := v', b := pl }) rfl l hlk
      rw [e1, ins_pg]
      rfl
  · have hyes : HasP s.n (l.map Sg.pg) := ⟨s.pg, List.mem_map.2 ⟨s, hs, rfl⟩, rfl⟩
    split
    · rename_i h2
      refine (append_full hD hs hv ?_).mono fullc
      rcases h2 with h2 | h2
      · exact h2
      · exact (h2.1 hyes).elim
    rename_i h2
    have h4 : (pl.length : Int) ≤ room - used l := by
      have : ¬ (room - used l < pl.length) := fun h => h2 (.inl h)
      omega
    split
    · rename_i hf
      subst hf
      exact (append_dead hD hs hv hF hlt h4).mono deadc
    · rename_i hf
      refine (append_yes hD hf hs hv hF hlt h4).mono ?_
      rintro e w1 ⟨v', rfl, hD1, ht⟩
      refine ⟨rfl, ⟨_, hD1, ?_⟩, ht⟩
      unfold appP
      rw [if_pos hyes]
      exact swap_pg hD hs (s' := { s with v := v', b := s.b ++ pl }) rfl (f := addP s.n pl) (by unfold addP; rw [if_pos (show s.pg.n = s.n from rfl)]; rfl) (fun p hp => if_neg hp)
theorem sync_any {P : Pd} (h : DAt F w d mb P) {n : Int} (hn : Rng n) : Calls Try.prog 28 #[.pointer (some ⟨d, 0, none⟩), .int .i64 n] w (Done F w d mb (P.sync n)) := by
  obtain ⟨l, hD, hL⟩ := h
  obtain ⟨room, fuse, down, L⟩ := P
  simp only at hD hL
  subst hL
  unfold Pd.sync
  split
  · rename_i hd
    subst hd
    refine (sync_down hD n).mono ?_
    rintro e w1 ⟨rfl, rfl⟩
    exact ⟨rfl, ⟨l, hD.more (fun x hx => .inl hx), rfl⟩, Turn.refl _ _⟩
  rename_i hd
  obtain rfl : down = false := by simpa using hd
  split
  · rename_i h1
    refine (sync_no hD hn (lacks_pg.2 h1)).mono ?_
    rintro e w1 ⟨rfl, rfl⟩
    exact ⟨rfl, ⟨l, hD.more (fun x hx => .inl hx), rfl⟩, Turn.refl _ _⟩
  rename_i h1
  obtain ⟨s, hs, rfl⟩ := has_pg (Classical.not_not.1 h1)
  split
  · rename_i hf
    simp only at hf
    subst hf
    exact (sync_dead hD hs).mono fun e w1 ⟨he, hb, ht⟩ => ⟨he, ⟨l, hb.more (fun x hx => .inl hx), rfl⟩, ht⟩
  · rename_i hf
    refine (sync_yes hD hf hs).mono ?_
    rintro e w1 ⟨rfl, hD1, ht⟩
    exact ⟨rfl, ⟨_, hD1.more (fun x hx => .inl hx), swap_pg hD hs (s' := s.synced) rfl (f := syncP s.n) (by unfold syncP; rw [if_pos (show s.pg.n = s.n from rfl)]; rfl) (fun p hp => if_neg hp)⟩, ht⟩
theorem drop_any {P : Pd} (h : DAt F w d mb P) {n : Int} (hn : Rng n) : Calls Try.prog 29 #[.pointer (some ⟨d, 0, none⟩), .int .i64 n] w (Done F w d mb (P.drop n)) := by
  obtain ⟨l, hD, hL⟩ := h
  obtain ⟨room, fuse, down, L⟩ := P
  simp only at hD hL
  subst hL
  unfold Pd.drop
  split
  · rename_i hd
    subst hd
    refine (drop_down hD n).mono ?_
    rintro e w1 ⟨rfl, rfl⟩
    exact ⟨rfl, ⟨l, hD.more (fun x hx => .inl hx), rfl⟩, Turn.refl _ _⟩
  rename_i hd
  obtain rfl : down = false := by simpa using hd
  split
  · rename_i h1
    refine (drop_no hD hn (lacks_pg.2 h1)).mono ?_
    rintro e w1 ⟨rfl, rfl⟩
    exact ⟨rfl, ⟨l, hD.more (fun x hx => .inl hx), rfl⟩, Turn.refl _ _⟩
  rename_i h1
  obtain ⟨s, hs, rfl⟩ := has_pg (Classical.not_not.1 h1)
  split
  · rename_i hf
    simp only at hf
    subst hf
    exact (drop_dead hD hs).mono fun e w1 ⟨he, hb, ht⟩ => ⟨he, ⟨l, hb.more (fun x hx => .inl hx), rfl⟩, ht⟩
  · rename_i hf
    refine (drop_yes hD hf hs).mono ?_
    rintro e w1 ⟨rfl, hD1, ht⟩
    exact ⟨rfl, ⟨_, hD1.more (fun x hx => .inl hx), drop_pg _ _⟩, ht⟩
theorem setFuse_any {P : Pd} (h : DAt F w d mb P) {n : Int} (hn : Rng n) : Calls Try.prog 32 #[.pointer (some ⟨d, 0, none⟩), .int .i64 n] w (Done F w d mb (P.setFuse n)) := by
  obtain ⟨l, hD, hL⟩ := h
  obtain ⟨room, fuse, down, L⟩ := P
  simp only at hD hL
  subst hL
  unfold Pd.setFuse
  split
  · rename_i hd
    subst hd
    refine (fuse_down hD n).mono ?_
    rintro e w1 ⟨rfl, rfl⟩
    exact ⟨rfl, ⟨l, hD.more (fun x hx => .inl hx), rfl⟩, Turn.refl _ _⟩
  rename_i hd
  obtain rfl : down = false := by simpa using hd
  refine (fuse_yes hD hn).mono ?_
  rintro e w1 ⟨rfl, hD1, ht⟩
  exact ⟨rfl, ⟨_, hD1.more (fun x hx => .inl hx), rfl⟩, ht.mono (fun x hx => hx ▸ hD.Fd)⟩
theorem crashD_any {P : Pd} (h : DAt F w d mb P) {kv : Value} {keep : List Int} (hk : RdRow 1 w kv keep.length (keep.map encZ)) (hF : ∀ x, kv.ownBlock = some x → keep ≠ [] → ¬ F x) (hlt : ∀ x, kv.ownBlock = some x → keep ≠ [] → x < w.heap.size) :
    Calls Try.prog 25 #[.pointer (some ⟨d, 0, none⟩), kv] w (Done F w d mb (0, P.crash keep)) := by
  obtain ⟨l, hD, hL⟩ := h
  obtain ⟨room, fuse, down, L⟩ := P
  simp only at hD hL
  subst hL
  refine (crash_any hD hk hF hlt).mono ?_
  rintro e w1 ⟨rfl, hD1, ht⟩
  exact ⟨rfl, ⟨_, hD1.more (fun x hx => .inl hx), crash_pg _ _ _⟩, ht⟩
end Go.Proofs.Ytokmiphgalpahaa
namespace Go.Proofs.Ytokmiphgalpahaa
open Go.RowKit Go.Kt
set_option maxRecDepth 100000
variable {F : Nat → Prop} {w w' w0 W : World} {d mb : Nat} {room fuse : Int} {down : Bool} {l : List Sg}

/-- a disk all of whose blocks were made since w0 -/
def DS (w0 w : World) (d mb : Nat) (P : Pd) : Prop := DAt (fun x => w0.heap.size ≤ x ∧ x < w.heap.size) w d mb P ∧ Below w0.heap.size w0 w
theorem DS.next {P : Pd} (h : DS w0 w d mb P) (hb : Below w.heap.size w w') : DS w0 w' d mb P :=
  ⟨(h.1.next hb).more (fun x hx => ⟨hx.1, Nat.lt_of_lt_of_le hx.2 hb.size⟩), bel_trans h.2 hb⟩
theorem ds_done {P : Pd} {r : Int × Pd} (h : DS w0 w d mb P) (hb : Below w.heap.size w W) {e : Ending} (hd : Done (fun x => w0.heap.size ≤ x ∧ x < w.heap.size) W d mb r e w') : e = .returned (.int .i64 r.1) ∧ DS w0 w' d mb r.2 := by
  obtain ⟨h1, h2, h3⟩ := hd
  have hs1 := h.2.size
  have hs2 := hb.size
  have hs3 := h3.size
  refine ⟨h1, h2.more (fun x hx => ?_), (bel_trans h.2 hb).trans (h3.bel (Nat.le_trans hs1 hs2) (fun x hx => hx.1))⟩
  rcases hx with hx | hx
  · exact ⟨hx.1, by omega⟩
  · exact ⟨by omega, hx.2⟩
/-- a slice that none of the disk's blocks is of -/
def Aside {α : Type} (w0 w W : World) (v : Value) (pl : List α) : Prop := ∀ x, v.ownBlock = some x → pl ≠ [] → (x < w0.heap.size ∨ w.heap.size ≤ x) ∧ x < W.heap.size
theorem app_ds {P : Pd} (h : DS w0 w d mb P) (hb : Below w.heap.size w W) {n : Int} (hn : Rng n) {v : Value} {pl : List UInt8} (hv : Rd8 W v pl) (ha : Aside w0 w W v pl) :
    Calls Try.prog 26 #[.pointer (some ⟨d, 0, none⟩), .int .i64 n, v] W fun e w' => e = .returned (.int .i64 (P.app n pl).1) ∧ DS w0 w' d mb (P.app n pl).2 :=
  (app_any (h.1.next hb) hn hv (fun x hx hp hf => by have := (ha x hx hp).1; omega) (fun x hx hp => (ha x hx hp).2)).mono fun _ _ hd => ds_done h hb hd
theorem sync_ds {P : Pd} (h : DS w0 w d mb P) {n : Int} (hn : Rng n) :
    Calls Try.prog 28 #[.pointer (some ⟨d, 0, none⟩), .int .i64 n] w fun e w' => e = .returned (.int .i64 (P.sync n).1) ∧ DS w0 w' d mb (P.sync n).2 :=
  (sync_any h.1 hn).mono fun _ _ hd => ds_done h (bel_refl w) hd
theorem drop_ds {P : Pd} (h : DS w0 w d mb P) {n : Int} (hn : Rng n) :
    Calls Try.prog 29 #[.pointer (some ⟨d, 0, none⟩), .int .i64 n] w fun e w' => e = .returned (.int .i64 (P.drop n).1) ∧ DS w0 w' d mb (P.drop n).2 :=
  (drop_any h.1 hn).mono fun _ _ hd => ds_done h (bel_refl w) hd
theorem fuse_ds {P : Pd} (h : DS w0 w d mb P) {n : Int} (hn : Rng n) :
    Calls Try.prog 32 #[.pointer (some ⟨d, 0, none⟩), .int .i64 n] w fun e w' => e = .returned (.int .i64 (P.setFuse n).1) ∧ DS w0 w' d mb (P.setFuse n).2 :=
  (setFuse_any h.1 hn).mono fun _ _ hd => ds_done h (bel_refl w) hd
theorem crash_ds {P : Pd} (h : DS w0 w d mb P) (hb : Below w.heap.size w W) {v : Value} {keep : List Int} (hv : RdRow 1 W v keep.length (keep.map encZ)) (ha : Aside w0 w W v keep) :
    Calls Try.prog 25 #[.pointer (some ⟨d, 0, none⟩), v] W fun e w' => e = .returned (.int .i64 0) ∧ DS w0 w' d mb (P.crash keep) :=
  (crashD_any (h.1.next hb) hv (fun x hx hp hf => by have := (ha x hx hp).1; omega) (fun x hx hp => (ha x hx hp).2)).mono fun _ _ hd => ds_done h hb hd
theorem down_ds {P : Pd} (h : DS w0 w d mb P) : Calls Try.prog 37 #[.pointer (some ⟨d, 0, none⟩)] w fun e w' => e = .returned (.bool P.down) ∧ w = w' := by
  obtain ⟨⟨l, hD, _⟩, _⟩ := h
  exact down_any hD
theorem new_ds (room : Nat) (w : World) (h : room ≤ 67108864) : Calls Try.prog 7 #[.int .i64 room] w fun e w' => ∃ d mb, e = .returned (.tuple #[.pointer (some ⟨d, 0, none⟩), .int .i64 0]) ∧ DS w w' d mb ⟨room, -1, false, []⟩ := by
  refine (new_yes room w h).mono ?_
  rintro e w1 ⟨d, mb, rfl, hD, hb⟩
  exact ⟨d, mb, rfl, ⟨[], hD, rfl⟩, hb⟩
/-- what Read hands out -/
def readP (P : Pd) (n : Int) : Int × List UInt8 := if P.down = true then (5, []) else match P.L.find? (fun p => p.n == n) with
  | some p => (0, p.b)
  | none => (6, [])
theorem find_mid {n : Int} : ∀ {l : List Sg}, l.Pairwise (fun a b => a.n < b.n) → ∀ {s : Sg}, s ∈ l → (l.map Sg.pg).find? (fun p => p.n == s.n) = some s.pg
  | [], _, _, h => by cases h
  | t :: ks, hp, s, hs => by
    obtain ⟨h1, h2⟩ := List.pairwise_cons.1 hp
    rw [List.map_cons, List.find?_cons]
    rcases List.mem_cons.1 hs with rfl | hs
    · have : (s.pg.n == s.n) = true := by simp [Sg.pg]
      rw [this]
    · have hlt := h1 s hs
      have : (t.pg.n == s.n) = false := by
        have : t.n ≠ s.n := by omega
        simpa [Sg.pg] using this
      rw [this]
      exact find_mid (n := n) h2 hs
theorem read_ds {P : Pd} (h : DS w0 w d mb P) {n : Int} (hn : Rng n) : Calls Try.prog 21 #[.pointer (some ⟨d, 0, none⟩), .int .i64 n] w fun e w' => ∃ v, e = .returned (.tuple #[v, .int .i64 (readP P n).1]) ∧ Mine8 5 w w' v (readP P n).2 ∧ Below w.heap.size w w' := by
  obtain ⟨⟨l, hD, hL⟩, _⟩ := h
  obtain ⟨room, fuse, down, L⟩ := P
  simp only at hD hL
  subst hL
  unfold readP
  cases down with
  | true =>
    refine (read_down hD n).mono ?_
    rintro e w1 ⟨rfl, rfl⟩
    exact ⟨_, rfl, mine8_nil 5 w w, bel_refl w⟩
  | false =>
    rcases lacks_or l n with hlk | ⟨s, hs, rfl⟩
    · have : (l.map Sg.pg).find? (fun p => p.n == n) = none := by
        rw [List.find?_eq_none]
        intro p hp
        obtain ⟨s, hs, rfl⟩ := List.mem_map.1 hp
        have := hlk s hs
        simpa [Sg.pg] using this
      simp only [this]
      refine (read_no hD hn hlk).mono ?_
      rintro e w1 ⟨rfl, rfl⟩
      exact ⟨_, rfl, mine8_nil 5 w w, bel_refl w⟩
    · simp only [find_mid (n := s.n) hD.inc hs]
      exact read_yes hD hs
theorem aside_nil {α : Type} (w0 w W : World) (l : List α) : Aside w0 w W (.slice none 0 0) l := fun x hx => by cases hx
theorem rd_nil (w : World) : Rd8 w (.slice none 0 0) [] := (own_nil w 5 1).rd
theorem rng1 {n : Int} (h1 : -1000000 ≤ n) (h2 : n ≤ 1000000) : Rng n := ⟨by omega, by omega⟩
theorem aside_new {α : Type} (w0 w : World) (o : Obj) {n c : Nat} {l : List α} (h : w0.heap.size ≤ w.heap.size) : Aside w0 w (w.alloc o) (.slice (some ⟨w.heap.size, 0, none⟩) n c) l := fun x hx _ => by
  cases hx
  exact ⟨.inr (Nat.le_refl _), by simp⟩
end Go.Proofs.Ytokmiphgalpahaa
