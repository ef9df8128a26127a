/- Values (30), the document's (31). -/
import Derived.Test.YtmmilgcbjpbelaaWU
import Derived.Test.YtmmilgcbjpbelaaKtT
namespace Go.Proofs.Ytmmilgcbjpbelaa
open Go.RowKit Go.Kt Go.Ix

def strs (L : List ByteArray) : List Value := L.map Value.string
theorem strs_len (L : List ByteArray) : (strs L).length = L.length := by simp [strs]
theorem strs_snoc (L : List ByteArray) (s : ByteArray) : strs (L ++ [s]) = strs L ++ [.string s] := by simp [strs]
theorem enc_mk (l : List UInt8) : Go.Proofs.encStr l = .string (mkS l) := rfl
theorem mergeSort_sorted (ss : List (List UInt8)) : (ss.mergeSort fun x y => decide (x ≤ y)).Pairwise (fun a b => ¬ b < a) := by
  have h := List.pairwise_mergeSort (le := fun x y : List UInt8 => decide (x ≤ y)) (fun a b c h1 h2 => by
    simp only [decide_eq_true_eq] at *
    exact List.le_trans h1 h2) (fun a b => by
    simp only [Bool.or_eq_true, decide_eq_true_eq]
    exact List.le_total a b) ss
  exact List.Pairwise.imp (fun {a b} h => by simpa using h) h
set_option maxHeartbeats 1000000 in
theorem sort_any (v : Value) (L : List ByteArray) (w : World) (h : Own 9 1 w v L.length (strs L)) (hl : L.length ≤ 1000000) :
    Calls Try.prog 47 #[v] w fun e w' => e = .returned (.tuple #[]) ∧ ∃ M : List ByteArray, Own 9 1 w' v L.length (strs M) ∧ M.Perm L ∧ M.Pairwise (fun a b => ¬ Less b a) ∧ Turn (fun x => v.ownBlock = some x) w w' := by
  obtain ⟨_, ⟨rfl, h0⟩ | ⟨g, cap, cur, rfl, hb, hg, hn, hm, hcs, ht⟩⟩ := h
  · have : L = [] := by
      exact List.eq_nil_of_length_eq_zero h0
    subst this
    refine (Try.slices_Sort_string_none none 0 w).mono ?_
    rintro e w' ⟨rfl, rfl⟩
    exact ⟨rfl, [], own_nil _ 9 1, List.Perm.refl _, List.Pairwise.nil, Turn.refl _ _⟩
  · have hlen : (L.map bl).length = L.length := by simp
    have hgs : g < w.heap.size := (Array.getElem?_eq_some_iff.1 hg).1
    have hcur : ∀ (j : Nat) (s : ByteArray), L[j]? = some s → cur[j]? = some (Value.string s) := by
      intro j s hj
      have hjl := (List.getElem?_eq_some_iff.1 hj).1
      have h2 := congrArg (fun z => z[j]?) ht
      simp only [List.getElem?_take, strs, List.getElem?_map, hj, Option.map_some] at h2
      rw [if_pos (by omega)] at h2
      simpa using h2
    have hH : Go.Sort.Holds Go.Proofs.encStr w g 0 (L.map bl).toArray := by
      intro j hj
      simp only [List.size_toArray, List.length_map] at hj
      have hx : L[j]? = some L[j] := List.getElem?_eq_getElem hj
      have e : (L.map bl).toArray[j]! = bl L[j] := by
        rw [getElem!_pos _ j (by simpa using hj)]
        simp
      rw [e, enc_mk, mkS_bl, Nat.zero_add]
      exact ⟨(cell_of_row w g j cur 9 (0, 0) hg).trans (hcur j _ hx), frozen_of_row w g j cur 9 hg⟩
    have hc := Try.slices_Sort_string g 0 cap (L.map bl) w hH hgs (by rw [hlen]; omega)
    rw [hlen] at hc
    refine hc.mono ?_
    rintro e w' ⟨rfl, n, os, rfl⟩
    refine ⟨rfl, ((L.map bl).mergeSort fun x y => decide (x ≤ y)).map mkS, ?_, ?_, ?_, ?_⟩
    · have hsl : ((L.map bl).mergeSort fun x y => decide (x ≤ y)).length = L.length := by rw [List.length_mergeSort, hlen]
      generalize ((L.map bl).mergeSort fun x y => decide (x ≤ y)) = S at hsl ⊢
      have hh : (Go.Sort.grow (Go.Sort.putRow Go.Proofs.encStr (Go.Sort.ahead w n) g 0 S.toArray) os).heap[g]? = some (.cells (Go.Sort.putCells Go.Proofs.encStr 0 S.toArray cur) 9 (0, 0)) := by
        rw [Go.Sort.heap_grow_old _ _ (by simpa using hgs)]
        show (w.heap.modify g (Go.Sort.onCells (Go.Sort.putCells Go.Proofs.encStr 0 S.toArray)))[g]? = _
        rw [Array.getElem?_modify, if_pos rfl, hg]
        rfl
      refine ⟨by rw [strs_len, List.length_map, hsl, Nat.mul_one], .inr ⟨g, cap, Go.Sort.putCells Go.Proofs.encStr 0 S.toArray cur, rfl, hb, hh, hn, hm, ?_, ?_⟩⟩
      · rw [← hcs]; simp [Go.Sort.putCells]
      · apply List.ext_getElem?
        intro j
        rw [List.getElem?_take]
        by_cases hj : j < L.length
        · rw [if_pos (by omega)]
          have hjc : j < cur.size := by rw [hcs]; omega
          simp only [Go.Sort.putCells, strs, List.map_map, List.getElem?_map, Array.getElem?_toList, Array.getElem?_mapIdx]
          rw [Array.getElem?_eq_getElem hjc]
          have hjs : j < S.length := by omega
          rw [List.getElem?_eq_getElem hjs]
          simp only [Option.map_some, Nat.zero_le, Nat.zero_add, true_and, List.size_toArray, hjs, if_true, Nat.sub_zero]
          rw [getElem!_pos _ j (by simpa using hjs)]
          simp [mkS]
        · rw [if_neg (by omega)]
          symm
          apply List.getElem?_eq_none
          rw [strs_len, List.length_map, hsl]
          omega
    · have hp := List.mergeSort_perm (L.map bl) fun x y => decide (x ≤ y)
      have := hp.map mkS
      rw [List.map_map] at this
      have e : (mkS ∘ bl) = id := funext fun s => mkS_bl s
      rw [e, List.map_id] at this
      exact this
    · rw [List.pairwise_map]
      refine List.Pairwise.imp (fun {a b} h => ?_) (mergeSort_sorted (L.map bl))
      rw [less_iff]
      exact h
    · refine ⟨rfl, rfl, rfl, by simp, fun k hk hne => ?_⟩
      rw [Go.Sort.heap_grow_old _ _ (by simpa using hk)]
      show (w.heap.modify g (Go.Sort.onCells (Go.Sort.putCells Go.Proofs.encStr 0 _)))[k]? = _
      rw [Array.getElem?_modify, if_neg]
      intro e
      exact hne (by rw [← e]; rfl)

variable {F : Nat → Prop} {g bm pm : Nat} {sv : Value} {us : List Value} {bf : Lit → Option Value} {Q : Post} {D : List (List Pr)}
/-- the keys of a name's map are its values -/
theorem keys_iff {w : World} (h : PostsAt F w pm Q (entD D)) (hok : ∀ d ∈ D, RightP d) (nm s : ByteArray) : (∃ r, Q.g (kl nm) (kl s) = some r) ↔ 0 < s.size ∧ ∃ d ∈ D, getL d nm = s := by
  constructor
  · rintro ⟨r, hr⟩
    obtain ⟨_, _, hne⟩ := h.row _ _ _ hr
    obtain ⟨h0, _, _⟩ := row_pos hok nm s hne
    obtain ⟨n, hn⟩ := List.exists_mem_of_ne_nil _ hne
    rw [yOf_mem, ent_iff hok] at hn
    obtain ⟨d, hd, e, _⟩ := hn
    exact ⟨h0, d, List.mem_of_getElem? hd, e⟩
  · rintro ⟨h0, d, hd, e⟩
    cases hq : Q.g (kl nm) (kl s) with
    | some r => exact ⟨r, rfl⟩
    | none => exact absurd e (posts_no h hok hq d hd h0)
set_option maxHeartbeats 2000000 in
theorem values_none (nm : ByteArray) (w : World) (h : IdxAt F w g sv us bm pm bf Q D (entD D)) (hn : nm.size ≤ maxLen) (hf : Q.f (kl nm) = none) :
    Calls Try.prog 30 #[.pointer (some ⟨g, 0, none⟩), .string nm] w fun e w' => e = .returned (.tuple #[.slice none 0 0, .slice none 0 0]) ∧ Below w.heap.size w w' := by
  have c0 : w.cell? ⟨g, 2, none⟩ = some (.map (some pm)) := h.blk.cell 2
  have hlook := h.posts.outer.look1 key9 Try.underlying101 (zero111 w) (keyOf9 nm hn)
  rw [hf] at hlook
  simp only [Option.getD] at hlook
  have hrg := run_range_nilMap (P := Try.prog) w 111 9 52 Try.underlying111
  have hnx : ∀ ty, (Instr.next (.pointer (some ⟨w.heap.size, 0, none⟩)) false ty).run Try.prog (w.alloc (.mapIter none 0 #[] 0)) = _ := fun ty => run_next_nilMap w ty 0 0 #[]
  clear h hf
  go_enter Try.func30, Try.ntmps30
  go_wp2_with fail
  refine wp_loop_rounds 1 ?_
  rw [rounds_succ]
  go_wp2_with (first | (go_at_call 47; refine (Try.slices_Sort_string_none none 0 _).mono ?_; rintro e w2 ⟨rfl, rfl⟩) | fail)
  refine wp_loop_rounds 1 ?_
  rw [rounds_succ]
  go_wp2_with fail
  refine bodyPost_ret (v := .tuple #[.slice none 0 0, .slice none 0 0]) (by simp [results, Try.results30, go_sem, *]) rfl ?_
  exact ⟨rfl, below_alloc _ _⟩

theorem own_no_iter {w : World} {R : Value → Option (DataW Value × List MemPlace)} {b r m cnt : Nat} {Dm : DataW Value} {left : Lit → Bool} (hr : w.ranges Try.prog 9 R b r m Dm left cnt) {e : TypeId} {size n : Nat} {v : Value} {xs : List Value} (h : Own e size w v n xs) : v.ownBlock ≠ some r ∧ v.ownBlock ≠ some b := by
  obtain ⟨es, clock, since, seen, c0, h1, _, _, _, h5, _⟩ := hr
  rcases h.2 with ⟨rfl, _⟩ | ⟨g, cap, cur, rfl, _, hg, _⟩
  · exact ⟨fun h => (by cases h), fun h => (by cases h)⟩
  · refine ⟨fun h => ?_, fun h => ?_⟩
    · injection h with h
      simp only at h
      rw [h, h5] at hg
      cases hg
    · injection h with h
      simp only at h
      rw [h, h1] at hg
      cases hg
theorem entD_len {D : List (List Pr)} (hok : ∀ d ∈ D, RightP d) : (entD D).length ≤ 16 * D.length := by
  have key : ∀ n, n ≤ D.length → (entD (D.take n)).length ≤ 16 * n := by
    intro n
    induction n with
    | zero => intro _; simp [entD_nil]
    | succ n ih =>
      intro hn
      have h1 := ih (by omega)
      have h2 := (hok _ (List.getElem_mem (show n < D.length by omega))).1
      rw [List.take_succ_eq_append_getElem (by omega), entD_snoc, List.length_append]
      simp only [entP, List.length_map]
      omega
  have := key D.length (Nat.le_refl _)
  rwa [List.take_length] at this
set_option maxRecDepth 8000 in
set_option maxHeartbeats 4000000 in
theorem values_some (nm : ByteArray) (w : World) (h : IdxAt F w g sv us bm pm bf Q D (entD D)) (hn : nm.size ≤ maxLen) {u : Value} (hf : Q.f (kl nm) = some u) :
    Calls Try.prog 30 #[.pointer (some ⟨g, 0, none⟩), .string nm] w fun e w' => ∃ v1 v2 L, e = .returned (.tuple #[v1, v2]) ∧ ValsOK nm D L ∧ Own 9 1 w' v1 L.length (strs L) ∧ Own 3 1 w' v2 L.length (ints (cnts nm D L)) ∧ Below w.heap.size w w' := by
  have c0 : w.cell? ⟨g, 2, none⟩ = some (.map (some pm)) := h.blk.cell 2
  have hlook := h.posts.outer.look1 key9 Try.underlying101 (zero111 w) (keyOf9 nm hn)
  rw [hf] at hlook
  simp only [Option.getD] at hlook
  obtain ⟨rfl, hFb, hpm, hmap, hcn⟩ := h.posts.ptr _ _ hf
  obtain ⟨Dm, hown, hsz, hcf⟩ := hmap
  have HI := Lib.hid h
  have HO := Lib.hid hown
  have Hcf := Lib.hid hcf
  have HN := Lib.hid hn
  have Hf := Lib.hid hf
  have Hcn := Lib.hid hcn
  have Hsz := Lib.hid hsz
  have hD61 := h.len
  have HOK := Lib.hid h.ok
  have Hbd : Hid (Maps.size Dm ≤ 976) := Lib.hid (by have := entD_len h.ok; have := h.len; omega)
  clear h hown hcf hn hf hcn hsz hFb hpm
  go_enter Try.func30, Try.ntmps30
  go_wp2_with (first
    | (at_range; refine wpList_range_own _ rfl _ 111 rfl 9 52 key9 Try.underlying111 _ _ _ Dm rfl HO.out ?_; intro w3 hrg3 hg3 hs3)
    | fail)
  have HB3 : Hid (Below w.heap.size w w3) := Lib.hid ((Below.refl _ _).grown hg3 (Nat.le_refl _) (fun b e => by cases e))
  have HM3 : Hid (Mine 9 1 w w3 (.slice none 0 0) ([] : List ByteArray).length (strs [])) := Lib.hid ((mine_nil 9 1 w).below HB3.out)
  have HK3 : Hid (([] : List ByteArray).Nodup ∧ ∀ s, s ∈ ([] : List ByteArray) ↔ Maps.has Dm (kl s) = true ∧ Maps.has Dm (kl s) = false) := Lib.hid ⟨List.nodup_nil, fun s => by simp⟩
  have hrg3' := hrg3
  clear hg3 hs3 hrg3 c0 hlook
  go_frame
  go_loopw [6, 7] (fun v _ wr => ∃ (left : Lit → Bool) (c : Nat) (K : List ByteArray), wr.ranges Try.prog 9 anyElem (Q.b (kl nm)) w.heap.size (Q.c (kl nm)) Dm left c ∧ Hid (Mine 9 1 w wr v K.length (strs K)) ∧ Hid (K.Nodup ∧ ∀ s, s ∈ K ↔ Maps.has Dm (kl s) = true ∧ left (kl s) = false) ∧ Hid (∀ kl, left kl = true → Maps.has Dm kl = true) ∧ Hid (K.length + c ≤ Maps.size Dm)) (fun _ _ wr => wr.rangeLeft (Q.b (kl nm)) w.heap.size)
  case atStart => exact ⟨_, _, [], hrg3', HM3, HK3, Lib.hid (fun _ h => h), Lib.hid (by simp)⟩
  case round =>
    clear hrg3' HM3 HK3 HB3
    obtain ⟨left, c, K, hrg, HM, HK, Hhas, HKl⟩ := hrel
    obtain ⟨wt, rfl⟩ : ∃ wt, wt = wr := ⟨_, rfl⟩
    go_wp2_with (first
      | (at_next; refine wpList_next_ranges _ rfl _ rfl 9 key9 anyElem Value.string (fun v : Value => v) (fun key kl h => by obtain ⟨x, e, _⟩ := key_str h; exact ⟨x, e⟩) (fun v y h => ⟨v, rfl⟩) (Q.b (kl nm)) w.heap.size (Q.c (kl nm)) Dm left c rfl hrg ?_ ?_)
      | fail)
    · intro hc0 hl0
      have HKe : Hid (∀ s, s ∈ K ↔ 0 < s.size ∧ ∃ d ∈ D, getL d nm = s) := Lib.hid (fun s => by
        rw [HK.out.2 s, ← keys_iff HI.out.posts HOK.out nm s]
        constructor
        · rintro ⟨h1, _⟩
          cases hq : Q.g (kl nm) (kl s) with
          | some r => exact ⟨r, rfl⟩
          | none => rw [(Hcf.out _).1 hq] at h1; cases h1
        · rintro ⟨r, hr⟩
          exact ⟨((Hcf.out _).2 r hr).1, hl0 _⟩)
      have HKn := Lib.hid HK.out.1
      have HKb : Hid (K.length ≤ 976) := Lib.hid (by have := HKl.out; have := Hbd.out; omega)
      obtain ⟨hcl1, ka, kc, rfl, hcl2⟩ := HM.out.rd
      clear hcl1 hcl2 hl0 hrg HK Hhas HKl
      go_wp2_with fail
      refine (sort_any (.slice ka K.length kc) K _ HM.out.1 (by have := HKb.out; omega)).mono ?_
      rintro e ws ⟨rfl, M, hos, hpm, hsrt, hts⟩
      have HL : Hid (ValsOK nm D M) := Lib.hid ⟨asc_of hsrt (hpm.nodup_iff.2 HKn.out), fun s => by rw [hpm.mem_iff]; exact HKe.out s⟩
      have hml : M.length = K.length := hpm.length_eq
      have HBs : Hid (Below w.heap.size w ws) := Lib.hid (((Turn.of (F := fun x => (Value.slice ka K.length kc).ownBlock = some x) HM.out.2.2).trans hts (fun x hx => .inl hx)).bel (Nat.le_refl _) (fun x hx => HM.out.2.1 x hx))
      rw [← hml] at hos ⊢
      have HOs := Lib.hid hos
      have HMb : Hid (M.length ≤ 976) := Lib.hid (by rw [hml]; exact HKb.out)
      clear hos hpm hsrt hts hml HM HKb HKe HKn
      go_wp2_with fail
      have HO0 : Hid (Mine 3 1 w ws (.slice none 0 0) 0 (ints (cnts nm D (M.take 0)))) := Lib.hid ((mine_nil 3 1 w).below HBs.out)
      have hM63 : M.length ≤ 1000000 := by have := HMb.out; omega
      obtain ⟨wsx, rfl⟩ : ∃ x, x = ws := ⟨_, rfl⟩
      go_loopw [8, 10, 32] (fun v _ i wr => ∃ k : Nat, k ≤ M.length ∧ i = .int .i64 k ∧ Hid (Mine 3 1 w wr v k (ints (cnts nm D (M.take k)))) ∧ Hid (Own 9 1 wr (.slice ka M.length kc) M.length (strs M))) (fun _ _ i _ => M.length - (intOf i).toNat)
      case atStart => exact ⟨0, by omega, rfl, HO0, HOs⟩
      case round =>
        clear HO0
        obtain ⟨k, hk, rfl, HC, HS⟩ := hrel
        by_cases hlt : k < M.length
        · obtain ⟨s, hs⟩ : ∃ x, M[k]? = some x := ⟨M[k], List.getElem?_eq_getElem hlt⟩
          obtain ⟨_, a', c', e, _, _, _, hcell⟩ := HS.out.rd
          cases e
          obtain ⟨b, o, rfl, hc⟩ := hcell k (.string s) (by simp [strs, hs])
          have HIr := Lib.hid (HI.out.next HC.out.2.2)
          have g2 : wr.cell? ⟨g, 2, none⟩ = some (.map (some pm)) := HIr.out.blk.cell 2
          have hlook := HIr.out.posts.outer.look1 key9 Try.underlying101 (zero111 wr) (keyOf9 nm HN.out)
          rw [Hf.out] at hlook
          simp only [Option.getD] at hlook
          have hsv := (HL.out.2 s).1 (List.mem_of_getElem? hs)
          obtain ⟨r, hr⟩ := (keys_iff HIr.out.posts HOK.out nm s).2 hsv
          obtain ⟨d, hd, hde⟩ := hsv.2
          have hs64 : s.size ≤ 64 := by rw [← hde]; exact getL_size (HOK.out d hd) nm
          have hlook2 := (HIr.out.posts.ptr _ _ Hf.out).2.2.2.1.look1 key9 Try.underlying111 (zero52 wr) (keyOf9 s (by simp only [maxLen]; omega))
          rw [hr] at hlook2
          simp only [Option.getD] at hlook2
          obtain ⟨hrow, _, _⟩ := HIr.out.posts.row _ _ _ hr
          rw [yOf_count HOK.out nm s hsv.1] at hrow
          obtain ⟨_, ra, rc, rfl, _⟩ := hrow.rd
          have HT : Hid (cnts nm D (M.take (k + 1)) = cnts nm D (M.take k) ++ [cntV nm D s]) := Lib.hid (by
            obtain ⟨hk', e⟩ := List.getElem?_eq_some_iff.1 hs
            unfold cnts
            rw [List.take_succ_eq_append_getElem hk', e, List.map_append]
            rfl)
          have hk1 : (0 : Int) ≤ (k : Int) := by omega
          have hk2 : (k : Int) < (M.length : Int) := by omega
          clear hcell hs hsv hr hd hde hrow
          go_wp2_with (at_builtin; apply Hold.mk)
          unfold Hold
          refine mine_app rfl _ _ 52 rfl ok52 (by rfl) (by rfl) HC.out (by repeat (first | exact bel_refl _ | apply bel_alloc | apply bel_drew)) (by exact rd_lit 1 #[.int .i64 (cntV nm D s : Int)] 1 (by simp) one_le rfl) (one_int (cntV nm D s : Int)) (by simp only [maxLen]; omega) (by omega) ?_
          intro v7 w7 hm7 hg7
          have HC7 : Hid (Mine 3 1 w w7 v7 (k + 1) (ints (cnts nm D (M.take (k + 1))))) := Lib.hid (by rw [HT.out, ints_snoc]; exact hm7)
          have HS7 : Hid (Own 9 1 w7 (.slice (some ⟨b, o, none⟩) M.length kc) M.length (strs M)) := Lib.hid (Own.grown (HS.out.below' (below_alloc wr (.cells #[.int .i64 (cntV nm D s : Int)] 3))) hg7 (fun b' hb' e => own_apart (HC.out.below (below_alloc wr (.cells #[.int .i64 (cntV nm D s : Int)] 3))).1 (HS.out.below' (below_alloc wr (.cells #[.int .i64 (cntV nm D s : Int)] 3))) (by decide) b' e hb'))
          clear hm7 hg7
          go_wp2_with fail
          go_roundw
          case rel => exact ⟨k + 1, by omega, by go_num, HC7, HS7⟩
          case measure => simp [intOf]; omega
        · obtain rfl : M.length = k := by omega
          obtain ⟨_, ca, cc, rfl, _⟩ := HC.out.rd
          rw [List.take_length] at HC
          go_wp2_with fail
          refine bodyPost_ret (v := .tuple #[.slice ka M.length kc, .slice ca M.length cc]) (by simp [results, Try.results30, go_sem, *]) rfl ?_
          exact ⟨_, _, M, rfl, HL.out, HS.out, HC.out.1, HC.out.2.2⟩
    · intro x c0 kl' ya yb w1' cnt1 hkey hlx hR hat hrg1 hlt1 hg1 hs1 hen
      obtain ⟨x', ex, rfl⟩ := key_str hkey
      cases ex
      have Hhx := Lib.hid (Hhas.out _ hlx)
      have Hleft : Hid (wt.rangeLeft (Q.b (kl nm)) w.heap.size = c) := Lib.hid hrg.left_eq
      have Hlt1 : Hid (cnt1 < c) := Lib.hid hlt1
      have Hrg1 := Lib.hid hrg1
      have HKl1 : Hid (K.length + 1 + cnt1 ≤ Maps.size Dm) := Lib.hid (by have := HKl.out; omega)
      have HKlen : Hid (K.length ≤ 976) := Lib.hid (by have := HKl.out; have := Hbd.out; omega)
      have HB1 : Hid (Below w.heap.size w w1') := Lib.hid (HM.out.2.2.grown hg1 HM.out.2.2.size (fun b e => by injection e with e; omega))
      have HM1 : Hid (Mine 9 1 w w1' u6 K.length (strs K)) := Lib.hid ⟨HM.out.1.grown hg1 (fun b hb e => by
        injection e with e
        exact (own_no_iter hrg HM.out.1).1 (by rw [hb, e])), HM.out.2.1, HB1.out⟩
      have HKx : Hid ((K ++ [x]).Nodup ∧ ∀ s, s ∈ K ++ [x] ↔ Maps.has Dm (kl s) = true ∧ (left (kl s) && !(kl s).sameKey (kl x)) = false) := Lib.hid ⟨List.nodup_append.2 ⟨HK.out.1, by simp, fun a ha b hb e => by
          rw [List.mem_singleton.1 hb] at e
          subst e
          have := ((HK.out.2 _).1 ha).2
          rw [hlx] at this
          cases this⟩, fun s => by
        rw [List.mem_append, List.mem_singleton, HK.out.2 s]
        cases hs : (kl s).sameKey (kl x) with
        | true =>
          have e := kl_inj ((same_kl (kl s) x).1 hs)
          subst e
          simp [Hhx.out]
        | false =>
          have : ¬ s = x := fun e => by subst e; rw [(same_kl (kl s) s).2 rfl] at hs; cases hs
          simp [this]⟩
      have HH1 : Hid (∀ kl', (left kl' && !kl'.sameKey (kl x)) = true → Maps.has Dm kl' = true) := Lib.hid (fun k hk => Hhas.out k (by simp at hk; exact hk.1))
      clear hkey hlx hR hat hrg hrg1 hlt1 hg1 hs1 HM HK HKl
      go_wp2_with (at_builtin; apply Hold.mk)
      unfold Hold
      refine mine_app rfl _ _ 77 rfl ok77 (by rfl) (by rfl) HM1.out (by repeat (first | exact bel_refl _ | apply bel_alloc | apply bel_drew)) (by exact rd_lit 1 #[.string x] 1 (by simp) one_le rfl) (one_str x) (by have := HKlen.out; simp only [maxLen]; omega) (by have := HKlen.out; omega) ?_
      intro v7 w7 hm7 hg7
      have HM7 : Hid (Mine 9 1 w w7 v7 (K ++ [x]).length (strs (K ++ [x]))) := Lib.hid (by rw [strs_snoc, List.length_append]; exact hm7)
      have HRg7 : Hid (w7.ranges Try.prog 9 anyElem (Q.b (kl nm)) w.heap.size (Q.c (kl nm)) Dm (fun z => left z && !z.sameKey (kl x)) cnt1) := Lib.hid
        (ranges_turn (ranges_turn (G := fun _ => False) Hrg1.out (Turn.of (below_alloc w1' (.cells #[.string x] 9))) id id) (Turn.grown (F := fun y => u6.ownBlock = some y) hg7 (fun b hb => hb)) (own_no_iter Hrg1.out HM1.out.1).2 (own_no_iter Hrg1.out HM1.out.1).1)
      clear hm7 hg7
      go_wp2_with fail
      go_roundw
      case rel => exact ⟨_, cnt1, K ++ [x], HRg7.out, HM7, HKx, HH1, Lib.hid (by rw [List.length_append]; exact HKl1.out)⟩
      case measure =>
        rw [HRg7.out.left_eq, Hleft.out]
        exact Hlt1.out
end Go.Proofs.Ytmmilgcbjpbelaa
