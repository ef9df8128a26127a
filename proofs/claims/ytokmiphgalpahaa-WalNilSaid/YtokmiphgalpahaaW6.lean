/- The disk's Used (21). -/
import Derived.Test.YtokmiphgalpahaaW5
import Derived.Maps.RangeWalk
namespace Go.Proofs.Ytokmiphgalpahaa
open Go.RowKit Go.Kt
set_option maxRecDepth 100000
variable {F : Nat → Prop} {w w' : World} {d mb : Nat} {room fuse : Int} {down : Bool} {l : List Sg}
theorem same_key (t x : Int) : (Lit.int .i64 t).sameKey (.int .i64 x) = (t == x) := by
  by_cases h : t = x
  · subst h
    rw [WideAt.sameKey_self (show WideAt.IsKeyLit (.int .i64 t) from trivial)]
    simp
  · cases hh : (Lit.int .i64 t).sameKey (.int .i64 x)
    · simp [h]
    · have := WideAt.sameKey_eq hh
      injection this with _ this
      exact absurd this h
/-- the bytes of those segments that p picks -/
def total (p : Int → Bool) : List Sg → Nat
  | [] => 0
  | s :: t => (if p s.n then s.b.length else 0) + total p t
theorem total_congr (p q : Int → Bool) : ∀ l, (∀ s ∈ l, p s.n = q s.n) → total p l = total q l
  | [], _ => rfl
  | t :: ks, h => by
    unfold total
    rw [h t (by simp), total_congr p q ks (fun s hs => h s (by simp [hs]))]
theorem total_none (p : Int → Bool) : ∀ l, (∀ s ∈ l, p s.n = false) → total p l = 0
  | [], _ => rfl
  | t :: ks, h => by
    unfold total
    rw [h t (by simp), total_none p ks (fun s hs => h s (by simp [hs]))]
    simp
theorem total_all (p : Int → Bool) : ∀ l, (∀ s ∈ l, p s.n = true) → total p l = used l
  | [], _ => rfl
  | t :: ks, h => by
    unfold total
    rw [h t (by simp), total_all p ks (fun s hs => h s (by simp [hs]))]
    simp [used]
theorem total_drop (p : Int → Bool) (x : Sg) (hp : p x.n = true) : ∀ l : List Sg, l.Pairwise (fun a b => a.n < b.n) → x ∈ l → total p l = x.b.length + total (fun z => p z && !(z == x.n)) l
  | [], _, h => by cases h
  | t :: ks, hn, h => by
    obtain ⟨h1, h2⟩ := List.pairwise_cons.1 hn
    unfold total
    rcases List.mem_cons.1 h with rfl | h
    · rw [total_congr (fun z => p z && !(z == x.n)) p ks (fun s hs => by
        have := h1 s hs
        have hne : s.n ≠ x.n := by omega
        simp [hne])]
      simp [hp]
    · have hlt := h1 x h
      have hne : t.n ≠ x.n := by omega
      rw [total_drop p x hp ks h2 h]
      have e : (t.n == x.n) = false := by simpa using hne
      rw [e]
      simp
      omega
theorem total_le (p : Int → Bool) : ∀ l, total p l ≤ used l
  | [] => Nat.le_refl _
  | t :: ks => by
    have := total_le p ks
    have e : used (t :: ks) = t.b.length + used ks := by simp [used]
    unfold total
    split <;> omega
theorem entry_of {f : Lit → Option Value} {D : DataW Value} (hf : SegMap f l) (hcf : ∀ kl, (f kl = none → Maps.has D kl = false) ∧ ∀ v, f kl = some v → Maps.has D kl = true ∧ ∀ z, D.atKey kl z = .held v)
    {x : Int} {kl : Lit} {c0 : Value} {y : DataW Value × List MemPlace} (hk : keyOf Try.prog 3 (.int .i64 x) = some kl) (hd : Maps.has D kl = true) (hR : anyElem c0 = some y) (hat : ∀ zd, D.atKey kl zd = y.1) : ∃ s ∈ l, x = s.n ∧ kl = .int .i64 s.n ∧ c0 = s.ptr := by
  obtain ⟨x', e, rfl, _⟩ := Maps.keyOf_int_inv Try.underlying3 hk
  cases e
  cases he : f (.int .i64 x) with
  | none =>
    have h1 := (hcf (.int .i64 x)).1 he
    rw [h1] at hd
    cases hd
  | some v =>
    have h1 := ((hcf (.int .i64 x)).2 v he).2 (.held v)
    rw [hat] at h1
    unfold anyElem at hR
    injection hR with hR
    rw [← hR] at h1
    simp only at h1
    injection h1 with h1
    obtain ⟨s, hs, e1, e2⟩ := (hf _ _).1 he
    injection e1 with _ e1
    exact ⟨s, hs, e1, by rw [e1], by rw [h1, e2]⟩
theorem used_nil (w : World) : Calls Try.prog 38 #[.pointer none] w fun e w' => e = .returned (.int .i64 0) ∧ w = w' := by
  go_enter Try.func38, Try.ntmps38
  go_wp2_with fail
  go_ret
  exact ⟨rfl, rfl⟩
set_option maxHeartbeats 2000000 in
theorem used_any (h : DiskIs F w d mb room fuse down l) : Calls Try.prog 38 #[.pointer (some ⟨d, 0, none⟩)] w fun e w' => e = .returned (.int .i64 (used l)) ∧ Below w.heap.size w w' := by
  obtain ⟨c0, c1, c2, c3⟩ := h.cell
  obtain ⟨f, ⟨D, hD, hsz, hcf⟩, hf⟩ := h.map
  have hmb := hD.lt
  have hul : (used l : Int) ≤ 67108864 := by have := h.tot; have := h.room1; omega
  have Hall : Hid (total (fun t => Maps.has D (.int .i64 t)) l = used l) := Lib.hid (total_all _ l fun s hs => ((hcf _).2 _ ((hf _ _).2 ⟨s, hs, rfl, rfl⟩)).1)
  have HD := Lib.hid hD
  have Hcf := Lib.hid hcf
  have Hf := Lib.hid hf
  have H := Lib.hid h
  have hHas : Hid (∀ kl, Maps.has D kl = true → Maps.has D kl = true) := Lib.hid (fun _ h => h)
  generalize hn2 : l.length = n2 at *
  generalize hu : used l = u at *
  clear hD hsz hcf hf h hn2
  go_enter Try.func38, Try.ntmps38
  go_wp2_with (first
    | (at_range; refine wpList_range_own _ rfl _ 67 rfl 3 90 key3 Try.underlying67 _ mb n2 D rfl HD.out ?_; intro w0 hrg0 hg0 hs0)
    | fail)
  have HB0 : Hid (Below w.heap.size w w0) := Lib.hid ((Below.refl _ _).grown hg0 (Nat.le_refl _) (fun b e => by cases e))
  have hrgi := hrg0
  clear hg0 hs0 hrg0
  go_frame
  go_loopw [3, 5] (fun nv _ wr => ∃ (left : Lit → Bool) (c : Nat) (s : Nat), wr.ranges Try.prog 3 anyElem mb w.heap.size n2 D left c ∧ nv = .int .i64 s ∧ Hid (s + total (fun t => left (.int .i64 t)) l = u) ∧ Hid (∀ kl, left kl = true → Maps.has D kl = true) ∧ Hid (Below w.heap.size w wr)) (fun _ _ wr => wr.rangeLeft mb w.heap.size)
  case atStart => exact ⟨_, _, 0, hrgi, rfl, Lib.hid (by rw [Nat.zero_add]; exact Hall.out), hHas, HB0⟩
  case round =>
    clear hrgi HB0 hHas
    obtain ⟨left, c, s, hrg, rfl, Hsum, Hhas, HB⟩ := hrel
    obtain ⟨wt, rfl⟩ : ∃ wt, wt = wr := ⟨_, rfl⟩
    go_wp2_with (first
      | (at_next; refine wpList_next_ranges _ rfl _ rfl 3 key3 anyElem (Value.int .i64) id (fun key kl h => by obtain ⟨x, e, _⟩ := Maps.keyOf_int_inv Try.underlying3 h; exact ⟨x, e⟩) (fun v y h => ⟨v, rfl⟩) mb w.heap.size n2 D left c rfl hrg ?_ ?_)
      | fail)
    · intro hc0 hl0
      have hs0 : s = u := by
        have := Hsum.out
        rw [total_none _ l (fun t _ => hl0 _)] at this
        omega
      subst hs0
      clear hl0 hrg
      go_wp2_with fail
      go_ret
      exact ⟨rfl, HB.out⟩
    · intro x p0 kl ya yb w1' cnt1 hkey hlx hR hat hrg1 hlt1 hg1 hs1 hen
      obtain ⟨sg, hsg, rfl, rfl, hp0⟩ := entry_of Hf.out Hcf.out hkey (Hhas.out kl hlx) hR hat
      have hp0' : p0 = .pointer (some ⟨sg.g, 0, none⟩) := hp0
      clear hp0
      subst hp0'
      have hB1 : Below w.heap.size w w1' := HB.out.grown hg1 HB.out.size (fun b e => by injection e with e; omega)
      have HB1 := Lib.hid hB1
      have hb1 := (H.out.next hB1).seg sg hsg
      have k0 : w1'.cell? ⟨sg.g, 0, none⟩ = some sg.v := hb1.1.cell 0
      obtain ⟨_, va, vcap, hv, _⟩ := hb1.2.1.rd
      rw [hv] at k0
      have hdr := total_drop (fun t => left (.int .i64 t)) sg hlx l H.out.inc hsg
      have HS1 : Hid ((s + sg.b.length) + total (fun t => left (.int .i64 t) && !(Lit.int .i64 t).sameKey (.int .i64 sg.n)) l = u) := Lib.hid (by
        have e : (fun t => left (.int .i64 t) && !(Lit.int .i64 t).sameKey (.int .i64 sg.n)) = fun z => left (.int .i64 z) && !(z == sg.n) := by
          funext t
          rw [same_key]
        rw [e]
        have := Hsum.out
        omega)
      have hsum2 : ((s + sg.b.length : Nat) : Int) ≤ 67108864 := by have := HS1.out; omega
      have HH1 : Hid (∀ kl, (left kl && !kl.sameKey (.int .i64 sg.n)) = true → Maps.has D kl = true) := Lib.hid (fun kl h => Hhas.out kl (by simp at h; exact h.1))
      have Hmeas : Hid (w1'.rangeLeft mb w.heap.size < wt.rangeLeft mb w.heap.size) := Lib.hid (by rw [hrg1.left_eq, hrg.left_eq]; exact hlt1)
      have Hrg1 := Lib.hid hrg1
      try simp only [id] at hen
      clear hR hat hkey hlx hrg hrg1 hg1 hs1 hB1 hdr hlt1 hb1 hv
      try simp only [id]
      generalize hbl : sg.b.length = bl at *
      go_wp2_with fail
      go_roundw
      case rel => exact ⟨_, cnt1, s + bl, Hrg1.out, by go_num, HS1, HH1, HB1⟩
      case measure => exact Hmeas.out
end Go.Proofs.Ytokmiphgalpahaa
