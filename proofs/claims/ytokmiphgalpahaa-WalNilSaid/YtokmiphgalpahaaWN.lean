/- A disk that a call has made; awake (9). -/
import Derived.Test.YtokmiphgalpahaaWM
import Derived.Lib.SlBytesConst
namespace Go.Proofs.Ytokmiphgalpahaa
open Go.RowKit Go.Kt
set_option maxRecDepth 100000
variable {F : Nat → Prop} {w w' w0 W : World} {d mb : Nat} {room fuse : Int} {down : Bool} {l : List Sg}

/-- a disk all of whose blocks were made since w0 -/
def DS (w0 w : World) (d mb : Nat) (P : Pd) : Prop := DAt (fun x => w0.heap.size ≤ x ∧ x < w.heap.size) w d mb P ∧ Below w0.heap.size w0 w
theorem DS.next {P : Pd} (h : DS w0 w d mb P) (hb : Below w.heap.size w w') : DS w0 w' d mb P :=
  ⟨(h.1.next hb).more (fun x hx => ⟨hx.1, Nat.lt_of_lt_of_le hx.2 hb.size⟩), bel_trans h.2 hb⟩
theorem ds_done {P : Pd} {r : Int × Pd} (h : DS w0 w d mb P) (hb : Below w.heap.size w W) {e : Ending} (hd : Done (fun x => w0.heap.size ≤ x ∧ x < w.heap.size) W d mb r e w') : e = .returned (.int .i64 r.1) ∧ DS w0 w' d mb r.2 := by
  obtain ⟨h1, h2, h3⟩ := hd
  have hs1 := h.2.size
  have hs2 := hb.size
  have hs3 := h3.size
  refine ⟨h1, h2.more (fun x hx => ?_), (bel_trans h.2 hb).trans (h3.bel (Nat.le_trans hs1 hs2) (fun x hx => hx.1))⟩
  rcases hx with hx | hx
  · exact ⟨hx.1, by omega⟩
  · exact ⟨by omega, hx.2⟩
/-- a slice that none of the disk's blocks is of -/
def Aside {α : Type} (w0 w W : World) (v : Value) (pl : List α) : Prop := ∀ x, v.ownBlock = some x → pl ≠ [] → (x < w0.heap.size ∨ w.heap.size ≤ x) ∧ x < W.heap.size
theorem app_ds {P : Pd} (h : DS w0 w d mb P) (hb : Below w.heap.size w W) {n : Int} (hn : Rng n) {v : Value} {pl : List UInt8} (hv : Rd8 W v pl) (ha : Aside w0 w W v pl) :
    Calls Try.prog 26 #[.pointer (some ⟨d, 0, none⟩), .int .i64 n, v] W fun e w' => e = .returned (.int .i64 (P.app n pl).1) ∧ DS w0 w' d mb (P.app n pl).2 :=
  (app_any (h.1.next hb) hn hv (fun x hx hp hf => by have := (ha x hx hp).1; omega) (fun x hx hp => (ha x hx hp).2)).mono fun _ _ hd => ds_done h hb hd
theorem sync_ds {P : Pd} (h : DS w0 w d mb P) {n : Int} (hn : Rng n) :
    Calls Try.prog 28 #[.pointer (some ⟨d, 0, none⟩), .int .i64 n] w fun e w' => e = .returned (.int .i64 (P.sync n).1) ∧ DS w0 w' d mb (P.sync n).2 :=
  (sync_any h.1 hn).mono fun _ _ hd => ds_done h (bel_refl w) hd
theorem drop_ds {P : Pd} (h : DS w0 w d mb P) {n : Int} (hn : Rng n) :
    Calls Try.prog 29 #[.pointer (some ⟨d, 0, none⟩), .int .i64 n] w fun e w' => e = .returned (.int .i64 (P.drop n).1) ∧ DS w0 w' d mb (P.drop n).2 :=
  (drop_any h.1 hn).mono fun _ _ hd => ds_done h (bel_refl w) hd
theorem fuse_ds {P : Pd} (h : DS w0 w d mb P) {n : Int} (hn : Rng n) :
    Calls Try.prog 32 #[.pointer (some ⟨d, 0, none⟩), .int .i64 n] w fun e w' => e = .returned (.int .i64 (P.setFuse n).1) ∧ DS w0 w' d mb (P.setFuse n).2 :=
  (setFuse_any h.1 hn).mono fun _ _ hd => ds_done h (bel_refl w) hd
theorem crash_ds {P : Pd} (h : DS w0 w d mb P) (hb : Below w.heap.size w W) {v : Value} {keep : List Int} (hv : RdRow 1 W v keep.length (keep.map encZ)) (ha : Aside w0 w W v keep) :
    Calls Try.prog 25 #[.pointer (some ⟨d, 0, none⟩), v] W fun e w' => e = .returned (.int .i64 0) ∧ DS w0 w' d mb (P.crash keep) :=
  (crashD_any (h.1.next hb) hv (fun x hx hp hf => by have := (ha x hx hp).1; omega) (fun x hx hp => (ha x hx hp).2)).mono fun _ _ hd => ds_done h hb hd
theorem down_ds {P : Pd} (h : DS w0 w d mb P) : Calls Try.prog 37 #[.pointer (some ⟨d, 0, none⟩)] w fun e w' => e = .returned (.bool P.down) ∧ w = w' := by
  obtain ⟨⟨l, hD, _⟩, _⟩ := h
  exact down_any hD
theorem new_ds (room : Nat) (w : World) (h : room ≤ 67108864) : Calls Try.prog 7 #[.int .i64 room] w fun e w' => ∃ d mb, e = .returned (.tuple #[.pointer (some ⟨d, 0, none⟩), .int .i64 0]) ∧ DS w w' d mb ⟨room, -1, false, []⟩ := by
  refine (new_yes room w h).mono ?_
  rintro e w1 ⟨d, mb, rfl, hD, hb⟩
  exact ⟨d, mb, rfl, ⟨[], hD, rfl⟩, hb⟩
/-- what Read hands out -/
def readP (P : Pd) (n : Int) : Int × List UInt8 := if P.down = true then (5, []) else match P.L.find? (fun p => p.n == n) with
  | some p => (0, p.b)
  | none => (6, [])
theorem find_mid {n : Int} : ∀ {l : List Sg}, l.Pairwise (fun a b => a.n < b.n) → ∀ {s : Sg}, s ∈ l → (l.map Sg.pg).find? (fun p => p.n == s.n) = some s.pg
  | [], _, _, h => by cases h
  | t :: ks, hp, s, hs => by
    obtain ⟨h1, h2⟩ := List.pairwise_cons.1 hp
    rw [List.map_cons, List.find?_cons]
    rcases List.mem_cons.1 hs with rfl | hs
    · have : (s.pg.n == s.n) = true := by simp [Sg.pg]
      rw [this]
    · have hlt := h1 s hs
      have : (t.pg.n == s.n) = false := by
        have : t.n ≠ s.n := by omega
        simpa [Sg.pg] using this
      rw [this]
      exact find_mid (n := n) h2 hs
theorem read_ds {P : Pd} (h : DS w0 w d mb P) {n : Int} (hn : Rng n) : Calls Try.prog 21 #[.pointer (some ⟨d, 0, none⟩), .int .i64 n] w fun e w' => ∃ v, e = .returned (.tuple #[v, .int .i64 (readP P n).1]) ∧ Mine8 5 w w' v (readP P n).2 ∧ Below w.heap.size w w' := by
  obtain ⟨⟨l, hD, hL⟩, _⟩ := h
  obtain ⟨room, fuse, down, L⟩ := P
  simp only at hD hL
  subst hL
  unfold readP
  cases down with
  | true =>
    refine (read_down hD n).mono ?_
    rintro e w1 ⟨rfl, rfl⟩
    exact ⟨_, rfl, mine8_nil 5 w w, bel_refl w⟩
  | false =>
    rcases lacks_or l n with hlk | ⟨s, hs, rfl⟩
    · have : (l.map Sg.pg).find? (fun p => p.n == n) = none := by
        rw [List.find?_eq_none]
        intro p hp
        obtain ⟨s, hs, rfl⟩ := List.mem_map.1 hp
        have := hlk s hs
        simpa [Sg.pg] using this
      simp only [this]
      refine (read_no hD hn hlk).mono ?_
      rintro e w1 ⟨rfl, rfl⟩
      exact ⟨_, rfl, mine8_nil 5 w w, bel_refl w⟩
    · simp only [find_mid (n := s.n) hD.inc hs]
      exact read_yes hD hs
theorem aside_nil {α : Type} (w0 w W : World) (l : List α) : Aside w0 w W (.slice none 0 0) l := fun x hx => by cases hx
theorem rd_nil (w : World) : Rd8 w (.slice none 0 0) [] := (own_nil w 5 1).rd
theorem rng1 {n : Int} (h1 : -1000000 ≤ n) (h2 : n ≤ 1000000) : Rng n := ⟨by omega, by omega⟩
theorem aside_new {α : Type} (w0 w : World) (o : Obj) {n c : Nat} {l : List α} (h : w0.heap.size ≤ w.heap.size) : Aside w0 w (w.alloc o) (.slice (some ⟨w.heap.size, 0, none⟩) n c) l := fun x hx _ => by
  cases hx
  exact ⟨.inr (Nat.le_refl _), by simp⟩
end Go.Proofs.Ytokmiphgalpahaa
