/- The disk as a plain list of segments, and what each call does to it. -/
import Derived.Test.YtokmiphgalpahaaWL
namespace Go.Proofs.Ytokmiphgalpahaa
open Go.RowKit Go.Kt
set_option maxRecDepth 100000
variable {F : Nat → Prop} {w w' : World} {d mb : Nat} {room fuse : Int} {down : Bool} {l : List Sg}

/-- a segment as plain data -/
structure Pg where
  n : Int
  b : List UInt8
  sure : Nat
  kept : Bool
/-- a disk as plain data -/
structure Pd where
  room : Int
  fuse : Int
  down : Bool
  L : List Pg
def Sg.pg (s : Sg) : Pg := ⟨s.n, s.b, s.sure, s.kept⟩
def usedP (L : List Pg) : Nat := (L.map fun p => p.b.length).sum
def HasP (n : Int) (L : List Pg) : Prop := ∃ p ∈ L, p.n = n
instance (n : Int) (L : List Pg) : Decidable (HasP n L) := by unfold HasP; infer_instance
def addP (n : Int) (pl : List UInt8) (p : Pg) : Pg := if p.n = n then { p with b := p.b ++ pl } else p
def syncP (n : Int) (p : Pg) : Pg := if p.n = n then { p with sure := p.b.length, kept := true } else p
def insP (q : Pg) : List Pg → List Pg
  | [] => [q]
  | t :: ks => if t.n < q.n then t :: insP q ks else q :: t :: ks
def appP (n : Int) (pl : List UInt8) (L : List Pg) : List Pg := if HasP n L then L.map (addP n pl) else insP ⟨n, pl, 0, false⟩ L
def dropP (n : Int) (L : List Pg) : List Pg := L.filter fun p => decide (p.n ≠ n)
def keepP (keep : List Int) (i : Nat) (p : Pg) : Nat := p.sure + moreOf keep i (p.b.length - p.sure)
def crashP (keep : List Int) : Nat → List Pg → List Pg
  | _, [] => []
  | i, p :: t => if keepP keep i p = 0 ∧ p.kept = false then crashP keep (i + 1) t else ⟨p.n, p.b.take (keepP keep i p), keepP keep i p, true⟩ :: crashP keep (i + 1) t
def Pd.app (P : Pd) (n : Int) (pl : List UInt8) : Int × Pd :=
  if P.down = true then (5, P)
  else if n < 1 then (1, P)
  else if P.room - usedP P.L < pl.length ∨ (¬ HasP n P.L ∧ 1024 ≤ P.L.length) then (4, P)
  else if P.fuse = 0 then (5, { P with down := true })
  else (0, { P with fuse := powF P.fuse, L := appP n pl P.L })
def Pd.sync (P : Pd) (n : Int) : Int × Pd :=
  if P.down = true then (5, P)
  else if ¬ HasP n P.L then (6, P)
  else if P.fuse = 0 then (5, { P with down := true })
  else (0, { P with fuse := powF P.fuse, L := P.L.map (syncP n) })
def Pd.drop (P : Pd) (n : Int) : Int × Pd :=
  if P.down = true then (5, P)
  else if ¬ HasP n P.L then (6, P)
  else if P.fuse = 0 then (5, { P with down := true })
  else (0, { P with fuse := powF P.fuse, L := dropP n P.L })
def Pd.setFuse (P : Pd) (n : Int) : Int × Pd := if P.down = true then (5, P) else (0, { P with fuse := max n (-1) })
def Pd.crash (P : Pd) (keep : List Int) : Pd := ⟨P.room, -1, false, crashP keep 0 P.L⟩

theorem used_pg (l : List Sg) : used l = usedP (l.map Sg.pg) := by
  unfold used usedP
  rw [List.map_map]
  rfl
theorem lacks_pg {n : Int} : Lacks l n ↔ ¬ HasP n (l.map Sg.pg) := by
  constructor
  · rintro h ⟨p, hp, e⟩
    obtain ⟨s, hs, rfl⟩ := List.mem_map.1 hp
    exact h s hs e
  · exact fun h s hs e => h ⟨s.pg, List.mem_map.2 ⟨s, hs, rfl⟩, e⟩
theorem has_pg {n : Int} (h : HasP n (l.map Sg.pg)) : ∃ s ∈ l, s.n = n := by
  obtain ⟨p, hp, e⟩ := h
  obtain ⟨s, hs, rfl⟩ := List.mem_map.1 hp
  exact ⟨s, hs, e⟩
theorem ins_pg (s : Sg) : ∀ l : List Sg, (ins s l).map Sg.pg = insP s.pg (l.map Sg.pg)
  | [] => rfl
  | t :: ks => by
    unfold ins
    rw [List.map_cons]
    unfold insP
    have e : (t.pg.n < s.pg.n) = (t.n < s.n) := rfl
    split
    · rename_i h
      rw [if_pos (show t.pg.n < s.pg.n from h), List.map_cons, ins_pg s ks]
    · rename_i h
      rw [if_neg (show ¬ t.pg.n < s.pg.n from h), List.map_cons, List.map_cons]
theorem crash_pg (keep : List Int) : ∀ (i : Nat) (l : List Sg), (crashL keep i l).map Sg.pg = crashP keep i (l.map Sg.pg)
  | _, [] => rfl
  | i, s :: t => by
    have e1 : crashL keep i (s :: t) = if keepN keep i s = 0 ∧ s.kept = false then crashL keep (i + 1) t else s.cutTo (keepN keep i s) true :: crashL keep (i + 1) t := rfl
    have e2 : crashP keep i ((s :: t).map Sg.pg) = if keepN keep i s = 0 ∧ s.kept = false then crashP keep (i + 1) (t.map Sg.pg) else (s.cutTo (keepN keep i s) true).pg :: crashP keep (i + 1) (t.map Sg.pg) := rfl
    rw [e1, e2]
    split
    · exact crash_pg keep (i + 1) t
    · rw [List.map_cons, crash_pg keep (i + 1) t]
theorem swap_pg (h : DiskIs F w d mb room fuse down l) {s s' : Sg} (hs : s ∈ l) (hn : s'.n = s.n) {f : Pg → Pg} (hf : s'.pg = f s.pg) (hf' : ∀ p : Pg, p.n ≠ s.n → f p = p) : (l.map (swap s')).map Sg.pg = (l.map Sg.pg).map f := by
  rw [List.map_map, List.map_map]
  refine List.map_congr_left fun t ht => ?_
  show (swap s' t).pg = f t.pg
  unfold swap
  split
  · rename_i e
    rw [h.same_n ht hs (e.trans hn), hf]
  · rename_i e
    exact (hf' t.pg (fun e2 => e (e2.trans hn.symm))).symm
theorem swap_ins {q q' : Sg} (hn : q'.n = q.n) : ∀ l : List Sg, Lacks l q.n → (ins q l).map (swap q') = ins q' l
  | [], _ => by
    show [swap q' q] = [q']
    rw [show swap q' q = q' from if_pos hn.symm]
  | t :: ks, h => by
    have e3 : ∀ q : Sg, ins q (t :: ks) = if t.n < q.n then t :: ins q ks else q :: t :: ks := fun _ => rfl
    have ht : swap q' t = t := if_neg (by rw [hn]; exact h t (by simp))
    have hks : ks.map (swap q') = ks := by
      conv => rhs; rw [← List.map_id ks]
      exact List.map_congr_left fun x hx => if_neg (by rw [hn]; exact h x (by simp [hx]))
    rw [e3, e3, hn]
    split
    · rw [List.map_cons, ht, swap_ins hn ks (fun x hx => h x (by simp [hx]))]
    · rw [List.map_cons, List.map_cons, ht, hks, show swap q' q = q' from if_pos hn.symm]
theorem drop_pg (n : Int) (l : List Sg) : (del n l).map Sg.pg = dropP n (l.map Sg.pg) := by
  unfold del dropP
  rw [List.filter_map]
  rfl

/-- a disk in memory, as plain data -/
def DAt (F : Nat → Prop) (w : World) (d mb : Nat) (P : Pd) : Prop := ∃ l, DiskIs F w d mb P.room P.fuse P.down l ∧ l.map Sg.pg = P.L
theorem DAt.more {P : Pd} (h : DAt F w d mb P) {G : Nat → Prop} (hG : ∀ x, F x → G x) : DAt G w d mb P := by
  obtain ⟨l, h1, h2⟩ := h
  exact ⟨l, h1.more hG, h2⟩
theorem DAt.keep {P : Pd} (h : DAt F w d mb P) {G : Nat → Prop} (ht : Turn G w w') (hG : ∀ x, F x → ¬ G x) : DAt F w' d mb P := by
  obtain ⟨l, h1, h2⟩ := h
  exact ⟨l, h1.keep ht hG, h2⟩
theorem DAt.next {P : Pd} (h : DAt F w d mb P) (hb : Below w.heap.size w w') : DAt F w' d mb P := by
  obtain ⟨l, h1, h2⟩ := h
  exact ⟨l, h1.next hb, h2⟩
theorem DAt.tight {P : Pd} (h : DAt F w d mb P) : DAt (fun x => F x ∧ x < w.heap.size) w d mb P := by
  obtain ⟨l, h1, h2⟩ := h
  exact ⟨l, h1.tight, h2⟩
theorem plus_of {x : Nat} (h : F x) : Plus F w w' x := .inl h

def Done (F : Nat → Prop) (w : World) (d mb : Nat) (r : Int × Pd) (e : Ending) (w' : World) : Prop := e = .returned (.int .i64 r.1) ∧ DAt (Plus F w w') w' d mb r.2 ∧ Turn F w w'

theorem app_any {P : Pd} (h : DAt F w d mb P) {n : Int} (hn : Rng n) {v : Value} {pl : List UInt8} (hv : Rd8 w v pl) (hF : ∀ x, v.ownBlock = some x → pl ≠ [] → ¬ F x) (hlt : ∀ x, v.ownBlock = some x → pl ≠ [] → x < w.heap.size) :
    Calls Try.prog 26 #[.pointer (some ⟨d, 0, none⟩), .int .i64 n, v] w (Done F w d mb (P.app n pl)) := by
  obtain ⟨l, hD, hL⟩ := h
  obtain ⟨room, fuse, down, L⟩ := P
  simp only at hD hL
  subst hL
  unfold Pd.app
  have hlen : (l.map Sg.pg).length = l.length := List.length_map _
  simp only [hlen, ← used_pg]
  split
  · rename_i hd
    subst hd
    refine (append_down hD n v).mono ?_
    rintro e w1 ⟨rfl, rfl⟩
    exact ⟨rfl, ⟨l, hD.more (fun x hx => .inl hx), rfl⟩, Turn.refl _ _⟩
  rename_i hd
  obtain rfl : down = false := by simpa using hd
  split
  · rename_i h1
    refine (append_arg hD hn h1 v).mono ?_
    rintro e w1 ⟨rfl, rfl⟩
    exact ⟨rfl, ⟨l, hD.more (fun x hx => .inl hx), rfl⟩, Turn.refl _ _⟩
  rename_i h1
  have h1' : 1 ≤ n := by omega
  have fullc : ∀ e w1, (e = .returned (.int .i64 4) ∧ Below w.heap.size w w1) → Done F w d mb (4, ⟨room, fuse, false, l.map Sg.pg⟩) e w1 := fun e w1 ⟨he, hb⟩ => ⟨he, ⟨l, (hD.next hb).more (fun x hx => .inl hx), rfl⟩, Turn.of hb⟩
  have deadc : ∀ {fuse : Int} (e) (w1), (e = .returned (.int .i64 5) ∧ DiskIs F w1 d mb room fuse true l ∧ Turn F w w1) → Done F w d mb (5, ⟨room, fuse, true, l.map Sg.pg⟩) e w1 := fun e w1 ⟨he, hb, ht⟩ => ⟨he, ⟨l, hb.more (fun x hx => .inl hx), rfl⟩, ht⟩
  rcases lacks_or l n with hlk | ⟨s, hs, rfl⟩
  · have hno : ¬ HasP n (l.map Sg.pg) := lacks_pg.1 hlk
    split
    · rename_i h2
      refine (append_full2 hD hn h1' hlk hv ?_).mono fullc
      rcases h2 with h2 | h2
      · exact .inl h2
      · exact .inr h2.2
    rename_i h2
    have h3 : l.length < 1024 := Nat.lt_of_not_le fun h => h2 (.inr ⟨hno, h⟩)
    have h4 : (pl.length : Int) ≤ room - used l := by
      have : ¬ (room - used l < pl.length) := fun h => h2 (.inl h)
      omega
    split
    · rename_i hf
      subst hf
      exact (append_dead2 hD hn h1' hlk h3 hv hF hlt h4).mono deadc
    · rename_i hf
      refine (append_yes2 hD hf hn h1' hlk h3 hv hF hlt h4).mono ?_
      rintro e w1 ⟨g, v', rfl, hD1, ht⟩
      refine ⟨rfl, ⟨_, hD1, ?_⟩, ht⟩
      unfold appP
      rw [if_neg hno]
      have e1 : (ins (fresh n g) l).map (swap { fresh n g with v := v', b := pl }) = ins { fresh n g with v := v', b := pl } l := swap_ins (q := fresh n g) (q' := { fresh n g with v := v', b := pl }) rfl l hlk
      rw [e1, ins_pg]
      rfl
  · have hyes : HasP s.n (l.map Sg.pg) := ⟨s.pg, List.mem_map.2 ⟨s, hs, rfl⟩, rfl⟩
    split
    · rename_i h2
      refine (append_full hD hs hv ?_).mono fullc
      rcases h2 with h2 | h2
      · exact h2
      · exact (h2.1 hyes).elim
    rename_i h2
    have h4 : (pl.length : Int) ≤ room - used l := by
      have : ¬ (room - used l < pl.length) := fun h => h2 (.inl h)
      omega
    split
    · rename_i hf
      subst hf
      exact (append_dead hD hs hv hF hlt h4).mono deadc
    · rename_i hf
      refine (append_yes hD hf hs hv hF hlt h4).mono ?_
      rintro e w1 ⟨v', rfl, hD1, ht⟩
      refine ⟨rfl, ⟨_, hD1, ?_⟩, ht⟩
      unfold appP
      rw [if_pos hyes]
      exact swap_pg hD hs (s' := { s with v := v', b := s.b ++ pl }) rfl (f := addP s.n pl) (by unfold addP; rw [if_pos (show s.pg.n = s.n from rfl)]; rfl) (fun p hp => if_neg hp)
theorem sync_any {P : Pd} (h : DAt F w d mb P) {n : Int} (hn : Rng n) : Calls Try.prog 28 #[.pointer (some ⟨d, 0, none⟩), .int .i64 n] w (Done F w d mb (P.sync n)) := by
  obtain ⟨l, hD, hL⟩ := h
  obtain ⟨room, fuse, down, L⟩ := P
  simp only at hD hL
  subst hL
  unfold Pd.sync
  split
  · rename_i hd
    subst hd
    refine (sync_down hD n).mono ?_
    rintro e w1 ⟨rfl, rfl⟩
    exact ⟨rfl, ⟨l, hD.more (fun x hx => .inl hx), rfl⟩, Turn.refl _ _⟩
  rename_i hd
  obtain rfl : down = false := by simpa using hd
  split
  · rename_i h1
    refine (sync_no hD hn (lacks_pg.2 h1)).mono ?_
    rintro e w1 ⟨rfl, rfl⟩
    exact ⟨rfl, ⟨l, hD.more (fun x hx => .inl hx), rfl⟩, Turn.refl _ _⟩
  rename_i h1
  obtain ⟨s, hs, rfl⟩ := has_pg (Classical.not_not.1 h1)
  split
  · rename_i hf
    simp only at hf
    subst hf
    exact (sync_dead hD hs).mono fun e w1 ⟨he, hb, ht⟩ => ⟨he, ⟨l, hb.more (fun x hx => .inl hx), rfl⟩, ht⟩
  · rename_i hf
    refine (sync_yes hD hf hs).mono ?_
    rintro e w1 ⟨rfl, hD1, ht⟩
    exact ⟨rfl, ⟨_, hD1.more (fun x hx => .inl hx), swap_pg hD hs (s' := s.synced) rfl (f := syncP s.n) (by unfold syncP; rw [if_pos (show s.pg.n = s.n from rfl)]; rfl) (fun p hp => if_neg hp)⟩, ht⟩
theorem drop_any {P : Pd} (h : DAt F w d mb P) {n : Int} (hn : Rng n) : Calls Try.prog 29 #[.pointer (some ⟨d, 0, none⟩), .int .i64 n] w (Done F w d mb (P.drop n)) := by
  obtain ⟨l, hD, hL⟩ := h
  obtain ⟨room, fuse, down, L⟩ := P
  simp only at hD hL
  subst hL
  unfold Pd.drop
  split
  · rename_i hd
    subst hd
    refine (drop_down hD n).mono ?_
    rintro e w1 ⟨rfl, rfl⟩
    exact ⟨rfl, ⟨l, hD.more (fun x hx => .inl hx), rfl⟩, Turn.refl _ _⟩
  rename_i hd
  obtain rfl : down = false := by simpa using hd
  split
  · rename_i h1
    refine (drop_no hD hn (lacks_pg.2 h1)).mono ?_
    rintro e w1 ⟨rfl, rfl⟩
    exact ⟨rfl, ⟨l, hD.more (fun x hx => .inl hx), rfl⟩, Turn.refl _ _⟩
  rename_i h1
  obtain ⟨s, hs, rfl⟩ := has_pg (Classical.not_not.1 h1)
  split
  · rename_i hf
    simp only at hf
    subst hf
    exact (drop_dead hD hs).mono fun e w1 ⟨he, hb, ht⟩ => ⟨he, ⟨l, hb.more (fun x hx => .inl hx), rfl⟩, ht⟩
  · rename_i hf
    refine (drop_yes hD hf hs).mono ?_
    rintro e w1 ⟨rfl, hD1, ht⟩
    exact ⟨rfl, ⟨_, hD1.more (fun x hx => .inl hx), drop_pg _ _⟩, ht⟩
theorem setFuse_any {P : Pd} (h : DAt F w d mb P) {n : Int} (hn : Rng n) : Calls Try.prog 32 #[.pointer (some ⟨d, 0, none⟩), .int .i64 n] w (Done F w d mb (P.setFuse n)) := by
  obtain ⟨l, hD, hL⟩ := h
  obtain ⟨room, fuse, down, L⟩ := P
  simp only at hD hL
  subst hL
  unfold Pd.setFuse
  split
  · rename_i hd
    subst hd
    refine (fuse_down hD n).mono ?_
    rintro e w1 ⟨rfl, rfl⟩
    exact ⟨rfl, ⟨l, hD.more (fun x hx => .inl hx), rfl⟩, Turn.refl _ _⟩
  rename_i hd
  obtain rfl : down = false := by simpa using hd
  refine (fuse_yes hD hn).mono ?_
  rintro e w1 ⟨rfl, hD1, ht⟩
  exact ⟨rfl, ⟨_, hD1.more (fun x hx => .inl hx), rfl⟩, ht.mono (fun x hx => hx ▸ hD.Fd)⟩
theorem crashD_any {P : Pd} (h : DAt F w d mb P) {kv : Value} {keep : List Int} (hk : RdRow 1 w kv keep.length (keep.map encZ)) (hF : ∀ x, kv.ownBlock = some x → keep ≠ [] → ¬ F x) (hlt : ∀ x, kv.ownBlock = some x → keep ≠ [] → x < w.heap.size) :
    Calls Try.prog 25 #[.pointer (some ⟨d, 0, none⟩), kv] w (Done F w d mb (0, P.crash keep)) := by
  obtain ⟨l, hD, hL⟩ := h
  obtain ⟨room, fuse, down, L⟩ := P
  simp only at hD hL
  subst hL
  refine (crash_any hD hk hF hlt).mono ?_
  rintro e w1 ⟨rfl, hD1, ht⟩
  exact ⟨rfl, ⟨_, hD1.more (fun x hx => .inl hx), crash_pg _ _ _⟩, ht⟩
end Go.Proofs.Ytokmiphgalpahaa
