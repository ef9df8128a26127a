/- Sync (11). -/
import Derived.Test.YtokmiphgalpahaaW8
namespace Go.Proofs.Ytokmiphgalpahaa
open Go.RowKit Go.Kt
set_option maxRecDepth 100000
variable {F : Nat → Prop} {w w' : World} {d mb : Nat} {room fuse : Int} {down : Bool} {l : List Sg}

theorem used_swap (s' : Sg) : ∀ l : List Sg, (∀ t ∈ l, t.n = s'.n → t.b.length = s'.b.length) → used (l.map (swap s')) = used l
  | [], _ => rfl
  | t :: ks, h => by
    have ih := used_swap s' ks (fun t ht => h t (by simp [ht]))
    have e1 : used ((t :: ks).map (swap s')) = (swap s' t).b.length + used (ks.map (swap s')) := by simp [used]
    have e2 : used (t :: ks) = t.b.length + used ks := by simp [used]
    have e3 : (swap s' t).b.length = t.b.length := by
      unfold swap
      split
      · rename_i hh; exact (h t (by simp) hh).symm
      · rfl
    omega
def Sg.synced (s : Sg) : Sg := { s with sure := s.b.length, kept := true }
theorem sync_yes (h : DiskIs F w d mb room fuse false l) (hf : fuse ≠ 0) {s : Sg} (hs : s ∈ l) : Calls Try.prog 28 #[.pointer (some ⟨d, 0, none⟩), .int .i64 s.n] w fun e w' => e = .returned (.int .i64 0) ∧ DiskIs F w' d mb room (powF fuse) false (l.map (swap s.synced)) ∧ Turn F w w' := by
  have H := Lib.hid h
  have Hs := Lib.hid hs
  have Hf : Hid (fuse ≠ 0) := Lib.hid hf
  have e1 : decide (fuse ≠ 0) = true := by simpa using hf
  have e2 : decide (fuse = 0) = false := by simpa using hf
  clear h hs hf
  go_enter Try.func28, Try.ntmps28
  go_wp2_with (first
    | (go_at_call 47; refine (find_yes H.out Hs.out).mono ?_; rintro e w1 ⟨rfl, rfl⟩)
    | (go_at_call 50; refine (power_any H.out).mono ?_; rw [e1, e2]; rintro e w1 ⟨rfl, hD1, hT1⟩
       have q1 := hD1.seg s Hs.out
       have k0 : w1.cell? ⟨s.g, 0, none⟩ = some s.v := q1.1.cell 0
       have k1 : w1.cell? ⟨s.g, 1, none⟩ = some (.int .i64 s.sure) := q1.1.cell 1
       have k2 : w1.cell? ⟨s.g, 2, none⟩ = some (.bool s.kept) := q1.1.cell 2
       have f1 : w1.frozen? ⟨s.g, 1, none⟩ = false := q1.1.free 1
       have f2 : w1.frozen? ⟨s.g, 2, none⟩ = false := q1.1.free 2
       have hlt := q1.1.lt
       have hsm := hD1.small Hs.out
       obtain ⟨_, va, vcap, hv, _⟩ := q1.2.1.rd
       rw [hv] at k0
       have HD1 := Lib.hid hD1
       have HT1 := Lib.hid hT1
       clear hD1 hT1 q1 hv))
  go_ret
  refine ⟨rfl, ?_, ?_⟩
  · have q1 := HD1.out.seg s Hs.out
    have hT2 : Turn (fun x => x = s.g ∨ s.v.ownBlock = some x) w1 ((w1.setCell ⟨s.g, 1, none⟩ (.int .i64 s.b.length)).setCell ⟨s.g, 2, none⟩ (.bool true)) := ((Turn.refl _ _).set (a := ⟨s.g, 1, none⟩) (.inl rfl) _).set (a := ⟨s.g, 2, none⟩) (.inl rfl) _
    refine HD1.out.turn (s' := s.synced) Hs.out rfl rfl hT2 ((q1.1.set 1 _).set 2 _) ?_ (Nat.le_refl _) (fun x hx => .inl hx) ?_ (fun x hx => hx) ((HD1.out.Fs s Hs.out).2)
    · have hne : ∀ b, s.v.ownBlock = some b → b ≠ s.g := fun b hb e => by
        subst e
        exact own_no_blk q1.2.1 q1.1 (by decide) hb
      exact own_set (own_set q1.2.1 (p := ⟨s.g, 1, none⟩) hne _) (p := ⟨s.g, 2, none⟩) hne _
    · rw [used_swap]
      · exact HD1.out.tot
      · intro t ht htn
        rw [HD1.out.same_n ht Hs.out htn]
        rfl
  · exact ((HT1.out.mono (fun x hx => hx ▸ H.out.Fd)).set (a := ⟨s.g, 1, none⟩) (H.out.Fs s Hs.out).1 _).set (a := ⟨s.g, 2, none⟩) (H.out.Fs s Hs.out).1 _
theorem sync_dead (h : DiskIs F w d mb room 0 false l) {s : Sg} (hs : s ∈ l) : Calls Try.prog 28 #[.pointer (some ⟨d, 0, none⟩), .int .i64 s.n] w fun e w' => e = .returned (.int .i64 5) ∧ DiskIs F w' d mb room 0 true l ∧ Turn F w w' := by
  have H := Lib.hid h
  have Hs := Lib.hid hs
  clear h hs
  go_enter Try.func28, Try.ntmps28
  go_wp2_with (first
    | (go_at_call 47; refine (find_yes H.out Hs.out).mono ?_; rintro e w1 ⟨rfl, rfl⟩)
    | (go_at_call 50; refine (power_any H.out).mono ?_; rintro e w1 ⟨rfl, hD1, hT1⟩
       have HD1 := Lib.hid hD1
       have HT1 := Lib.hid hT1
       clear hD1 hT1))
  go_ret
  exact ⟨rfl, HD1.out, HT1.out.mono (fun x hx => hx ▸ H.out.Fd)⟩
theorem sync_no (h : DiskIs F w d mb room fuse false l) {n : Int} (hn : Rng n) (hl : Lacks l n) : Calls Try.prog 28 #[.pointer (some ⟨d, 0, none⟩), .int .i64 n] w fun e w' => e = .returned (.int .i64 6) ∧ w = w' := by
  have H := Lib.hid h
  have Hn := Lib.hid hn
  have Hl := Lib.hid hl
  clear h hn hl
  go_enter Try.func28, Try.ntmps28
  go_wp2_with (go_at_call 47; refine (find_no H.out Hn.out Hl.out).mono ?_; rintro e w1 ⟨rfl, rfl⟩)
  go_ret
  exact ⟨rfl, rfl⟩
theorem sync_down (h : DiskIs F w d mb room fuse true l) (n : Int) : Calls Try.prog 28 #[.pointer (some ⟨d, 0, none⟩), .int .i64 n] w fun e w' => e = .returned (.int .i64 5) ∧ w = w' := by
  have H := Lib.hid h
  clear h
  go_enter Try.func28, Try.ntmps28
  go_wp2_with (go_at_call 47; refine (find_down H.out n).mono ?_; rintro e w1 ⟨rfl, rfl⟩)
  go_ret
  exact ⟨rfl, rfl⟩
theorem sync_nil (w : World) (n : Int) : Calls Try.prog 28 #[.pointer none, .int .i64 n] w fun e w' => e = .returned (.int .i64 2) ∧ w = w' := by
  go_enter Try.func28, Try.ntmps28
  go_wp2_with (go_at_call 47; refine (find_nil w n).mono ?_; rintro e w1 ⟨rfl, rfl⟩)
  go_ret
  exact ⟨rfl, rfl⟩
end Go.Proofs.Ytokmiphgalpahaa
