/- The disk's New (8), power (23), find (24). -/
import Derived.Test.YtokmiphgalpahaaW2
namespace Go.Proofs.Ytokmiphgalpahaa
open Go.RowKit Go.Kt
set_option maxRecDepth 100000
variable {F : Nat → Prop} {w w' : World} {d mb : Nat} {room fuse : Int} {down : Bool} {l : List Sg}

/-- a change of the disk's own block -/
theorem DiskIs.own (h : DiskIs F w d mb room fuse down l) {fuse' : Int} {down' : Bool} (hb : Blk w' d #[.int .i64 room, .map (some mb), .int .i64 fuse', .bool down'] 69) (ht : Turn (· = d) w w') (h0 : -1 ≤ fuse') (h1 : fuse' ≤ 9223372036854775807) : DiskIs F w' d mb room fuse' down' l := by
  have kb : ∀ {g : Nat} {cs : Array Value}, Blk w g cs 95 → Blk w' g cs 95 := fun hg => (ht.block _ hg.lt (by
    rintro rfl
    have := h.blk
    unfold Blk at hg this
    rw [hg] at this
    cases this)).trans hg
  refine ⟨hb, ?_, h.inc, fun s hs => ⟨kb (h.seg s hs).1, ?_, (h.seg s hs).2.2⟩, h.gs, h.vs, h.Fd, h.Fm, h.Fs, h.room0, h.room1, h.len, h.tot, h0, h1⟩
  · obtain ⟨f, hm, hf⟩ := h.map
    refine ⟨f, ?_, hf⟩
    obtain ⟨D, ⟨es, ck, hb1, F1, hs, hD⟩, h2, h3⟩ := hm
    refine ⟨D, ⟨es, ck, (ht.block mb (Array.getElem?_eq_some_iff.1 hb1).1 ?_).trans hb1, F1, hs, hD⟩, h2, h3⟩
    rintro rfl
    have := h.blk
    unfold Blk at this
    rw [hb1] at this
    cases this
  · have ho := (h.seg s hs).2.1
    exact Own.keep ho fun x hx => ht.block x (ho.lt x hx) (by
      rintro rfl
      exact own_no_blk ho h.blk (by decide) hx)

theorem bel_alloc {x y : World} {o : Obj} (h : Below x.heap.size x y) : Below x.heap.size x (y.alloc o) := h.alloc h.size o
def powF (fuse : Int) : Int := if 0 < fuse then fuse - 1 else fuse
theorem power_any (h : DiskIs F w d mb room fuse false l) : Calls Try.prog 50 #[.pointer (some ⟨d, 0, none⟩)] w fun e w' => e = .returned (.bool (decide (fuse ≠ 0))) ∧ DiskIs F w' d mb room (powF fuse) (decide (fuse = 0)) l ∧ Turn (· = d) w w' := by
  obtain ⟨c0, c1, c2, c3⟩ := h.cell
  have hb := h.blk
  have f0 := h.fuse0
  have f1 := h.fuse1
  have hdl := hb.lt
  have H := Lib.hid h
  have fz : ∀ j, w.frozen? ⟨d, j, none⟩ = false := fun j => hb.free j
  have fz2 := fz 2
  have fz3 := fz 3
  have HB := Lib.hid hb
  clear h hb fz
  by_cases h0 : fuse = 0
  · subst h0
    have hT : Turn (· = d) w (w.setCell ⟨d, 3, none⟩ (.bool true)) := (Turn.refl (· = d) w).set (a := ⟨d, 3, none⟩) rfl _
    have hD : Hid (DiskIs F (w.setCell ⟨d, 3, none⟩ (.bool true)) d mb room 0 true l) := Lib.hid (H.out.own (HB.out.set 3 _) hT (by omega) (by omega))
    have HT := Lib.hid hT
    clear hT
    go_enter Try.func50, Try.ntmps50
    go_wp2_with fail
    go_ret
    exact ⟨rfl, hD.out, HT.out⟩
  · by_cases h1 : 0 < fuse
    · have hT : Turn (· = d) w (w.setCell ⟨d, 2, none⟩ (.int .i64 (fuse - 1))) := (Turn.refl (· = d) w).set (a := ⟨d, 2, none⟩) rfl _
      have hD : Hid (DiskIs F (w.setCell ⟨d, 2, none⟩ (.int .i64 (fuse - 1))) d mb room (powF fuse) (decide (fuse = 0)) l) := Lib.hid (by
        have e1 : powF fuse = fuse - 1 := if_pos h1
        have e2 : decide (fuse = 0) = false := by simpa using h0
        rw [e1, e2]
        exact H.out.own (HB.out.set 2 _) hT (by omega) (by omega))
      have HT := Lib.hid hT
      clear hT
      have hs : IntKind.wrap .i64 (fuse - 1) = fuse - 1 := by
        simp [IntKind.wrap, IntKind.bits, IntKind.signed]
        omega
      go_enter Try.func50, Try.ntmps50
      go_wp2_with fail
      go_ret
      exact ⟨by simp [h0], by simpa [h0] using hD.out, HT.out⟩
    · have hD : Hid (DiskIs F w d mb room (powF fuse) (decide (fuse = 0)) l) := Lib.hid (by
        have e1 : powF fuse = fuse := if_neg h1
        have e2 : decide (fuse = 0) = false := by simpa using h0
        rw [e1, e2]
        exact H.out)
      go_enter Try.func50, Try.ntmps50
      go_wp2_with fail
      go_ret
      exact ⟨by simp [h0], by simpa [h0] using hD.out, Turn.refl _ _⟩

theorem new_yes (room : Nat) (w : World) (h : room ≤ 67108864) : Calls Try.prog 7 #[.int .i64 room] w fun e w' => ∃ d mb, e = .returned (.tuple #[.pointer (some ⟨d, 0, none⟩), .int .i64 0]) ∧ DiskIs (fun x => w.heap.size ≤ x ∧ x < w'.heap.size) w' d mb room (-1) false [] ∧ Below w.heap.size w w' := by
  have h' : (room : Int) ≤ 67108864 := by omega
  have d2 : decide (67108864 < (room : Int)) = false := by simp only [decide_eq_false_iff_not]; omega
  have hP : Hid (DiskIs (fun x => w.heap.size ≤ x ∧ x < w.heap.size + 2) ((w.alloc (.map #[] 0)).alloc (.cells #[.int .i64 room, .map (some w.heap.size), .int .i64 (-1), .bool false] 69)) (w.heap.size + 1) w.heap.size room (-1) false []) := Lib.hid (by
    refine ⟨?_, ⟨fun _ => none, ?_, fun k v => by simp⟩, .nil, (by simp), .nil, .nil, ⟨by omega, by omega⟩, ⟨by omega, by omega⟩, (by simp), by omega, by omega, by simp, by simp [used], by omega, by omega⟩
    · have hb := Blk.new (w.alloc (.map #[] 0)) #[.int .i64 room, .map (some w.heap.size), .int .i64 (-1), .bool false] 69
      simp only [World.size_alloc] at hb
      exact hb
    · exact (MapIs.made w _ _).alloc _)
  have hmm := @run_makeMap Try.prog
  go_enter Try.func7, Try.ntmps7
  go_wp2_with fail
  go_ret2
  refine ⟨w.heap.size + 1, w.heap.size, rfl, ?_, bel_alloc (below_alloc w _)⟩
  have := hP.out
  simpa using this
theorem new_no (room : Int) (w : World) (h : room < 0 ∨ 67108864 < room) : Calls Try.prog 7 #[.int .i64 room] w fun e w' => e = .returned (.tuple #[.pointer none, .int .i64 1]) ∧ w = w' := by
  by_cases h1 : room < 0
  · clear h
    go_enter Try.func7, Try.ntmps7
    go_wp2_with fail
    go_ret2
    exact ⟨rfl, rfl⟩
  · have h2 : 67108864 < room := by omega
    have d1 : decide (room < 0) = false := by simp only [decide_eq_false_iff_not]; omega
    clear h
    go_enter Try.func7, Try.ntmps7
    go_wp2_with fail
    go_ret2
    exact ⟨rfl, rfl⟩
end Go.Proofs.Ytokmiphgalpahaa
