/- DiskMany (4). -/
import Derived.Test.YtnggihfggghigaaWN
namespace Go.Proofs.Ytnggihfggghigaa
open Go.RowKit Go.Kt
/-- the segments 1, 3, 5 .. -/
def odds : Nat → List Pg
  | 0 => []
  | k + 1 => odds k ++ [⟨2 * (k : Int) + 1, [], 0, false⟩]
theorem odds_len : ∀ k, (odds k).length = k
  | 0 => rfl
  | k + 1 => by rw [odds, List.length_append, odds_len k]; rfl
theorem odds_used : ∀ k, usedP (odds k) = 0
  | 0 => rfl
  | k + 1 => by
    have := odds_used k
    unfold usedP at this ⊢
    rw [odds, List.map_append, List.sum_append, this]
    rfl
theorem odds_mem : ∀ k, ∀ p ∈ odds k, p.b = [] ∧ p.sure = 0 ∧ p.kept = false ∧ ∃ j : Nat, j < k ∧ p.n = 2 * (j : Int) + 1
  | 0, p, h => by cases h
  | k + 1, p, h => by
    rw [odds, List.mem_append] at h
    rcases h with h | h
    · obtain ⟨h1, h2, h3, j, h4, h5⟩ := odds_mem k p h
      exact ⟨h1, h2, h3, j, by omega, h5⟩
    · obtain rfl := List.mem_singleton.1 h
      exact ⟨rfl, rfl, rfl, k, by omega, rfl⟩
theorem odds_has : ∀ (k j : Nat), j < k → HasP (2 * (j : Int) + 1) (odds k)
  | 0, j, h => by omega
  | k + 1, j, h => by
    rw [odds]
    by_cases e : j < k
    · obtain ⟨p, hp, hn⟩ := odds_has k j e
      exact ⟨p, List.mem_append.2 (.inl hp), hn⟩
    · obtain rfl : j = k := by omega
      exact ⟨_, List.mem_append.2 (.inr (List.mem_singleton.2 rfl)), rfl⟩
theorem insP_last {q : Pg} : ∀ L : List Pg, (∀ p ∈ L, p.n < q.n) → insP q L = L ++ [q]
  | [], _ => rfl
  | t :: ks, h => by
    unfold insP
    rw [if_pos (h t (by simp)), insP_last ks (fun p hp => h p (by simp [hp]))]
    rfl
theorem many_step (k : Nat) (h : k < 1024) : Pd.app ⟨1, -1, false, odds k⟩ (2 * (k : Int) + 1) [] = (0, ⟨1, -1, false, odds (k + 1)⟩) := by
  have hno : ¬ HasP (2 * (k : Int) + 1) (odds k) := by
    rintro ⟨p, hp, hn⟩
    obtain ⟨_, _, _, j, h4, h5⟩ := odds_mem k p hp
    omega
  unfold Pd.app
  simp only [odds_used, odds_len]
  rw [if_neg (by simp), if_neg (by omega), if_neg (by
    rintro (h | h)
    · simp at h
    · omega), if_neg (by omega)]
  unfold appP
  rw [if_neg hno, insP_last _ (fun p hp => by
    obtain ⟨_, _, _, j, h4, h5⟩ := odds_mem k p hp
    simp only
    omega)]
  rfl
def many1 : Int × Pd := Pd.app ⟨1, -1, false, odds 1024⟩ 2 []
def many2 : Int × Pd := Pd.app many1.2 1 [120]
def many3 : Int × Pd := Pd.drop many2.2 3
def many4 : Int × Pd := Pd.app many3.2 2 []
def many5 : Int × Pd := Pd.app many4.2 1 [120]
theorem many1_ok : many1.1 = 4 := by decide +kernel
theorem many2_ok : many2.1 = 0 := by decide +kernel
theorem many3_ok : many3.1 = 0 := by decide +kernel
theorem many4_ok : many4.1 = 0 := by decide +kernel
theorem many5_ok : many5.1 = 4 := by decide +kernel
set_option maxRecDepth 100000 in
theorem many_any (w : World) : Calls Try.prog 4 #[] w fun e w' => e = .returned (.bool true) ∧ Below w.heap.size w w' := by
  have kc := fun (w : World) (C : Array Value) (n c : Nat) => Lib.run_convert_bytes_const (P := Try.prog) w 28 5 C n c Try.underlying28 Try.underlying5
  go_enter Try.func4, Try.ntmps4
  go_wp2_with fail
  refine (new_ds 1 w (by omega)).mono ?_
  rintro e w1 ⟨d, mb, rfl, hd1⟩
  have HD1 := Lib.hid hd1
  clear hd1
  go_wp2_with fail
  refine (awake_any w1).mono ?_
  rintro e w2 ⟨rfl, hb⟩
  have HD2 : Hid (DS w w2 d mb ⟨1, -1, false, odds 0⟩) := Lib.hid (HD1.out.next hb)
  clear hb
  go_wp2_with fail
  go_loopw [3, 14] (fun _ iv wr => ∃ k : Nat, k ≤ 1024 ∧ iv = .int .i64 k ∧ Hid (DS w wr d mb ⟨1, -1, false, odds k⟩)) (fun _ iv _ => 1024 - (intOf iv).toNat)
  case atStart => exact ⟨0, by omega, rfl, HD2⟩
  case round =>
    obtain ⟨k, hk, rfl, HD⟩ := hrel
    by_cases hlt : k < 1024
    · have hr : Rng (2 * (k : Int) + 1) := ⟨by omega, by omega⟩
      have Hst := Lib.hid (many_step k hlt)
      go_wp2_with fail
      refine (app_ds HD.out (bel_refl wr) (n := 2 * (k : Int) + 1) (pl := []) hr (rd_nil wr) (aside_nil _ _ _ _)).mono ?_
      rw [Hst.out]
      rintro e w3 ⟨rfl, hd3⟩
      have HD3 : Hid (DS w w3 d mb ⟨1, -1, false, odds (k + 1)⟩) := Lib.hid hd3
      clear hd3
      go_wp2_with fail
      go_roundw
      case rel => exact ⟨k + 1, by omega, by go_num, HD3⟩
      case measure => simp [intOf]; omega
    · obtain rfl : k = 1024 := by omega
      clear HD2
      have HD0 : Hid (DS w wr d mb ⟨1, -1, false, odds 1024⟩) := Lib.hid HD.out
      have H1 := Lib.hid many1_ok
      have H2 := Lib.hid many2_ok
      have H3 := Lib.hid many3_ok
      have H4 := Lib.hid many4_ok
      have H5 := Lib.hid many5_ok
      go_wp2_with fail
      refine (app_ds HD0.out (bel_refl wr) (n := 2) (pl := []) (rng1 (by omega) (by omega)) (rd_nil wr) (aside_nil _ _ _ _)).mono ?_
      rintro e w3 ⟨rfl, hd3⟩
      have HD3 : Hid (DS w w3 d mb many1.2) := Lib.hid hd3
      clear hd3
      rw [show (Pd.app ⟨1, -1, false, odds 1024⟩ 2 []).1 = 4 from H1.out]
      go_wp2_with fail
      refine (app_ds HD3.out (below_alloc w3 _) (n := 1) (pl := [120]) (rng1 (by omega) (by omega)) (rd8_new _ (by simp [maxLen]) rfl rfl rfl) (aside_new _ _ _ HD3.out.2.size)).mono ?_
      rintro e w4 ⟨rfl, hd4⟩
      have HD4 : Hid (DS w w4 d mb many2.2) := Lib.hid hd4
      clear hd4
      rw [show (Pd.app many1.2 1 [120]).1 = 0 from H2.out]
      go_wp2_with fail
      refine (drop_ds HD4.out (n := 3) (rng1 (by omega) (by omega))).mono ?_
      rintro e w5 ⟨rfl, hd5⟩
      have HD5 : Hid (DS w w5 d mb many3.2) := Lib.hid hd5
      clear hd5
      rw [show (Pd.drop many2.2 3).1 = 0 from H3.out]
      go_wp2_with fail
      refine (app_ds HD5.out (bel_refl w5) (n := 2) (pl := []) (rng1 (by omega) (by omega)) (rd_nil w5) (aside_nil _ _ _ _)).mono ?_
      rintro e w6 ⟨rfl, hd6⟩
      have HD6 : Hid (DS w w6 d mb many4.2) := Lib.hid hd6
      clear hd6
      rw [show (Pd.app many3.2 2 []).1 = 0 from H4.out]
      go_wp2_with fail
      refine (app_ds HD6.out (below_alloc w6 _) (n := 1) (pl := [120]) (rng1 (by omega) (by omega)) (rd8_new _ (by simp [maxLen]) rfl rfl rfl) (aside_new _ _ _ HD6.out.2.size)).mono ?_
      rintro e w7 ⟨rfl, hd7⟩
      have HD7 : Hid (DS w w7 d mb many5.2) := Lib.hid hd7
      clear hd7
      rw [show (Pd.app many4.2 1 [120]).1 = 4 from H5.out]
      go_wp2_with fail
      go_ret
      exact ⟨rfl, HD7.out.2⟩
end Go.Proofs.Ytnggihfggghigaa
