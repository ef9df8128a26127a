/- Plain facts: a write put into a store; the order of writes turns nothing. -/
import Derived.Test.YtplieoalfbpniaaGreatPD
namespace Go.Sx
section
variable {σ : Type} {lt : σ → σ → Prop}
instance [DecidableEq σ] [DecidableRel lt] (x : Item σ) (s : σ) (t : Int) : Decidable (x.Ahead lt s t) := by unfold Item.Ahead; infer_instance
/-- the chain of a set and a time -/
def atL [DecidableEq σ] (L : List (Item σ)) (s : σ) (t : Int) : List Ver := match L.find? fun x => decide (x.set = s ∧ x.time = t) with
  | some x => x.l
  | none => []
/-- a chain laid in its place -/
def setL [DecidableEq σ] (lt : σ → σ → Prop) [DecidableRel lt] (L : List (Item σ)) (s : σ) (t : Int) (c : List Ver) : List (Item σ) :=
  L.filter (fun x => decide (x.Ahead lt s t)) ++ ⟨s, t, c⟩ :: L.filter (fun x => decide (¬ x.Ahead lt s t ∧ ¬ (x.set = s ∧ x.time = t)))
/-- a right write put into a store that isn't full -/
def putL [DecidableEq σ] (lt : σ → σ → Prop) [DecidableRel lt] (L : List (Item σ)) (s : σ) (t : Int) (v : Ver) : Int × List (Item σ) :=
  if (putC (atL L s t) v).1 ≠ 0 then ((putC (atL L s t) v).1, L) else (0, setL lt L s t (putC (atL L s t) v).2)
theorem atL_of [DecidableEq σ] (h : Line lt) {L : List (Item σ)} (hL : Rise lt L) {x : Item σ} (hx : x ∈ L) : atL L x.set x.time = x.l := by
  unfold atL
  cases hf : L.find? fun y => decide (y.set = x.set ∧ y.time = x.time) with
  | none =>
    have := List.find?_eq_none.1 hf x hx
    simp at this
  | some y =>
    have h1 := List.find?_some hf
    have h2 := List.mem_of_find?_eq_some hf
    simp only [decide_eq_true_eq] at h1
    rw [rise_one h hL h2 hx h1.1 h1.2]
theorem atL_mem [DecidableEq σ] {L : List (Item σ)} {s : σ} {t : Int} : atL L s t = [] ∨ ∃ x ∈ L, x.set = s ∧ x.time = t ∧ x.l = atL L s t := by
  unfold atL
  cases hf : L.find? fun y => decide (y.set = s ∧ y.time = t) with
  | none => exact .inl rfl
  | some y =>
    have h1 := List.find?_some hf
    simp only [decide_eq_true_eq] at h1
    exact .inr ⟨y, List.mem_of_find?_eq_some hf, h1.1, h1.2, rfl⟩
theorem setL_mem [DecidableEq σ] [DecidableRel lt] (h : Line lt) {L : List (Item σ)} {s : σ} {t : Int} {c : List Ver} {y : Item σ} : y ∈ setL lt L s t c ↔ y = ⟨s, t, c⟩ ∨ (y ∈ L ∧ ¬ (y.set = s ∧ y.time = t)) := by
  unfold setL
  rw [List.mem_append, List.mem_cons, List.mem_filter, List.mem_filter]
  simp only [decide_eq_true_eq]
  constructor
  · rintro (⟨h1, h2⟩ | h1 | ⟨h1, h2⟩)
    · refine .inr ⟨h1, fun e => ?_⟩
      have h2' : y.Ahead lt y.set y.time := by rw [← e.1, ← e.2] at h2; exact h2
      exact ahead_irr h _ h2'
    · exact .inl h1
    · exact .inr ⟨h1, h2.2⟩
  · rintro (h1 | ⟨h1, h2⟩)
    · exact .inr (.inl h1)
    · by_cases ha : y.Ahead lt s t
      · exact .inl ⟨h1, ha⟩
      · exact .inr (.inr ⟨h1, ha, h2⟩)
theorem setL_rise [DecidableEq σ] [DecidableRel lt] (h : Line lt) {L : List (Item σ)} (hL : Rise lt L) (s : σ) (t : Int) (c : List Ver) : Rise lt (setL lt L s t c) := by
  unfold setL Rise
  rw [List.pairwise_append]
  refine ⟨List.Pairwise.sublist List.filter_sublist hL, ?_, ?_⟩
  · rw [List.pairwise_cons]
    refine ⟨fun y hy => ?_, List.Pairwise.sublist List.filter_sublist hL⟩
    obtain ⟨h1, h2⟩ := List.mem_filter.1 hy
    simp only [decide_eq_true_eq] at h2
    rcases h.tri s y.set with h3 | h3 | h3
    · exact .inl h3
    · refine .inr ⟨h3, ?_⟩
      simp only
      have h4 : ¬ (y.set = s ∧ y.time < t) := fun e => h2.1 (.inr e)
      have h5 : y.time ≠ t := fun e => h2.2 ⟨h3.symm, e⟩
      have h6 : ¬ y.time < t := fun e => h4 ⟨h3.symm, e⟩
      omega
    · exact absurd (.inl h3) h2.1
  · intro a ha b hb
    have ha' : a.Ahead lt s t := by simpa using (List.mem_filter.1 ha).2
    rcases List.mem_cons.1 hb with rfl | hb
    · exact ha'
    · obtain ⟨h1, h2⟩ := List.mem_filter.1 hb
      simp only [decide_eq_true_eq] at h2
      have hsb : lt s b.set ∨ (s = b.set ∧ t < b.time) := by
        rcases h.tri s b.set with h3 | h3 | h3
        · exact .inl h3
        · have h4 : ¬ b.time < t := fun e => h2.1 (.inr ⟨h3.symm, e⟩)
          have h5 : b.time ≠ t := fun e => h2.2 ⟨h3.symm, e⟩
          exact .inr ⟨h3, by omega⟩
        · exact absurd (.inl h3) h2.1
      rcases hsb with h3 | ⟨h3, h4⟩
      · rcases ha' with h5 | ⟨h5, h6⟩
        · exact .inl (h.trans h5 h3)
        · exact .inl (h5 ▸ h3)
      · rcases ha' with h5 | ⟨h5, h6⟩
        · exact .inl (h3 ▸ h5)
        · exact .inr ⟨h5.trans h3, by omega⟩
theorem putC_mem {l : List Ver} {v : Ver} (h : Chain l) (h0 : (putC l v).1 = 0) {y : Ver} : y ∈ (putC l v).2 ↔ y ∈ l ∨ y = v := by
  unfold putC at h0 ⊢
  by_cases h1 : ¬ verR v
  · rw [if_pos h1] at h0; cases h0
  rw [if_neg h1] at h0 ⊢
  by_cases h2 : has l v.at_ = true
  · rw [if_pos h2] at h0; cases h0
  rw [if_neg h2]
  simp only [List.mem_append, List.mem_cons]
  constructor
  · rintro (h3 | h3 | h3)
    · exact .inl (List.mem_of_mem_take h3)
    · exact .inr h3
    · exact .inl (List.mem_of_mem_drop h3)
  · rintro (h3 | h3)
    · rw [← List.take_append_drop (place l v.at_) l, List.mem_append] at h3
      rcases h3 with h3 | h3
      · exact .inl h3
      · exact .inr (.inr h3)
    · exact .inr (.inl h3)
theorem putC_err {l : List Ver} {v : Ver} (hv : verR v) : (putC l v).1 = 0 ↔ ∀ y ∈ l, y.at_ ≠ v.at_ := by
  unfold putC
  rw [if_neg (by simpa using hv)]
  by_cases h2 : has l v.at_ = true
  · rw [if_pos h2]
    simp only [has, List.any_eq_true, decide_eq_true_eq] at h2
    obtain ⟨y, hy, e⟩ := h2
    simp only
    constructor
    · intro h; cases h
    · intro h; exact absurd e (h y hy)
  · rw [if_neg h2]
    simp only [true_iff]
    intro y hy e
    exact h2 (by simp only [has, List.any_eq_true, decide_eq_true_eq]; exact ⟨y, hy, e⟩)
/-- a store that may be: rising, its chains chains that aren't empty -/
structure StoreOk (lt : σ → σ → Prop) (L : List (Item σ)) : Prop where
  rise : Rise lt L
  chain : ∀ x ∈ L, Chain x.l
  full : ∀ x ∈ L, x.l ≠ []
theorem at_chain [DecidableEq σ] {L : List (Item σ)} (hL : StoreOk lt L) (s : σ) (t : Int) : Chain (atL L s t) := by
  rcases atL_mem (L := L) (s := s) (t := t) with h | ⟨x, hx, -, -, e⟩
  · rw [h]; exact List.Pairwise.nil
  · rw [← e]; exact hL.chain x hx
theorem putL_ok [DecidableEq σ] [DecidableRel lt] (h : Line lt) {L : List (Item σ)} (hL : StoreOk lt L) (s : σ) (t : Int) (v : Ver) : StoreOk lt (putL lt L s t v).2 := by
  unfold putL
  by_cases h0 : (putC (atL L s t) v).1 ≠ 0
  · rw [if_pos h0]; exact hL
  rw [if_neg h0]
  have h0' : (putC (atL L s t) v).1 = 0 := by simpa using h0
  have hch := at_chain hL s t
  refine ⟨setL_rise h hL.rise _ _ _, fun x hx => ?_, fun x hx => ?_⟩
  · rcases (setL_mem h).1 hx with rfl | ⟨h1, -⟩
    · exact putC_chain hch h0'
    · exact hL.chain x h1
  · rcases (setL_mem h).1 hx with rfl | ⟨h1, -⟩
    · simp only
      intro e
      have := putC_len h0'
      rw [e] at this
      simp at this
    · exact hL.full x h1
theorem kept_mem {L : List (Item σ)} {z : σ × Int × Ver} : z ∈ keptL L ↔ ∃ x ∈ L, x.set = z.1 ∧ x.time = z.2.1 ∧ z.2.2 ∈ x.l := by
  unfold keptL
  rw [List.mem_flatMap]
  constructor
  · rintro ⟨x, hx, h⟩
    obtain ⟨v, hv, rfl⟩ := List.mem_map.1 h
    exact ⟨x, hx, rfl, rfl, hv⟩
  · rintro ⟨x, hx, h1, h2, h3⟩
    exact ⟨x, hx, List.mem_map.2 ⟨z.2.2, h3, by rw [h1, h2]⟩⟩
theorem at_kept [DecidableEq σ] [DecidableRel lt] (h : Line lt) {L : List (Item σ)} (hL : StoreOk lt L) {s : σ} {t : Int} {v : Ver} : v ∈ atL L s t ↔ (s, t, v) ∈ keptL L := by
  rw [kept_mem]
  constructor
  · intro hv
    rcases atL_mem (L := L) (s := s) (t := t) with e | ⟨x, hx, h1, h2, e⟩
    · rw [e] at hv; cases hv
    · exact ⟨x, hx, h1, h2, by rw [e]; exact hv⟩
  · rintro ⟨x, hx, h1, h2, h3⟩
    simp only at h1 h2 h3
    rw [← h1, ← h2, atL_of h hL.rise hx]
    exact h3
theorem putL_mem [DecidableEq σ] [DecidableRel lt] (h : Line lt) {L : List (Item σ)} (hL : StoreOk lt L) {s : σ} {t : Int} {v : Ver} (h0 : (putL lt L s t v).1 = 0) {z : σ × Int × Ver} : z ∈ keptL (putL lt L s t v).2 ↔ z ∈ keptL L ∨ z = (s, t, v) := by
  unfold putL at h0 ⊢
  by_cases h1 : (putC (atL L s t) v).1 ≠ 0
  · rw [if_pos h1] at h0; exact absurd h0 h1
  rw [if_neg h1]
  have h1' : (putC (atL L s t) v).1 = 0 := by simpa using h1
  have hch := at_chain hL s t
  rw [kept_mem]
  simp only
  constructor
  · rintro ⟨x, hx, e1, e2, hv⟩
    rcases (setL_mem h).1 hx with rfl | ⟨hx, hn⟩
    · simp only at e1 e2 hv
      rcases (putC_mem hch h1').1 hv with hv | hv
      · refine .inl ?_
        have := (at_kept h hL).1 hv
        rw [e1, e2] at this
        exact this
      · refine .inr ?_
        obtain ⟨a, b, c⟩ := z
        simp only at e1 e2 hv
        rw [e1, e2, hv]
    · exact .inl (kept_mem.2 ⟨x, hx, e1, e2, hv⟩)
  · rintro (hz | rfl)
    · by_cases hst : z.1 = s ∧ z.2.1 = t
      · refine ⟨_, (setL_mem h).2 (.inl rfl), hst.1.symm, hst.2.symm, (putC_mem hch h1').2 (.inl ((at_kept h hL).2 ?_))⟩
        rw [← hst.1, ← hst.2]
        exact hz
      · obtain ⟨x, hx, e1, e2, hv⟩ := kept_mem.1 hz
        exact ⟨x, (setL_mem h).2 (.inr ⟨hx, fun e => hst ⟨e1 ▸ e.1, e2 ▸ e.2⟩⟩), e1, e2, hv⟩
    · exact ⟨_, (setL_mem h).2 (.inl rfl), rfl, rfl, (putC_mem hch h1').2 (.inr rfl)⟩
theorem putL_err [DecidableEq σ] [DecidableRel lt] (h : Line lt) {L : List (Item σ)} (hL : StoreOk lt L) {s : σ} {t : Int} {v : Ver} (hv : verR v) : (putL lt L s t v).1 = 0 ↔ ∀ z ∈ keptL L, ¬ (z.1 = s ∧ z.2.1 = t ∧ z.2.2.at_ = v.at_) := by
  have key : (putL lt L s t v).1 = (putC (atL L s t) v).1 := by
    unfold putL
    split
    · rfl
    · rename_i h1; simp only; omega
  rw [key, putC_err hv]
  constructor
  · rintro hy ⟨a, b, c⟩ hz ⟨e1, e2, e3⟩
    simp only at e1 e2 e3
    subst e1 e2
    exact hy c ((at_kept h hL).2 hz) e3
  · intro hz y hy e
    exact hz _ ((at_kept h hL).1 hy) ⟨rfl, rfl, e⟩
/-- the points of a store rise -/
def PtLt (lt : σ → σ → Prop) (a b : σ × Int × Ver) : Prop := lt a.1 b.1 ∨ (a.1 = b.1 ∧ (a.2.1 < b.2.1 ∨ (a.2.1 = b.2.1 ∧ a.2.2.at_.lt b.2.2.at_)))
theorem kept_rise {L : List (Item σ)} (hL : StoreOk lt L) : (keptL L).Pairwise (PtLt lt) := by
  obtain ⟨hr, hc, -⟩ := hL
  induction L with
  | nil => exact List.Pairwise.nil
  | cons x L ih =>
    obtain ⟨h1, h2⟩ := List.pairwise_cons.1 hr
    unfold keptL at ih ⊢
    rw [List.flatMap_cons, List.pairwise_append]
    refine ⟨?_, ih h2 (fun y hy => hc y (by simp [hy])), ?_⟩
    · rw [List.pairwise_map]
      exact (hc x (by simp)).imp (fun h => .inr ⟨rfl, .inr ⟨rfl, h⟩⟩)
    · intro a ha b hb
      obtain ⟨v, -, rfl⟩ := List.mem_map.1 ha
      obtain ⟨y, hy, hb⟩ := List.mem_flatMap.1 hb
      obtain ⟨u, -, rfl⟩ := List.mem_map.1 hb
      rcases h1 y hy with h3 | ⟨h3, h4⟩
      · exact .inl h3
      · exact .inr ⟨h3, .inl h4⟩
theorem pt_irr (h : Line lt) (a : σ × Int × Ver) : ¬ PtLt lt a a := by
  rintro (h1 | ⟨-, h1 | ⟨-, h1⟩⟩)
  · exact h.irr _ h1
  · omega
  · exact Tm.irr _ h1
theorem pt_trans (h : Line lt) {a b c : σ × Int × Ver} (h1 : PtLt lt a b) (h2 : PtLt lt b c) : PtLt lt a c := by
  rcases h1 with h1 | ⟨e1, h1⟩
  · rcases h2 with h2 | ⟨e2, -⟩
    · exact .inl (h.trans h1 h2)
    · exact .inl (e2 ▸ h1)
  · rcases h2 with h2 | ⟨e2, h2⟩
    · exact .inl (e1 ▸ h2)
    · refine .inr ⟨e1.trans e2, ?_⟩
      rcases h1 with h1 | ⟨f1, h1⟩
      · rcases h2 with h2 | ⟨f2, -⟩
        · exact .inl (by omega)
        · exact .inl (by omega)
      · rcases h2 with h2 | ⟨f2, h2⟩
        · exact .inl (by omega)
        · exact .inr ⟨by omega, Tm.trans h1 h2⟩
/-- stores of the same points tell the same points -/
theorem kept_ext [DecidableEq σ] [DecidableRel lt] (h : Line lt) {A B : List (Item σ)} (hA : StoreOk lt A) (hB : StoreOk lt B) (hm : ∀ z, z ∈ keptL A ↔ z ∈ keptL B) : keptL A = keptL B := by
  refine @rise_ext (σ × Int × Ver) (PtLt lt) (fun a => pt_irr h a) ?_ _ _ (kept_rise hA) (kept_rise hB) hm
  intro a b c h1 h2
  exact pt_trans h h1 h2
end
end Go.Sx
