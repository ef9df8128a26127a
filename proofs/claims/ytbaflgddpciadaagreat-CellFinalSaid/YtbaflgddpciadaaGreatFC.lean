/- CellFinal: what the law keeps; its asks read. -/
import Derived.Test.YtbaflgddpciadaaGreatSZ
import Derived.Test.YtbaflgddpciadaaGreatPW
import Derived.Test.YtbaflgddpciadaaGreatEQ
set_option linter.unusedVariables false
set_option linter.unusedSimpArgs false
namespace Go.Proofs.YtbaflgddpciadaaGreat
open Go.RowKit Go.Kt Go.Ix Go.Sx Go.Cx Go.ChangeShapes Go.WideShapes
set_option maxRecDepth 100000
section
theorem told_right {F : Nat → Prop} {w : World} {s N : Nat} {L : List It} (h : St F w s L N) {Q : List Pn} {p : List Pr → Bool} {a b : Int} {u : Tm} (hq : Q.map Pn.told = scanL L p a b u) : Q.length ≤ 65536 ∧ ∀ q ∈ Q, q.st.length ≤ 16 := by
  obtain ⟨om, S, h⟩ := h
  constructor
  · have := congrArg List.length hq
    rw [List.length_map] at this
    rw [this]
    exact scan_bound h (List.Sublist.refl _) _ _ _ _
  · intro q hm
    have h1 : q.told ∈ scanL L p a b u := by rw [← hq]; exact List.mem_map_of_mem hm
    unfold scanL at h1
    obtain ⟨x, hx, h2⟩ := List.mem_filterMap.1 h1
    have hr := (right_sets h x hx).1
    split at h2
    · unfold tell at h2
      split at h2
      · rw [Option.map_eq_some_iff] at h2
        obtain ⟨v, _, e⟩ := h2
        have e1 := congrArg Prod.fst e
        have : x.set = q.st := e1
        rw [← this]; exact hr
      · cases h2
    · cases h2
variable {S : Nat → Prop} {w w' wr : World} {c N k : Nat} {C : Cl}
theorem cel_told (h : Cel S w c C N) {Q : List Pn} {p : List Pr → Bool} {a b : Int} {u : Tm} (hq : Q.map Pn.told = scanL C.M p a b u) : Q.length ≤ 65536 ∧ ∀ q ∈ Q, q.st.length ≤ 16 := by
  obtain ⟨p', F, hp, -⟩ := h.at_
  exact told_right hp.st hq
/-- a read that was answered, as the law keeps it -/
structure Ss where
  sn : Sn
  rules : List Rl
  rv : Value
  pv : Value
  P : List Pn
def scells (s : Ss) : List Value := [s.rv, .int .i64 s.sn.fr, .int .i64 s.sn.to_, .int .i64 s.sn.at_.wall, .int .u32 s.sn.at_.tick, .int .u32 s.sn.at_.mark, s.pv]
def flatS : List Ss → List Value
  | [] => []
  | x :: t => scells x ++ flatS t
theorem flatS_append (A B : List Ss) : flatS (A ++ B) = flatS A ++ flatS B := by
  induction A with
  | nil => rfl
  | cons x t ih => simp only [List.cons_append, flatS, ih, List.append_assoc]
theorem flatS_get (T : List Ss) : ∀ (i : Nat) (x : Ss), T[i]? = some x → ∀ j, j < 7 → (flatS T)[i * 7 + j]? = (scells x)[j]? := by
  induction T with
  | nil => intro i x h; simp at h
  | cons y t ih =>
    intro i x h j hj
    have hl : (scells y).length = 7 := rfl
    match i with
    | 0 =>
      simp at h; subst h
      rw [flatS, Nat.zero_mul, Nat.zero_add, List.getElem?_append_left (by omega)]
    | i + 1 =>
      simp only [List.getElem?_cons_succ] at h
      have := ih i x h j hj
      rw [flatS, List.getElem?_append_right (by omega), hl, show (i + 1) * 7 + j - 7 = i * 7 + j by omega]
      exact this
structure Seen (w wr : World) (S : Nat → Prop) (s : Ss) : Prop where
  rd : RdR w s.rv s.rules
  len : s.rules.length ≤ 3518437208883
  fit : FitR s.rules
  ok : s.sn.ok = true ↔ RightR s.rules
  p : s.sn.p = fun d => allB s.rules d
  own : Kt.Own 170 8 wr s.pv s.P.length (flatN s.P)
  sets : ∀ q ∈ s.P, OwnP 219 wr q.sv q.st
  told : s.P.map Pn.told = s.sn.pts
  far : (∀ b, s.pv.ownBlock = some b → ¬ S b) ∧ ∀ q ∈ s.P, ∀ b, q.sv.ownBlock = some b → ¬ S b
theorem Seen.next {s : Ss} (h : Seen w wr S s) (hb : Below wr.heap.size wr w') : Seen w w' S s := ⟨h.rd, h.len, h.fit, h.ok, h.p, h.own.below' hb, fun q hq => (h.sets q hq).below hb, h.told, h.far⟩
theorem Seen.rdn {s : Ss} (h : Seen w wr S s) : RdN wr s.pv s.P := ⟨h.own.rd, fun q hq => (h.sets q hq).rd⟩
theorem Seen.turn {s : Ss} {S' : Nat → Prop} (h : Seen w wr S s) (hS : ∀ x, S' x → S x ∨ wr.heap.size ≤ x) (ht : Turn S wr w') : Seen w w' S' s := by
  refine ⟨h.rd, h.len, h.fit, h.ok, h.p, own_keep ht h.own (fun b e hs => h.far.1 b e hs), fun q hq => own_keep ht (h.sets q hq) (fun b e hs => h.far.2 q hq b e hs), h.told, fun b e hs => ?_, fun q hq b e hs => ?_⟩
  · rcases hS b hs with h1 | h1
    · exact h.far.1 b e h1
    · have := h.own.lt b e; omega
  · rcases hS b hs with h1 | h1
    · exact h.far.2 q hq b e h1
    · have := (h.sets q hq).lt b e; omega
/-- between two steps -/
structure Rf (w wr : World) (S : Nat → Prop) (c : Nat) (C : Cl) (k g : Nat) (most fm : Tm) (v : Value) (A : List Ss) : Prop where
  rn : Rn w wr S c C k
  blk : Blk wr g #[.int .i64 most.wall, .int .u32 most.tick, .int .u32 most.mark] 44
  row : Kt.Own 73 7 wr v A.length (flatS A)
  far : ¬ S g ∧ w.heap.size ≤ g
  vfar : ∀ b, v.ownBlock = some b → ¬ S b ∧ w.heap.size ≤ b
  fin : Go.Cx.Fin C fm (A.map Ss.sn)
  seen : ∀ s ∈ A, Seen w wr S s
variable {g : Nat} {most fm : Tm} {v : Value} {A : List Ss}
theorem Rf.next (h : Rf w wr S c C k g most fm v A) (hb : Below wr.heap.size wr w') : Rf w w' S c C k g most fm v A :=
  ⟨h.rn.next hb, h.blk.next hb, h.row.below' hb, h.far, h.vfar, h.fin, fun s hs => (h.seen s hs).next hb⟩
/-- a command was done -/
theorem Rf.done {W W' : World} {S' : Nat → Prop} (h : Rf w wr S c C k g most fm v A) (hb : Below wr.heap.size wr W) {m : Cmd} (hm : CmdOk m) (hc : Cel S' W' c (doC C m).2 (64 * k + 64)) (hS : ∀ x, S' x → S x ∨ W.heap.size ≤ x) (ht : Turn S W W') : Rf w W' S' c (doC C m).2 (k + 1) g most fm v A := by
  have hW := h.next hb
  refine ⟨h.rn.done hb hc hS ht, blk_keep ht hW.blk h.far.1, own_keep ht hW.row (fun b e hs => (h.vfar b e).1 hs), ⟨fun e => ?_, h.far.2⟩, fun b e => ⟨fun hs => ?_, (h.vfar b e).2⟩, (fin_do h.rn.cel.inv h.fin m hm).1, fun s hs => (hW.seen s hs).turn hS ht⟩
  · rcases hS g e with h1 | h1
    · exact h.far.1 h1
    · have := hW.blk.lt; omega
  · rcases hS b hs with h1 | h1
    · exact (h.vfar b e).1 h1
    · have := hW.row.lt b e; omega
/-- the points that were read are kept in new memory -/
theorem seen_new {w0 W0 : World} (h : Cel S W0 c C N) (hb : Below W0.heap.size W0 w0) {rules : List Rl} {rv : Value} (hr : RdR w rv rules) (hl : rules.length ≤ 3518437208883) (hf : FitR rules) {ok : Bool} (hok : ok = true ↔ RightR rules) {fr to_ : Int} {t : Tm} {pv : Value} {P : List Pn} (hp : Pts 170 219 w0 w' pv P) :
    Seen w w' S ⟨⟨ok, fun d => allB rules d, fr, to_, t, P.map Pn.told⟩, rules, rv, pv, P⟩ :=
  ⟨hr, hl, hf, hok, rfl, hp.row.1, fun q hq => (hp.sets q hq).1, rfl, fun b e hs => by have h1 := h.lt b hs; have h2 := hp.row.2.1 b e; have := hb.size; omega, fun q hq b e hs => by have h1 := h.lt b hs; have h2 := (hp.sets q hq).2 b e; have := hb.size; omega⟩
theorem okS : ElemOk Tryz.prog 69 73 (.agg #[.slice none 0 0, .int .i64 0, .int .i64 0, .int .i64 0, .int .u32 0, .int .u32 0, .slice none 0 0]) 7 80 := ⟨Tryz.underlying69, info_parts (by kernel_rfl), rfl, by decide⟩
theorem s7_one (u : Value) (b c d e f : Int) (v : Value) (hu : u.oneCell' = true) (h : v.oneCell' = true) : ∀ x ∈ (#[u, .int .i64 b, .int .i64 c, .int .i64 d, .int .u32 e, .int .u32 f, v] : Array Value).toList, x.oneCell' = true := by
  intro x hx
  simp only [List.mem_cons, List.not_mem_nil, or_false] at hx
  rcases hx with rfl | rfl | rfl | rfl | rfl | rfl | rfl
  all_goals first | exact h | exact hu | rfl
/-- a read is noted -/
theorem Rf.push {W w7 : World} {v7 : Value} {s : Ss} (h : Rf w wr S c C k g most fm v A) (hb : Below wr.heap.size wr W) (hs : Seen w W S s)
    (ho7 : Kt.Own 73 7 w7 v7 (A.length + 1) (flatS A ++ scells s)) (hg7 : W.grownBy w7 v.ownBlock) (hn7 : ∀ c, v7.ownBlock = some c → v.ownBlock = some c ∨ W.heap.size ≤ c)
    {fm' : Tm} (hf : Go.Cx.Fin C fm' ((A ++ [s]).map Ss.sn)) : Rf w w7 S c C k g most fm' v7 (A ++ [s]) := by
  have hW := h.next hb
  have hsz : w.heap.size ≤ W.heap.size := hW.rn.bel.size
  have ht : Turn (fun x => v.ownBlock = some x) W w7 := Turn.grown (F := fun x => v.ownBlock = some x) hg7 (fun b e => e)
  have key : ∀ {s : Ss}, Seen w W S s → Seen w w7 S s := fun hs => ⟨hs.rd, hs.len, hs.fit, hs.ok, hs.p, Own.grown hs.own hg7 (fun c hc e => own_apart hs.own hW.row (by decide) c hc e), fun q hq => Own.grown (hs.sets q hq) hg7 (fun c hc e => own_apart (hs.sets q hq) hW.row (by decide) c hc e), hs.told, hs.far⟩
  refine ⟨⟨hW.rn.cel.keep ht (fun x hx => (h.vfar x hx).1), h.rn.ticks, h.rn.ge, hW.rn.bel.grown hg7 hsz (fun b e => (h.vfar b e).2)⟩, hW.blk.grown hg7 (own_no_blk hW.row hW.blk (by decide)), ?_, h.far, fun b e => ?_, hf, fun x hx => ?_⟩
  · rw [flatS_append, List.length_append]
    exact cast (congrArg _ (by simp [flatS])) ho7
  · rcases hn7 b e with h1 | h1
    · exact h.vfar b h1
    · exact ⟨fun hs => by have := hW.rn.cel.lt b hs; omega, by omega⟩
  · rcases List.mem_append.1 hx with hx | hx
    · exact key (hW.seen x hx)
    · rw [List.mem_singleton.1 hx]; exact key hs
/-- the most is set -/
theorem Rf.set (h : Rf w wr S c C k g most fm v A) : Rf w (((wr.setCell ⟨g, 0, none⟩ (.int .i64 fm.wall)).setCell ⟨g, 1, none⟩ (.int .u32 fm.tick)).setCell ⟨g, 2, none⟩ (.int .u32 fm.mark)) S c C k g fm fm v A := by
  have ht : Turn (fun x => x = g) wr (((wr.setCell ⟨g, 0, none⟩ (.int .i64 fm.wall)).setCell ⟨g, 1, none⟩ (.int .u32 fm.tick)).setCell ⟨g, 2, none⟩ (.int .u32 fm.mark)) :=
    (((Turn.refl (fun x => x = g) wr).set (a := ⟨g, 0, none⟩) rfl _).set (a := ⟨g, 1, none⟩) rfl _).set (a := ⟨g, 2, none⟩) rfl _
  have hB : ∀ b, (∃ (e : TypeId) (n : Nat) (size : Nat) (xs : List Value) (u : Value), Kt.Own e size wr u n xs ∧ u.ownBlock = some b ∧ e ≠ 44) → b ≠ g := by
    rintro b ⟨e, n, size, xs, u, ho, hb, hne⟩ rfl
    exact own_no_blk ho h.blk hne hb
  refine ⟨⟨h.rn.cel.keep ht (fun x hx => by rw [hx]; exact h.far.1), h.rn.ticks, h.rn.ge, bel_set (bel_set (bel_set h.rn.bel h.far.2) h.far.2) h.far.2⟩, ?_, own_keep ht h.row (fun b e hs => hB b ⟨_, _, _, _, _, h.row, e, by decide⟩ hs), h.far, h.vfar, h.fin, fun s hs => ?_⟩
  · have := ((h.blk.set 0 (.int .i64 fm.wall)).set 1 (.int .u32 fm.tick)).set 2 (.int .u32 fm.mark)
    simpa using this
  · have hs := h.seen s hs
    exact ⟨hs.rd, hs.len, hs.fit, hs.ok, hs.p, own_keep ht hs.own (fun b e hx => hB b ⟨_, _, _, _, _, hs.own, e, by decide⟩ hx), fun q hq => own_keep ht (hs.sets q hq) (fun b e hx => hB b ⟨_, _, _, _, _, hs.sets q hq, e, by decide⟩ hx), hs.told, hs.far⟩
end
/-! ### the asks -/
structure Ak where
  behind : Int
  rules : List Rl
  rv : Value
  fr : Int
  to_ : Int
  at_ : Tm
def acells (a : Ak) : List Value := [.int .i64 a.behind, a.rv, .int .i64 a.fr, .int .i64 a.to_, .int .i64 a.at_.wall, .int .u32 a.at_.tick, .int .u32 a.at_.mark]
def flatA : List Ak → List Value
  | [] => []
  | x :: t => acells x ++ flatA t
theorem flatA_get (T : List Ak) : ∀ (i : Nat) (x : Ak), T[i]? = some x → ∀ j, j < 7 → (flatA T)[i * 7 + j]? = (acells x)[j]? := by
  induction T with
  | nil => intro i x h; simp at h
  | cons y t ih =>
    intro i x h j hj
    have hl : (acells y).length = 7 := rfl
    match i with
    | 0 =>
      simp at h; subst h
      rw [flatA, Nat.zero_mul, Nat.zero_add, List.getElem?_append_left (by omega)]
    | i + 1 =>
      simp only [List.getElem?_cons_succ] at h
      have := ih i x h j hj
      rw [flatA, List.getElem?_append_right (by omega), hl, show (i + 1) * 7 + j - 7 = i * 7 + j by omega]
      exact this
structure AkR (w : World) (a : Ak) : Prop where
  rd : RdR w a.rv a.rules
  len : a.rules.length ≤ 3518437208883
  fit : FitR a.rules
def RdA (w : World) (v : Value) (L : List Ak) : Prop := RdRow 7 w v L.length (flatA L) ∧ ∀ a ∈ L, AkR w a
theorem RdA.open {w : World} {v : Value} {L : List Ak} (h : RdA w v L) : ∃ a cap, v = .slice a L.length cap ∧ L.length ≤ cap ∧ cap ≤ 9223372036854775807 ∧
    ∀ (i : Nat) (x : Ak), L[i]? = some x → AkR w x ∧ ∃ b o, a = some ⟨b, o, none⟩ ∧ b < w.heap.size ∧ w.cell? ⟨b, o + i * 7, none⟩ = some (.int .i64 x.behind) ∧ w.cell? ⟨b, o + i * 7 + 1, none⟩ = some x.rv ∧ w.cell? ⟨b, o + i * 7 + 2, none⟩ = some (.int .i64 x.fr) ∧ w.cell? ⟨b, o + i * 7 + 3, none⟩ = some (.int .i64 x.to_) ∧
      w.cell? ⟨b, o + i * 7 + 4, none⟩ = some (.int .i64 x.at_.wall) ∧ w.cell? ⟨b, o + i * 7 + 5, none⟩ = some (.int .u32 x.at_.tick) ∧ w.cell? ⟨b, o + i * 7 + 6, none⟩ = some (.int .u32 x.at_.mark) := by
  obtain ⟨⟨_, a, cap, rfl, h1, h2, _, h5⟩, h6⟩ := h
  refine ⟨a, cap, rfl, h1, h2, fun i x hi => ⟨h6 x (List.mem_of_getElem? hi), ?_⟩⟩
  have hget := flatA_get L i x hi
  obtain ⟨b, o, rfl, hc⟩ := h5 _ _ (hget 0 (by omega))
  have key : ∀ j u, j < 7 → (acells x)[j]? = some u → w.cell? ⟨b, o + i * 7 + j, none⟩ = some u := by
    intro j u hj hu
    obtain ⟨b', o', e, hc'⟩ := h5 _ _ ((hget j hj).trans hu)
    cases e
    rw [Nat.add_assoc]; exact hc'
  exact ⟨b, o, rfl, World.block_lt_of_cell? w _ hc, key 0 _ (by omega) rfl, key 1 _ (by omega) rfl, key 2 _ (by omega) rfl, key 3 _ (by omega) rfl, key 4 _ (by omega) rfl, key 5 _ (by omega) rfl, key 6 _ (by omega) rfl⟩
section
variable {H : Type} {enc : TypeId × Value → H}
theorem xopen_rule1 {w : World} {n : Nat} {c : List Value} {y : DataW H × List MemPlace} (h : DataW.trod enc Tryz.prog w 0 (fun _ => true) true n 163 c = some y) :
    ∃ r : Rl, c = [.string r.n, .int .i64 r.op, .string r.v] ∧ r.n.size ≤ maxLen ∧ r.v.size ≤ maxLen := by
  obtain ⟨y0, y1, y2, m, -, hl, h0, h1, h2⟩ := Deep.trod_struct3 Tryz.underlying163 h
  rw [cells163] at hl
  match c, hl with
  | [c0, c1, c2], _ =>
    simp only [cells9, cells3] at h0 h1 h2
    have h0' : DataW.trod enc Tryz.prog w 0 (fun _ => true) true m 9 [c0] = some y0 := h0
    have h1' : DataW.trod enc Tryz.prog w 0 (fun _ => true) true m 3 [c1] = some y1 := h1
    have h2' : DataW.trod enc Tryz.prog w 0 (fun _ => true) true m 9 [c2] = some y2 := h2
    obtain ⟨k0, e0, -, g0⟩ := DataW.trod_string Tryz.underlying9 h0'
    obtain ⟨k1, e1, -, -⟩ := DataW.trod_int Tryz.underlying3 h1'
    obtain ⟨k2, e2, -, g2⟩ := DataW.trod_string Tryz.underlying9 h2'
    cases e0
    cases e1
    cases e2
    exact ⟨⟨k0, k1, k2⟩, rfl, g0, g2⟩
theorem xopen_rule_list {w : World} : ∀ (css : List (List Value)) (xs : List (DataW H × List MemPlace)), xs.length = css.length →
    (∀ (i : Nat) (c : List Value) (y : DataW H × List MemPlace), css[i]? = some c → xs[i]? = some y → ∃ n, DataW.trod enc Tryz.prog w 0 (fun _ => true) true n 163 c = some y) →
    ∃ T : List Rl, T.length = css.length ∧ css.flatten = flatR T ∧ FitR T
  | [], _, _, _ => ⟨[], rfl, rfl, fun r hr => by cases hr⟩
  | c :: css, [], h, _ => by simp at h
  | c :: css, y :: xs, h, hall => by
    obtain ⟨T, h1, h2, h3⟩ := xopen_rule_list css xs (by simpa using h) (fun i c y hc hy => hall (i + 1) c y (by simpa using hc) (by simpa using hy))
    obtain ⟨n, hn⟩ := hall 0 c y rfl rfl
    obtain ⟨p, hx, hp⟩ := xopen_rule1 hn
    exact ⟨p :: T, by simp [h1], by rw [List.flatten_cons, h2, hx]; rfl, fun r hr => by
      rcases List.mem_cons.1 hr with rfl | hr
      · exact hp
      · exact h3 r hr⟩
theorem xopen_rules {w : World} {fuel : Nat} {c : Value} {y : DataW H × List MemPlace} (hf : DataW.trod enc Tryz.prog w 0 (fun _ => true) true fuel 23 [c] = some y) (hs : Small 23 y.1) : ∃ l : List Rl, RdR w c l ∧ l.length ≤ 3518437208883 ∧ FitR l := by
  obtain ⟨v, css, xs, hv, hrow, hcs, hlen, hall, hd⟩ := open_row Tryz.underlying23 (by rw [cells163]; omega) hf
  injection hv with hv
  subst hv
  rw [cells163] at hcs hrow
  obtain ⟨T, h1, h2, h3⟩ := xopen_rule_list css xs hlen hall
  rw [← h1, h2] at hrow
  refine ⟨T, hrow, ?_, h3⟩
  rcases hd with ⟨_, e⟩ | ⟨spare, e⟩
  · rw [e] at h1
    rw [List.eq_nil_of_length_eq_zero h1]
    exact Nat.zero_le _
  · rw [e] at hs
    have := small_len Tryz.underlying23 hs
    rw [bytes163, List.length_map] at this
    unfold reachBytes at this
    omega
theorem cells71 : Tryz.prog.cellsOf 71 = 7 := by kernel_rfl
theorem open_ask1 {w : World} {n : Nat} {c : List Value} {y : DataW H × List MemPlace} (h : DataW.trod enc Tryz.prog w 0 (fun _ => true) true n 71 c = some y) (hs : Small 71 y.1) :
    ∃ a : Ak, c = acells a ∧ AkR w a := by
  obtain ⟨y0, y1, y2, y3, y4, k, hy, hl, h0, h1, h2, h3, h4⟩ := trod_struct5 Tryz.underlying71 h
  rw [hy] at hs
  have hs1 : Small 23 y1.1 := small_field Tryz.underlying71 hs (j := 1) rfl rfl
  rw [cells71] at hl
  match c, hl with
  | [c0, c1, c2, c3, c4, c5, c6], _ =>
    simp only [cells3, cells23, cells2, cells26] at h0 h1 h2 h3 h4
    have h0' : DataW.trod enc Tryz.prog w 0 (fun _ => true) true k 3 [c0] = some y0 := h0
    have h1' : DataW.trod enc Tryz.prog w 0 (fun _ => true) true k 23 [c1] = some y1 := h1
    have h2' : DataW.trod enc Tryz.prog w 0 (fun _ => true) true k 2 [c2] = some y2 := h2
    have h3' : DataW.trod enc Tryz.prog w 0 (fun _ => true) true k 2 [c3] = some y3 := h3
    have h4' : DataW.trod enc Tryz.prog w 0 (fun _ => true) true k 26 [c4, c5, c6] = some y4 := h4
    obtain ⟨k0, e0, -, -⟩ := DataW.trod_int Tryz.underlying3 h0'
    obtain ⟨l, hr, hln, hfl⟩ := xopen_rules h1' hs1
    obtain ⟨k2, e2, -, -⟩ := DataW.trod_int Tryz.underlying2 h2'
    obtain ⟨k3, e3, -, -⟩ := DataW.trod_int Tryz.underlying2 h3'
    obtain ⟨t4, e4, -⟩ := open_st2 h4'
    cases e0
    cases e2
    cases e3
    cases e4
    exact ⟨⟨k0, l, c1, k2, k3, t4⟩, rfl, hr, hln, hfl⟩
theorem open_ask_list {w : World} : ∀ (css : List (List Value)) (xs : List (DataW H × List MemPlace)), xs.length = css.length →
    (∀ (i : Nat) (c : List Value) (y : DataW H × List MemPlace), css[i]? = some c → xs[i]? = some y → ∃ n, DataW.trod enc Tryz.prog w 0 (fun _ => true) true n 71 c = some y) → (∀ y ∈ xs, Small 71 y.1) →
    ∃ T : List Ak, T.length = css.length ∧ css.flatten = flatA T ∧ ∀ o ∈ T, AkR w o
  | [], _, _, _, _ => ⟨[], rfl, rfl, by simp⟩
  | c :: css, [], h, _, _ => by simp at h
  | c :: css, y :: xs, h, hall, hsm => by
    obtain ⟨T, h1, h2, h3⟩ := open_ask_list css xs (by simpa using h) (fun i c y hc hy => hall (i + 1) c y (by simpa using hc) (by simpa using hy)) (fun y hy => hsm y (by simp [hy]))
    obtain ⟨n, hn⟩ := hall 0 c y rfl rfl
    obtain ⟨o, hx, hok⟩ := open_ask1 hn (hsm y (by simp))
    refine ⟨o :: T, by simp [h1], by rw [List.flatten_cons, h2, hx]; rfl, fun z hz => ?_⟩
    rcases List.mem_cons.1 hz with rfl | hz
    · exact hok
    · exact h3 z hz
theorem open_asks {w : World} {base : Nat} {v : Value} {d : DataW H} {ps : List MemPlace} (hval : Value.okWide Tryz.prog w .any base 68 v) (h : DataW.Trod enc Tryz.prog w 0 (fun _ => true) true 68 v d ps) (hs : Small 68 d) :
    ∃ l : List Ak, RdA w v l := by
  obtain ⟨a0, len0, cap0, rfl⟩ := okWide_slice Tryz.underlying68 hval
  obtain ⟨fuel, hf⟩ := h
  obtain ⟨v, css, xs, hv, hrow, hcs, hlen, hall, hd⟩ := open_row Tryz.underlying68 (by rw [cells71]; omega) hf
  simp [Value.cells] at hv
  subst hv
  have hsm : ∀ y ∈ xs, Small 71 y.1 := fun y hy => by
    rcases hd with ⟨_, e⟩ | ⟨spare, e⟩
    · rw [e] at hlen
      rw [List.eq_nil_of_length_eq_zero hlen] at hy
      cases hy
    · have e' : d = .slice (xs.map (·.1)) spare := e
      rw [e'] at hs
      exact small_elem Tryz.underlying68 hs (List.mem_map.2 ⟨y, hy, rfl⟩)
  obtain ⟨T, h1, h2, h3⟩ := open_ask_list css xs hlen hall hsm
  rw [cells71, ← h1, h2] at hrow
  exact ⟨T, hrow, h3⟩
end
end Go.Proofs.YtbaflgddpciadaaGreat
