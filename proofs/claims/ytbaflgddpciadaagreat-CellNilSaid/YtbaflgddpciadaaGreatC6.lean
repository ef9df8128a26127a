/- CellNil: for every input the law returns true and leaves its arguments as they were, out of the contract of its Go function. -/
import Derived.Test.YtbaflgddpciadaaGreatRows
import Derived.Test.YtbaflgddpciadaaGreatEX
import Derived.Test.YtbaflgddpciadaaGreatKtU
set_option linter.unusedVariables false
set_option linter.unusedSimpArgs false
namespace Go.Proofs.YtbaflgddpciadaaGreat.cellNil
open Go.ChangeShapes Go.WideShapes Go.ChangeAt Go.RowKit Go.Kt Go.Proofs.YtbaflgddpciadaaGreat
set_option linter.unusedVariables false
theorem own : ownKnob Tryz.prog.godebug = none := by kernel_rfl
theorem laidOut : laidOutB Tryz.prog = true := by kernel_rfl
set_option maxRecDepth 100000 in
theorem readable : (Tryz.f12.params.toList.all fun t => Tryz.prog.readableRec t && decide (t < Tryz.prog.types.size)) = true := by kernel_rfl
set_option maxRecDepth 100000 in
theorem contract (H : Type) (enc : TypeId × Value → H) (W : World) (base : Nat) (args : Array Value) (ds gs : List (DataW H)) (before : List MemPlace)
    (hval : ∀ (j : Nat) t v, Tryz.f12.params[j]? = some t → args[j]? = some v → Value.okWide Tryz.prog W .any base t v)
    (hW : DataW.Whole enc Tryz.prog Tryz.f12.params.toList Rows.cellNilSpec.vars false W args.toList ds gs before) (hsz0 : (DataW.weightsEach Tryz.prog (Tryz.f12.params.toList ++ Rows.cellNilSpec.plain.varTypes Tryz.prog) (ds ++ gs)).all (· ≤ reachBytes) = true) (hsh : W.ShapedOpen Tryz.prog) :
    Calls Tryz.prog 12 args W fun e W' => ∃ v, e = .returned v ∧ Rows.cellNilSpec.post enc Tryz.prog Tryz.f12 false true false false W args v W' := by
  have hW' := hW
  obtain ⟨p, q, hA0, hV, rfl, hfz, hnd⟩ := hW
  have hA : DataW.TrodAll enc Tryz.prog W 0 (fun _ => true) true Tryz.f12.params.toList args.toList ds p := hA0
  rw [Tryz.params12] at hA hval
  rw [Tryz.params12] at hsz0
  obtain ⟨v0, vs0, d0, ds0, p0, q0, hargs, rfl, rfl, h0, r0⟩ := trodAll_cons hA
  obtain ⟨v1, vs1, d1, ds1, p1, q1, rfl, rfl, rfl, h1, r1⟩ := trodAll_cons r0
  obtain ⟨v2, vs2, d2, ds2, p2, q2, rfl, rfl, rfl, h2, r2⟩ := trodAll_cons r1
  obtain ⟨rfl, rfl, rfl⟩ := trodAll_nil r2
  obtain rfl : args = #[v0, v1, v2] := by cases args; simp_all
  obtain ⟨rfl, rfl⟩ := trodVars_none hV
  obtain ⟨o0, rfl, rd0⟩ := open_cmdv (hval 0 42 v0 rfl rfl) h0 (small_of hsz0 (j := 0) rfl rfl)
  obtain ⟨op1, fr1, to1, st1, no1, rv1, l1, rfl, rd1, n1⟩ := open_query (hval 1 101 v1 rfl rfl) h1 (small_of hsz0 (j := 1) rfl rfl)
  obtain ⟨t2, rfl⟩ := open_stv (hval 2 26 v2 rfl rfl) h2
  refine (nil_any o0 op1 fr1 to1 st1 no1 rv1 l1 t2 W rd0 rd1 n1 (glob_of hsh)).mono fun e W' ⟨he, hb⟩ => ?_
  subst he
  exact ⟨_, rfl, law_post laidOut readable rfl rfl Tryz.underlying4 rfl hW' hb⟩
set_option maxRecDepth 100000 in
theorem lifted (os : Os) (started : os.Started) (H : Type) (enc : TypeId × Value → H) :
    ReturnsInHanded {} Tryz.checked os 12 .any (Rows.cellNilSpec.pre6 enc Tryz.prog Tryz.f12 Rows.cellNilRow.domain false) (Rows.cellNilSpec.post enc Tryz.prog Tryz.f12 false true false false) := by
  refine returnsInHanded_of_change_shaped (C := Tryz.checked) own started (by kernel_rfl) Tryz.func12
    (ChangeSpec.witness6 (enc := enc) (C := Tryz.checked) false ⟨#[], #[.agg #[.int .i64 0, .int .u32 0, .int .i64 0, .int .u32 0, .int .u32 0, .bool false, .string ⟨#[]⟩, .int .i64 0, .int .i64 0, .slice none 0 0], .agg #[.int .i64 0, .slice none 0 0, .int .i64 0, .int .i64 0, .int .i64 0, .bool false], .agg #[.int .i64 0, .int .u32 0, .int .u32 0]], []⟩ 8 (by kernel_rfl) (by kernel_rfl) (by kernel_rfl) (by kernel_rfl)) ?_
  intro W base args ds gs before hval hW _ hsz hsh _
  exact contract H enc W base args ds gs before hval hW hsz hsh
set_option maxRecDepth 100000 in
theorem j1 : (Rows.cellNilRow.inPlace == Tryz.pinned.checked.prog.inPlace 12) = true := by kernel_rfl
set_option maxRecDepth 100000 in
theorem j2 : (Rows.cellNilRow.unfollowed == Tryz.pinned.checked.prog.unfollowed 12) = true := by kernel_rfl
set_option maxRecDepth 100000 in
theorem j3 : (Rows.cellNilRow.recurses == Tryz.pinned.checked.prog.recurses 12) = true := by kernel_rfl
set_option maxRecDepth 100000 in
theorem j4 : (Rows.cellNilRow.named == Tryz.pinned.checked.prog.varsNamed 12) = true := by kernel_rfl
set_option maxRecDepth 100000 in
theorem closed : joinedFacts Tryz.pinned.checked.prog 12 Tryz.f12 Rows.cellNilSpec Rows.cellNilRow = true := by
  unfold joinedFacts
  rw [j1, j2, j3, j4]
  kernel_rfl
theorem proved : Rows.CellNilSaid :=
  OpenClaim.holds_of_wide 12 Tryz.f12 rfl rfl rfl rfl rfl rfl rfl ⟨rfl, rfl, rfl, rfl, rfl⟩ rfl rfl rfl rfl rfl (by kernel_rfl) Tryz.func12 closed
    (of_decide_eq_true (by kernel_rfl)) (by unfold Func.isWrapper; first | (rw [if_pos (by decide +kernel)]; kernel_rfl) | (rw [if_neg (by decide +kernel)]; exact ⟨rfl, rfl⟩))
    (fun os started H enc _ => lifted os started H enc)
end Go.Proofs.YtbaflgddpciadaaGreat.cellNil
