/-
  The law WholeEntries: its row.
-/
import Derived.OpenShut
import Derived.Test.YtflgfbffglmmeaaEntriesLaw
import Derived.Test.YtflgfbffglmmeaaOpenVal
namespace Go.Proofs.Ytflgfbffglmmeaa
open Go.ChangeShapes Go.WideShapes Go.ChangeAt Go.RowKit Go.Deep
set_option linter.unusedVariables false
set_option linter.unusedSimpArgs false
set_option maxRecDepth 100000 in
theorem entries_lifted (os : Os) (started : os.Started) (H : Type) (enc : TypeId × Value → H) :
    ReturnsInHanded {} Try.checked os 6 .any (Rows.wholeEntriesSpec.pre6 enc Try.prog Try.f6 Rows.wholeEntriesRow.domain false) (Rows.wholeEntriesSpec.post enc Try.prog Try.f6 false true false false) := by
  refine returnsInHanded_of_change_sized (C := Try.checked) own started (by kernel_rfl) Try.func6
    (ChangeSpec.witness6 (enc := enc) (C := Try.checked) false ⟨#[], #[.agg #[.string ⟨#[]⟩, .string ⟨#[]⟩], .agg #[.int .i64 0, .int .i64 0, .int .i64 0, .int .i64 0, .slice none 0 0, .int .i64 0, .int .i64 0], .agg #[.int .i64 0, .int .i64 0, .int .i64 0, .int .i64 0, .slice none 0 0, .int .i64 0, .int .i64 0]], []⟩ 8 (by kernel_rfl) (by kernel_rfl) (by kernel_rfl) (by kernel_rfl)) ?_
  intro W base args ds gs before hval0 hW hcnd hsz0 _
  have hval : ∀ (j : Nat) t v, Try.f6.params[j]? = some t → args[j]? = some v → Value.okWide Try.prog W .any base t v := hval0
  have hsz : (DataW.weightsEach Try.prog (Try.f6.params.toList ++ Rows.wholeEntriesSpec.plain.varTypes Try.prog) (ds ++ gs)).all (· ≤ reachBytes) = true := hsz0
  have hW' := hW
  obtain ⟨p, q, hA0, hV, rfl, hfz, hnd⟩ := hW
  have hA : DataW.TrodAll enc Try.prog W 0 (fun _ => true) true Try.f6.params.toList args.toList ds p := hA0
  rw [Try.params6] at hA hval hsz
  obtain ⟨v0, vs0, d0, ds0, p0, q0, hargs, rfl, rfl, h0, r0⟩ := trodAll_cons hA
  obtain ⟨v1, vs1, d1, ds1, p1, q1, rfl, rfl, rfl, h1, r1⟩ := trodAll_cons r0
  obtain ⟨v2, vs2, d2, ds2, p2, q2, rfl, rfl, rfl, h2, r2⟩ := trodAll_cons r1
  obtain ⟨rfl, rfl, rfl⟩ := trodAll_nil r2
  obtain rfl : args = #[v0, v1, v2] := by cases args; simp_all
  obtain ⟨rfl, rfl⟩ := trodVars_none hV
  have k0 := h0
  have k1 := h1
  have k2 := h2
  obtain ⟨c0, rfl⟩ := okWide_arr Try.underlying83 (hval 0 83 v0 rfl rfl)
  obtain ⟨c1, rfl, -⟩ := okWide_struct Try.underlying37 (hval 1 37 v1 rfl rfl)
  obtain ⟨c2, rfl, -⟩ := okWide_struct Try.underlying37 (hval 2 37 v2 rfl rfl)
  obtain ⟨ids, e0, a1, a2⟩ := arg_open hsz 0 rfl rfl h0 (opn_strs2' Try.underlying83 Try.underlying9 (by kernel_rfl) (by kernel_rfl))
  obtain ⟨x, e1, R1, z1⟩ := arg_open hsz 1 rfl rfl h1 opn_value
  obtain ⟨y, e2, R2, z2⟩ := arg_open hsz 2 rfl rfl h2 opn_value
  obtain rfl : c0 = #[.string (toS ids.1), .string (toS ids.2)] := Array.ext' e0
  obtain rfl : c1 = x.cells := Array.ext' e1
  obtain rfl : c2 = y.cells := Array.ext' e2
  refine (entries_calls ids.1 ids.2 x y a1 a2 z1 z2 R1 R2).mono fun en W' ⟨he, bel⟩ => ?_
  subst he
  exact ⟨_, rfl, _, _, _, [], _, [], hW', trodAll_mk1 (shut_bool Try.underlying4 _), (trodAll_cons_mk (Below.trod laid (by kernel_rfl) (of_decide_eq_true (by kernel_rfl)) k0 bel (arg_lt k0)) (trodAll_cons_mk (Below.trod laid (by kernel_rfl) (of_decide_eq_true (by kernel_rfl)) k1 bel (arg_lt k1)) (trodAll_cons_mk (Below.trod laid (by kernel_rfl) (of_decide_eq_true (by kernel_rfl)) k2 bel (arg_lt k2)) trodAll_mk0))), rfl, bel.frame _, fun h => by cases h⟩

theorem entries_over : Rows.wholeEntriesRow.holds Try.pinned (OpenSpec.ofChange Rows.wholeEntriesSpec) :=
  OpenClaim.holds_of_wide 6 Try.f6 rfl rfl rfl rfl rfl rfl rfl ⟨rfl, rfl, rfl, rfl, rfl⟩ rfl rfl rfl rfl rfl (by kernel_rfl) Try.func6 (by kernel_rfl)
    (of_decide_eq_true (by kernel_rfl)) (by unfold Func.isWrapper; first | (rw [if_pos (by decide +kernel)]; kernel_rfl) | (rw [if_neg (by decide +kernel)]; exact ⟨rfl, rfl⟩))
    (fun os started H enc _ => entries_lifted os started H enc)
theorem entries_proved : Rows.WholeEntriesSaid := entries_over
end Go.Proofs.Ytflgfbffglmmeaa
