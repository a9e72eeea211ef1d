/-
  The law WholeFields: its row.
-/
import Derived.OpenShut
import Derived.Test.YtflgfbffglmmeaaFieldsPure
namespace Go.Proofs.Ytflgfbffglmmeaa
open Go.ChangeShapes Go.WideShapes Go.ChangeAt Go.RowKit Go.Deep
set_option linter.unusedVariables false
set_option linter.unusedSimpArgs false

set_option maxRecDepth 100000 in
theorem fields_lifted (os : Os) (started : os.Started) (H : Type) (enc : TypeId × Value → H) :
    ReturnsInHanded {} Try.checked os 5 .any (Rows.wholeFieldsSpec.pre6 enc Try.prog Try.f5 Rows.wholeFieldsRow.domain false) (Rows.wholeFieldsSpec.post enc Try.prog Try.f5 false true false false) := by
  refine returnsInHanded_of_change_sized (C := Try.checked) own started (by kernel_rfl) Try.func5
    (ChangeSpec.witness6 (enc := enc) (C := Try.checked) false ⟨#[], #[.slice none 0 0, .slice none 0 0, .int .u16 0], []⟩ 8 (by kernel_rfl) (by kernel_rfl) (by kernel_rfl) (by kernel_rfl)) ?_
  intro W base args ds gs before hval0 hW hcnd hsz0 _
  have hval : ∀ (j : Nat) t v, Try.f5.params[j]? = some t → args[j]? = some v → Value.okWide Try.prog W .any base t v := hval0
  have hsz : (DataW.weightsEach Try.prog (Try.f5.params.toList ++ Rows.wholeFieldsSpec.plain.varTypes Try.prog) (ds ++ gs)).all (· ≤ reachBytes) = true := hsz0
  have hW' := hW
  obtain ⟨p, q, hA0, hV, rfl, hfz, hnd⟩ := hW
  have hA : DataW.TrodAll enc Try.prog W 0 (fun _ => true) true Try.f5.params.toList args.toList ds p := hA0
  rw [Try.params5] at hA hval hsz
  obtain ⟨v0, vs0, d0, ds0, p0, q0, hargs, rfl, rfl, h0, r0⟩ := trodAll_cons hA
  obtain ⟨v1, vs1, d1, ds1, p1, q1, rfl, rfl, rfl, h1, r1⟩ := trodAll_cons r0
  obtain ⟨v2, vs2, d2, ds2, p2, q2, rfl, rfl, rfl, h2, r2⟩ := trodAll_cons r1
  obtain ⟨rfl, rfl, rfl⟩ := trodAll_nil r2
  obtain rfl : args = #[v0, v1, v2] := by cases args; simp_all
  obtain ⟨rfl, rfl⟩ := trodVars_none hV
  have k0 := h0
  have k1 := h1
  have k2 := h2
  obtain ⟨a0, l0, c0, rfl⟩ := okWide_slice Try.underlying66 (hval 0 66 v0 rfl rfl)
  obtain ⟨a1, l1, c1, rfl⟩ := okWide_slice Try.underlying67 (hval 1 67 v1 rfl rfl)
  obtain ⟨x, rfl, rfl, rfl, wx⟩ := open_int Try.underlying68 (hval 2 68 v2 rfl rfl) h2
  obtain ⟨ns, A0, m0, e0, R0, L0⟩ := arg_open hsz 0 rfl rfl h0 (opn_slice (sz := 1) Try.underlying66 (by kernel_rfl) (by decide) (of_decide_eq_true (by kernel_rfl)) (opn_int Try.underlying3))
  obtain ⟨bs, A1, m1, e1, R1, L1⟩ := arg_open hsz 1 rfl rfl h1 (opn_slice (sz := 2) Try.underlying67 (by kernel_rfl) (by decide) (of_decide_eq_true (by kernel_rfl)) opn_blob)
  simp [Value.cells] at e0 e1
  obtain ⟨rfl, rfl, rfl⟩ := e0
  obtain ⟨rfl, rfl, rfl⟩ := e1
  obtain ⟨R0', W0⟩ := rows_and R0
  obtain ⟨R1', W1⟩ := rows_and R1
  have b2 := bd_u16 wx
  refine (fields_calls ns bs x b2.1 b2.2 (fun n hn => bd_i64 (W0 n hn)) R0' R1' (by omega) (by omega) W1 fields_rt fields_cut).mono fun e W' ⟨he, bel⟩ => ?_
  subst he
  exact ⟨_, rfl, _, _, _, [], _, [], hW', trodAll_mk1 (shut_bool Try.underlying4 _), (trodAll_cons_mk (Below.trod laid (by kernel_rfl) (of_decide_eq_true (by kernel_rfl)) k0 bel (arg_lt k0)) (trodAll_cons_mk (Below.trod laid (by kernel_rfl) (of_decide_eq_true (by kernel_rfl)) k1 bel (arg_lt k1)) (trodAll_cons_mk (shut_int Try.underlying68 wx) trodAll_mk0))), rfl, bel.frame _, fun h => by cases h⟩

theorem fields_over : Rows.wholeFieldsRow.holds Try.pinned (OpenSpec.ofChange Rows.wholeFieldsSpec) :=
  OpenClaim.holds_of_wide 5 Try.f5 rfl rfl rfl rfl rfl rfl rfl ⟨rfl, rfl, rfl, rfl, rfl⟩ rfl rfl rfl rfl rfl (by kernel_rfl) Try.func5 (by kernel_rfl)
    (of_decide_eq_true (by kernel_rfl)) (by unfold Func.isWrapper; first | (rw [if_pos (by decide +kernel)]; kernel_rfl) | (rw [if_neg (by decide +kernel)]; exact ⟨rfl, rfl⟩))
    (fun os started H enc _ => fields_lifted os started H enc)
theorem fields_proved : Rows.WholeFieldsSaid := fields_over
end Go.Proofs.Ytflgfbffglmmeaa
