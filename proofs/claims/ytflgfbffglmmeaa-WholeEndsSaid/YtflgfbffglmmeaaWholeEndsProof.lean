/-
  The law WholeEnds: its row.
-/
import Derived.OpenShut
import Derived.Test.YtflgfbffglmmeaaEndsLaw
import Derived.Test.YtflgfbffglmmeaaOpenBlob
namespace Go.Proofs.Ytflgfbffglmmeaa
open Go.ChangeShapes Go.WideShapes Go.ChangeAt Go.RowKit Go.Deep
set_option linter.unusedVariables false
set_option linter.unusedSimpArgs false
section
variable {H : Type} {enc : TypeId × Value → H} {w : World}
theorem okWide_arr2 {P : Program} {r : Reach} {base n : Nat} {t e : TypeId} {v : Value} (ht : P.underlying t = some (.array n e)) (h : Value.okWide P w r base t v) : ∃ cs, v = .agg cs := by
  simp only [Value.okWide, ht] at h
  obtain ⟨cs, h1, _⟩ := h
  exact ⟨cs, h1⟩
theorem opn_arr2' {t e : TypeId} (ht : Try.prog.underlying t = some (.array 2 e)) (he : Try.prog.underlying e = some (.int .i64)) (hc2 : Try.prog.cellsOf t = 2) (hc : Try.prog.cellsOf e = 1) : Opn enc w t (fun w (p : Int × Int) cs => cs = [.int .i64 p.1, .int .i64 p.2] ∧ i64' p.1 ∧ i64' p.2) := by
  intro fuel cs x h hw
  obtain ⟨xs, m, _, rfl, hl, hxl, hi⟩ := DataW.trod_array ht h
  have hl2 : cs.length = 2 := hl.trans hc2
  have h0 := hi 0 (by decide)
  have h1 := hi 1 (by decide)
  rw [hc] at h0 h1
  have x0 : xs[0]? = some xs[0] := List.getElem?_eq_getElem (by omega)
  have x1 : xs[1]? = some xs[1] := List.getElem?_eq_getElem (by omega)
  obtain ⟨n0, e0, _, w0⟩ := DataW.trod_int he (h0.trans x0)
  obtain ⟨n1, e1, _, w1⟩ := DataW.trod_int he (h1.trans x1)
  clear hi h0 h1 x0 x1 hw h
  obtain ⟨c0, c1, rfl⟩ : ∃ c0 c1, cs = [c0, c1] := by
    cases cs with
    | nil => simp at hl2
    | cons c0 t =>
      cases t with
      | nil => simp at hl2
      | cons c1 u =>
        cases u with
        | nil => exact ⟨c0, c1, rfl⟩
        | cons _ _ => simp at hl2
  simp at e0 e1
  exact ⟨(n0, n1), by rw [e0, e1], bd_i64 w0, bd_i64 w1⟩
theorem opn_arr2 : Opn enc w 88 (fun w (p : Int × Int) cs => cs = [.int .i64 p.1, .int .i64 p.2] ∧ i64' p.1 ∧ i64' p.2) :=
  opn_arr2' Try.underlying88 Try.underlying3 (by kernel_rfl) (by kernel_rfl)
end
set_option maxRecDepth 100000 in
theorem ends_lifted (os : Os) (started : os.Started) (H : Type) (enc : TypeId × Value → H) :
    ReturnsInHanded {} Try.checked os 7 .any (Rows.wholeEndsSpec.pre6 enc Try.prog Try.f7 Rows.wholeEndsRow.domain false) (Rows.wholeEndsSpec.post enc Try.prog Try.f7 false true false false) := by
  refine returnsInHanded_of_change_sized (C := Try.checked) own started (by kernel_rfl) Try.func7
    (ChangeSpec.witness6 (enc := enc) (C := Try.checked) false ⟨#[], #[.agg #[.int .i64 0, .int .i64 0], .int .i64 0, .string ⟨#[]⟩], []⟩ 8 (by kernel_rfl) (by kernel_rfl) (by kernel_rfl) (by kernel_rfl)) ?_
  intro W base args ds gs before hval0 hW hcnd hsz0 _
  have hval : ∀ (j : Nat) t v, Try.f7.params[j]? = some t → args[j]? = some v → Value.okWide Try.prog W .any base t v := hval0
  have hsz : (DataW.weightsEach Try.prog (Try.f7.params.toList ++ Rows.wholeEndsSpec.plain.varTypes Try.prog) (ds ++ gs)).all (· ≤ reachBytes) = true := hsz0
  have hW' := hW
  obtain ⟨p, q, hA0, hV, rfl, hfz, hnd⟩ := hW
  have hA : DataW.TrodAll enc Try.prog W 0 (fun _ => true) true Try.f7.params.toList args.toList ds p := hA0
  rw [Try.params7] at hA hval hsz
  obtain ⟨v0, vs0, d0, ds0, p0, q0, hargs, rfl, rfl, h0, r0⟩ := trodAll_cons hA
  obtain ⟨v1, vs1, d1, ds1, p1, q1, rfl, rfl, rfl, h1, r1⟩ := trodAll_cons r0
  obtain ⟨v2, vs2, d2, ds2, p2, q2, rfl, rfl, rfl, h2, r2⟩ := trodAll_cons r1
  obtain ⟨rfl, rfl, rfl⟩ := trodAll_nil r2
  obtain rfl : args = #[v0, v1, v2] := by cases args; simp_all
  obtain ⟨rfl, rfl⟩ := trodVars_none hV
  have k0 := h0
  have k1 := h1
  have k2 := h2
  obtain ⟨c0, rfl⟩ := okWide_arr2 Try.underlying88 (hval 0 88 v0 rfl rfl)
  obtain ⟨x, rfl, rfl, rfl, wx⟩ := open_int Try.underlying3 (hval 1 3 v1 rfl rfl) h1
  obtain ⟨s, rfl⟩ := okWide_string Try.underlying9 (hval 2 9 v2 rfl rfl)
  obtain ⟨pe, e0, a1, a2⟩ := arg_open hsz 0 rfl rfl h0 opn_arr2
  obtain ⟨key, e2, f3⟩ := arg_open hsz 2 rfl rfl h2 (opn_string Try.underlying9)
  obtain rfl : c0 = #[.int .i64 pe.1, .int .i64 pe.2] := Array.ext' e0
  have e3 : s = toS key := by simpa [Value.cells] using e2
  subst e3
  refine (ends_calls pe.1 pe.2 x key a1 a2 (bd_i64 wx) f3).mono fun en W' ⟨he, bel⟩ => ?_
  subst he
  exact ⟨_, rfl, _, _, _, [], _, [], hW', trodAll_mk1 (shut_bool Try.underlying4 _), (trodAll_cons_mk (Below.trod laid (by kernel_rfl) (of_decide_eq_true (by kernel_rfl)) k0 bel (arg_lt k0)) (trodAll_cons_mk (shut_int Try.underlying3 wx) (trodAll_cons_mk (Below.trod laid (by kernel_rfl) (of_decide_eq_true (by kernel_rfl)) k2 bel (arg_lt k2)) trodAll_mk0))), rfl, bel.frame _, fun h => by cases h⟩

theorem ends_over : Rows.wholeEndsRow.holds Try.pinned (OpenSpec.ofChange Rows.wholeEndsSpec) :=
  OpenClaim.holds_of_wide 7 Try.f7 rfl rfl rfl rfl rfl rfl rfl ⟨rfl, rfl, rfl, rfl, rfl⟩ rfl rfl rfl rfl rfl (by kernel_rfl) Try.func7 (by kernel_rfl)
    (of_decide_eq_true (by kernel_rfl)) (by unfold Func.isWrapper; first | (rw [if_pos (by decide +kernel)]; kernel_rfl) | (rw [if_neg (by decide +kernel)]; exact ⟨rfl, rfl⟩))
    (fun os started H enc _ => ends_lifted os started H enc)
theorem ends_proved : Rows.WholeEndsSaid := ends_over
end Go.Proofs.Ytflgfbffglmmeaa
