/-
  The law WholeTxns: its row.
-/
import Derived.OpenShut
import Derived.Test.YtflgfbffglmmeaaTxnsLaw
import Derived.Test.YtflgfbffglmmeaaOpenBlob
namespace Go.Proofs.Ytflgfbffglmmeaa
open Go.ChangeShapes Go.WideShapes Go.ChangeAt Go.RowKit Go.Deep
set_option linter.unusedVariables false
set_option linter.unusedSimpArgs false
section
variable {H : Type} {enc : TypeId × Value → H} {w : World}
theorem opn_head : Opn enc w 101 (fun w (h : Head) cs => cs = h.cells.toList ∧ i64 h.kind ∧ i64 h.version ∧ i64 h.number ∧ h.client.d.length ≤ 140737488355328) := by
  intro fuel cs x h hw
  obtain ⟨k, h0, b0⟩ := struct_field Try.underlying101 h hw 0 0 1 rfl rfl (by kernel_rfl) (opn_int Try.underlying3)
  obtain ⟨v, h1, b1⟩ := struct_field Try.underlying101 h hw 1 1 1 rfl rfl (by kernel_rfl) (opn_int Try.underlying3)
  obtain ⟨n, h2, b2⟩ := struct_field Try.underlying101 h hw 2 2 1 rfl rfl (by kernel_rfl) (opn_int Try.underlying3)
  obtain ⟨c, h3, b3⟩ := struct_field Try.underlying101 h hw 3 3 2 rfl rfl (by kernel_rfl) opn_blob
  have hl := (struct_len Try.underlying101 h).trans (show _ = 5 by kernel_rfl)
  match cs, hl with
  | [c0, c1, c2, c3, c4], _ =>
    simp [KBlob] at h0 h1 h2 h3
    exact ⟨⟨k, v, n, c⟩, by rw [h0, h1, h2, h3.1, h3.2]; rfl, bd_i64 b0, bd_i64 b1, bd_i64 b2, b3⟩
theorem opn_begin : Opn enc w 103 (fun w (h : TBegin) cs => cs = h.cells.toList ∧ i64 h.timeout ∧ i64 h.producer ∧ i64 h.epoch ∧ h.id.d.length ≤ 140737488355328) := by
  intro fuel cs x h hw
  obtain ⟨c, h3, b3⟩ := struct_field Try.underlying103 h hw 0 0 2 rfl rfl (by kernel_rfl) opn_blob
  obtain ⟨k, h0, b0⟩ := struct_field Try.underlying103 h hw 1 2 1 rfl rfl (by kernel_rfl) (opn_int Try.underlying3)
  obtain ⟨v, h1, b1⟩ := struct_field Try.underlying103 h hw 2 3 1 rfl rfl (by kernel_rfl) (opn_int Try.underlying3)
  obtain ⟨n, h2, b2⟩ := struct_field Try.underlying103 h hw 3 4 1 rfl rfl (by kernel_rfl) (opn_int Try.underlying3)
  have hl := (struct_len Try.underlying103 h).trans (show _ = 5 by kernel_rfl)
  match cs, hl with
  | [c0, c1, c2, c3, c4], _ =>
    simp [KBlob] at h0 h1 h2 h3
    exact ⟨⟨c, k, v, n⟩, by rw [h0, h1, h2, h3.1, h3.2]; rfl, bd_i64 b0, bd_i64 b1, bd_i64 b2, b3⟩
theorem opn_end : Opn enc w 105 (fun w (h : TEnd) cs => cs = h.cells.toList ∧ i64 h.producer ∧ i64 h.epoch ∧ h.id.length ≤ 140737488355328) := by
  intro fuel cs x h hw
  obtain ⟨c, h3, b3⟩ := struct_field Try.underlying105 h hw 0 0 1 rfl rfl (by kernel_rfl) (opn_string Try.underlying9)
  obtain ⟨k, h0, b0⟩ := struct_field Try.underlying105 h hw 1 1 1 rfl rfl (by kernel_rfl) (opn_int Try.underlying3)
  obtain ⟨v, h1, b1⟩ := struct_field Try.underlying105 h hw 2 2 1 rfl rfl (by kernel_rfl) (opn_int Try.underlying3)
  obtain ⟨n, h2⟩ := struct_field Try.underlying105 h hw 3 3 1 rfl rfl (by kernel_rfl) (opn_bool Try.underlying4)
  have hl := (struct_len Try.underlying105 h).trans (show _ = 4 by kernel_rfl)
  match cs, hl with
  | [c0, c1, c2, c3], _ =>
    simp at h0 h1 h2 h3
    exact ⟨⟨c, k, v, n⟩, by rw [h0, h1, h2, h3]; rfl, bd_i64 b0, bd_i64 b1, b3⟩
end

set_option maxRecDepth 100000 in
theorem txns_lifted (os : Os) (started : os.Started) (H : Type) (enc : TypeId × Value → H) :
    ReturnsInHanded {} Try.checked os 8 .any (Rows.wholeTxnsSpec.pre6 enc Try.prog Try.f8 Rows.wholeTxnsRow.domain false) (Rows.wholeTxnsSpec.post enc Try.prog Try.f8 false true false false) := by
  refine returnsInHanded_of_change_sized (C := Try.checked) own started (by kernel_rfl) Try.func8
    (ChangeSpec.witness6 (enc := enc) (C := Try.checked) false ⟨#[], #[.agg #[.int .i64 0, .int .i64 0, .int .i64 0, .bool false, .string ⟨#[]⟩], .agg #[.bool false, .string ⟨#[]⟩, .int .i64 0, .int .i64 0, .int .i64 0], .agg #[.string ⟨#[]⟩, .int .i64 0, .int .i64 0, .bool false]], []⟩ 8 (by kernel_rfl) (by kernel_rfl) (by kernel_rfl) (by kernel_rfl)) ?_
  intro W base args ds gs before hval0 hW hcnd hsz0 _
  have hval : ∀ (j : Nat) t v, Try.f8.params[j]? = some t → args[j]? = some v → Value.okWide Try.prog W .any base t v := hval0
  have hsz : (DataW.weightsEach Try.prog (Try.f8.params.toList ++ Rows.wholeTxnsSpec.plain.varTypes Try.prog) (ds ++ gs)).all (· ≤ reachBytes) = true := hsz0
  have hW' := hW
  obtain ⟨p, q, hA0, hV, rfl, hfz, hnd⟩ := hW
  have hA : DataW.TrodAll enc Try.prog W 0 (fun _ => true) true Try.f8.params.toList args.toList ds p := hA0
  rw [Try.params8] at hA hval hsz
  obtain ⟨v0, vs0, d0, ds0, p0, q0, hargs, rfl, rfl, h0, r0⟩ := trodAll_cons hA
  obtain ⟨v1, vs1, d1, ds1, p1, q1, rfl, rfl, rfl, h1, r1⟩ := trodAll_cons r0
  obtain ⟨v2, vs2, d2, ds2, p2, q2, rfl, rfl, rfl, h2, r2⟩ := trodAll_cons r1
  obtain ⟨rfl, rfl, rfl⟩ := trodAll_nil r2
  obtain rfl : args = #[v0, v1, v2] := by cases args; simp_all
  obtain ⟨rfl, rfl⟩ := trodVars_none hV
  have k0 := h0
  have k1 := h1
  have k2 := h2
  obtain ⟨c0, rfl, -⟩ := okWide_struct Try.underlying101 (hval 0 101 v0 rfl rfl)
  obtain ⟨c1, rfl, -⟩ := okWide_struct Try.underlying103 (hval 1 103 v1 rfl rfl)
  obtain ⟨c2, rfl, -⟩ := okWide_struct Try.underlying105 (hval 2 105 v2 rfl rfl)
  obtain ⟨h, e0, a1, a2, a3, a4⟩ := arg_open hsz 0 rfl rfl h0 opn_head
  obtain ⟨b, e1, b1, b2, b3, b4⟩ := arg_open hsz 1 rfl rfl h1 opn_begin
  obtain ⟨e, e2, f1, f2, f3⟩ := arg_open hsz 2 rfl rfl h2 opn_end
  obtain rfl : c0 = h.cells := Array.ext' e0
  obtain rfl : c1 = b.cells := Array.ext' e1
  obtain rfl : c2 = e.cells := Array.ext' e2
  refine (txns_calls h b e a1 a2 a3 a4 b1 b2 b3 b4 f1 f2 f3).mono fun en W' ⟨he, bel⟩ => ?_
  subst he
  exact ⟨_, rfl, _, _, _, [], _, [], hW', trodAll_mk1 (shut_bool Try.underlying4 _), (trodAll_cons_mk (Below.trod laid (by kernel_rfl) (of_decide_eq_true (by kernel_rfl)) k0 bel (arg_lt k0)) (trodAll_cons_mk (Below.trod laid (by kernel_rfl) (of_decide_eq_true (by kernel_rfl)) k1 bel (arg_lt k1)) (trodAll_cons_mk (Below.trod laid (by kernel_rfl) (of_decide_eq_true (by kernel_rfl)) k2 bel (arg_lt k2)) trodAll_mk0))), rfl, bel.frame _, fun h => by cases h⟩

theorem txns_over : Rows.wholeTxnsRow.holds Try.pinned (OpenSpec.ofChange Rows.wholeTxnsSpec) :=
  OpenClaim.holds_of_wide 8 Try.f8 rfl rfl rfl rfl rfl rfl rfl ⟨rfl, rfl, rfl, rfl, rfl⟩ rfl rfl rfl rfl rfl (by kernel_rfl) Try.func8 (by kernel_rfl)
    (of_decide_eq_true (by kernel_rfl)) (by unfold Func.isWrapper; first | (rw [if_pos (by decide +kernel)]; kernel_rfl) | (rw [if_neg (by decide +kernel)]; exact ⟨rfl, rfl⟩))
    (fun os started H enc _ => txns_lifted os started H enc)
theorem txns_proved : Rows.WholeTxnsSaid := txns_over
end Go.Proofs.Ytflgfbffglmmeaa
