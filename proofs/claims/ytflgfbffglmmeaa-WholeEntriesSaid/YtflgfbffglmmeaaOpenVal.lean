/-
  Topics and values among the arguments, opened.
-/
import Derived.OpenShut
import Derived.Test.YtflgfbffglmmeaaOpen
import Derived.Test.YtflgfbffglmmeaaVal10
namespace Go.Proofs.Ytflgfbffglmmeaa
open Go.ChangeShapes Go.WideShapes Go.ChangeAt Go.RowKit Go.Deep
set_option linter.unusedVariables false
set_option linter.unusedSimpArgs false
section
variable {H : Type} {enc : TypeId × Value → H} {w : World}
theorem rows_num {w : World} {A : Option Addr} {xs : List Int} (h : Rows (fun _ (n : Int) cs => cs = [.int .i64 n] ∧ (Lit.int .i64 n).wf = true) 1 w A xs) : Rows KNum 1 w A xs ∧ ∀ n ∈ xs, -9223372036854775808 ≤ n ∧ n ≤ 9223372036854775807 := by
  obtain ⟨a, b⟩ := rows_and h
  exact ⟨a, fun n hn => bd_i64 (b n hn)⟩
theorem opn_topic : Opn enc w 190 (fun w (h : TopicH) cs => KTop w h cs ∧ h.t.wsz) := by
  intro fuel cs x h hw
  obtain ⟨nm, h0, b0⟩ := struct_field Try.underlying190 h hw 0 0 1 rfl rfl (by kernel_rfl) (opn_string Try.underlying9)
  obtain ⟨ps, A, c, h1, R, b1⟩ := struct_field Try.underlying190 h hw 1 1 1 rfl rfl (by kernel_rfl) (opn_slice (sz := 1) Try.underlying66 (by kernel_rfl) (by decide) (of_decide_eq_true (by kernel_rfl)) (opn_int Try.underlying3))
  have hl := (struct_len Try.underlying190 h).trans (show _ = 2 by kernel_rfl)
  obtain ⟨R1, R2⟩ := rows_num R
  match cs, hl with
  | [c0, c1], _ =>
    simp at h0 h1
    exact ⟨⟨⟨nm, ps⟩, A, c⟩, ⟨by rw [h0, h1]; rfl, R1⟩, b0, b1, R2⟩
theorem opn_value : Opn enc w 37 (fun w (x : ValH) cs => cs = x.cells.toList ∧ Rows KTop 2 w x.A x.ls ∧ x.wsz) := by
  intro fuel cs x h hw
  obtain ⟨p, h0, b0⟩ := struct_field Try.underlying37 h hw 0 0 1 rfl rfl (by kernel_rfl) (opn_int Try.underlying3)
  obtain ⟨e, h1, b1⟩ := struct_field Try.underlying37 h hw 1 1 1 rfl rfl (by kernel_rfl) (opn_int Try.underlying3)
  obtain ⟨t, h2, b2⟩ := struct_field Try.underlying37 h hw 2 2 1 rfl rfl (by kernel_rfl) (opn_int Try.underlying3)
  obtain ⟨s, h3, b3⟩ := struct_field Try.underlying37 h hw 3 3 1 rfl rfl (by kernel_rfl) (opn_int Try.underlying3)
  obtain ⟨ls, A, c, h4, R, b4⟩ := struct_field Try.underlying37 h hw 4 4 1 rfl rfl (by kernel_rfl) (opn_slice (sz := 2) Try.underlying35 (by kernel_rfl) (by decide) (of_decide_eq_true (by kernel_rfl)) opn_topic)
  obtain ⟨u, h5, b5⟩ := struct_field Try.underlying37 h hw 5 5 1 rfl rfl (by kernel_rfl) (opn_int Try.underlying3)
  obtain ⟨st, h6, b6⟩ := struct_field Try.underlying37 h hw 6 6 1 rfl rfl (by kernel_rfl) (opn_int Try.underlying3)
  have hl := (struct_len Try.underlying37 h).trans (show _ = 7 by kernel_rfl)
  obtain ⟨R1, R2⟩ := rows_and R
  match cs, hl with
  | [c0, c1, c2, c3, c4, c5, c6], _ =>
    simp at h0 h1 h2 h3 h4 h5 h6
    exact ⟨⟨p, e, t, s, ls, u, st, A, c⟩, by rw [h0, h1, h2, h3, h4, h5, h6]; rfl, R1, bd_i64 b0, bd_i64 b1, bd_i64 b2, bd_i64 b3, bd_i64 b5, bd_i64 b6, b4, R2⟩
theorem opn_strs2' {t e : TypeId} (ht : Try.prog.underlying t = some (.array 2 e)) (he : Try.prog.underlying e = some .string) (hc2 : Try.prog.cellsOf t = 2) (hc : Try.prog.cellsOf e = 1) : Opn enc w t (fun w (p : List UInt8 × List UInt8) cs => cs = [.string (toS p.1), .string (toS p.2)] ∧ p.1.length ≤ 140737488355328 ∧ p.2.length ≤ 140737488355328) := by
  intro fuel cs x h hw
  obtain ⟨xs, m, _, rfl, hl, hxl, hi⟩ := DataW.trod_array ht h
  have hl2 : cs.length = 2 := hl.trans hc2
  have h0 := hi 0 (by decide)
  have h1 := hi 1 (by decide)
  rw [hc] at h0 h1
  have x0 : xs[0]? = some xs[0] := List.getElem?_eq_getElem (by omega)
  have x1 : xs[1]? = some xs[1] := List.getElem?_eq_getElem (by omega)
  have hwm : ∀ k (hk : k < xs.length), ∀ n ∈ xs[k].1.weights Try.prog e, n ≤ 140737488355328 := by
    intro k hk n hn
    refine hw n ?_
    simp only [DataW.weights, ht]
    exact weightsAll_mem (List.mem_map.2 ⟨xs[k], List.getElem_mem hk, rfl⟩) n hn
  obtain ⟨l0, e0, w0⟩ := opn_string he _ _ _ (h0.trans x0) (hwm 0 (by omega))
  obtain ⟨l1, e1, w1⟩ := opn_string he _ _ _ (h1.trans x1) (hwm 1 (by omega))
  clear hi h0 h1 x0 x1 hw h hwm
  obtain ⟨c0, c1, rfl⟩ : ∃ c0 c1, cs = [c0, c1] := by
    cases cs with
    | nil => simp at hl2
    | cons c0 t =>
      cases t with
      | nil => simp at hl2
      | cons c1 u =>
        cases u with
        | nil => exact ⟨c0, c1, rfl⟩
        | cons _ _ => simp at hl2
  simp at e0 e1
  exact ⟨(l0, l1), by rw [e0, e1], w0, w1⟩
theorem okWide_arr {P : Program} {r : Reach} {base n : Nat} {t e : TypeId} {v : Value} (ht : P.underlying t = some (.array n e)) (h : Value.okWide P w r base t v) : ∃ cs, v = .agg cs := by
  simp only [Value.okWide, ht] at h
  obtain ⟨cs, h1, _⟩ := h
  exact ⟨cs, h1⟩
end
end Go.Proofs.Ytflgfbffglmmeaa
