/-
  Blobs among the arguments, opened.
-/
import Derived.Test.YtflgfbffglmmeaaOpen
import Derived.Test.YtflgfbffglmmeaaBlob
namespace Go.Proofs.Ytflgfbffglmmeaa
open Go.ChangeShapes Go.WideShapes Go.ChangeAt Go.RowKit Go.Deep
set_option linter.unusedVariables false
set_option linter.unusedSimpArgs false
def KBlob (_ : World) (b : Blob) (cs : List Value) : Prop := cs = [.bool b.nu, .string (toS b.d)]
theorem opn_blob {H : Type} {enc : TypeId × Value → H} {w : World} : Opn enc w 28 (fun w (b : Blob) cs => KBlob w b cs ∧ b.d.length ≤ 140737488355328) := by
  intro fuel cs x h hw
  obtain ⟨nu, h0⟩ := struct_field Try.underlying28 h hw 0 0 1 rfl rfl (by kernel_rfl) (opn_bool Try.underlying4)
  obtain ⟨d, h1, hd⟩ := struct_field Try.underlying28 h hw 1 1 1 rfl rfl (by kernel_rfl) (opn_string Try.underlying9)
  have hl := (struct_len Try.underlying28 h).trans (show _ = 2 by kernel_rfl)
  match cs, hl with
  | [c0, c1], _ =>
    simp at h0 h1
    exact ⟨⟨nu, d⟩, by rw [h0, h1]; rfl, hd⟩
end Go.Proofs.Ytflgfbffglmmeaa
