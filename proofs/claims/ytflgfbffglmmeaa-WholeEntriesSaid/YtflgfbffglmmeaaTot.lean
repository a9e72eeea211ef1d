/-
  Whatever is read, the bytes that were read and those that were not are the same together. No program in sight.
-/
import Derived.Test.YtflgfbffglmmeaaBlob
namespace Go.Proofs.Ytflgfbffglmmeaa
set_option linter.unusedVariables false
set_option linter.unusedSimpArgs false
def ISt.all (i : ISt) : List UInt8 := i.d ++ i.r
theorem all_fail (i : ISt) (e : Int) : (i.fail e).all = i.all := by unfold ISt.fail; split <;> rfl
theorem all_takeS (i : ISt) (n : Int) : (i.takeS n).all = i.all := by
  unfold ISt.takeS
  split
  · rfl
  · split
    · exact all_fail _ _
    · split
      · exact all_fail _ _
      · simp [ISt.all]
theorem all_intS (i : ISt) (n : Nat) : (i.intS n).all = i.all := all_takeS _ _
theorem all_ugo (bits : Nat) : ∀ (l : List UInt8) (sh n : Nat) (d : List UInt8), (ugo bits l sh n d).2.all = d ++ l
  | [], _, _, d => rfl
  | c :: t, sh, n, d => by
    unfold ugo
    split
    · simp [ISt.all]
    · split
      · rw [all_ugo bits t]; simp
      · split <;> simp [ISt.all]
theorem all_varS (i : ISt) (n : Nat) : (i.varS n).all = i.all := by
  unfold ISt.varS ISt.uget
  split
  · rfl
  · exact all_ugo _ _ _ _ _
theorem all_bS (i : ISt) (n : Int) : (i.bS n).all = i.all := by
  unfold ISt.bS
  split
  · rfl
  · split
    · rfl
    · exact all_takeS _ _
theorem all_varBS (i : ISt) : i.varBS.all = i.all := by unfold ISt.varBS; rw [all_bS, all_varS]
theorem all_fixBS (i : ISt) (n : Nat) : (i.fixBS n).all = i.all := by unfold ISt.fixBS; rw [all_bS, all_intS]
theorem all_must (i : ISt) (b : Blob) : (i.must b).all = i.all := by unfold ISt.must; split; exact all_fail _ _; rfl
theorem all_nameS (i : ISt) : i.nameS.all = i.all := by unfold ISt.nameS; rw [all_must, all_varBS]
theorem all_textS (i : ISt) : i.textS.all = i.all := by unfold ISt.textS; rw [all_must, all_fixBS]
theorem all_close (i : ISt) : i.close.all = i.all := by unfold ISt.close; split; rfl; exact all_fail _ _
theorem all_len {i : ISt} {l : List UInt8} (h : i.all = l) : i.d.length + i.r.length = l.length := by rw [← h]; simp [ISt.all]
theorem takeV_len_le (i : ISt) (n : Int) : (i.takeV n).length ≤ i.r.length := by
  unfold ISt.takeV
  split
  · simp
  · split
    · simp
    · split
      · simp
      · rw [List.length_take]; omega
theorem bV_len_le (i : ISt) (n : Int) : (i.bV n).d.length ≤ i.r.length := by
  unfold ISt.bV
  split
  · simp
  · split
    · simp
    · exact takeV_len_le _ _
theorem varB_len_le (i : ISt) : i.varB.d.length ≤ i.all.length := by
  have := bV_len_le (i.varS 32) (i.varV 32)
  have h2 := all_len (all_varS i 32)
  unfold ISt.varB; omega
theorem fixB_len_le (i : ISt) (n : Nat) : (i.fixB n).d.length ≤ i.all.length := by
  have := bV_len_le (i.intS n) (i.intV n)
  have h2 := all_len (all_intS i n)
  unfold ISt.fixB; omega
theorem nameB_len_le (i : ISt) : i.nameB.d.length ≤ i.all.length := varB_len_le i
theorem textB_len_le (i : ISt) : i.textB.d.length ≤ i.all.length := fixB_len_le i 2
end Go.Proofs.Ytflgfbffglmmeaa
