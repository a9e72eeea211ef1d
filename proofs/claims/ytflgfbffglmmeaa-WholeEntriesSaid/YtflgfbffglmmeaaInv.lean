/-
  What was read well is written as just the bytes that were read: numbers. No program in sight.
-/
import Derived.Test.YtflgfbffglmmeaaPure
import Derived.Test.YtflgfbffglmmeaaTot
namespace Go.Proofs.Ytflgfbffglmmeaa
set_option linter.unusedVariables false
set_option linter.unusedSimpArgs false
theorem be_sval : ∀ (n : Nat) (x : List UInt8), x.length = n + 1 → be (sval x) (n + 1) = x := by
  intro n
  induction n with
  | zero =>
    intro x hx
    obtain ⟨c, rfl⟩ : ∃ c, x = [c] := List.length_eq_one_iff.1 hx
    show [beAt (sval [c]) 1 0] = [c]
    congr 1
    have := c.toNat_lt
    unfold beAt sval
    apply UInt8.toNat_inj.1
    simp
    split <;> omega
  | succ n ih =>
    intro x hx
    have hne : x ≠ [] := by intro e; simp [e] at hx
    obtain ⟨y, c, rfl⟩ : ∃ y c, x = y ++ [c] := ⟨x.dropLast, x.getLast hne, (List.dropLast_concat_getLast hne).symm⟩
    have hy : y.length = n + 1 := by simpa using hx
    obtain ⟨a, t, rfl⟩ : ∃ a t, y = a :: t := by
      cases y with
      | nil => simp at hy
      | cons a t => exact ⟨a, t, rfl⟩
    have hc := c.toNat_lt
    rw [List.cons_append, sval_snoc, be_snoc]
    rw [show (sval (a :: t) * 256 + (c.toNat : Int)) / 256 = sval (a :: t) by omega, ih _ hy]
    rw [List.cons_append]
    congr 2
    congr 1
    unfold beAt
    apply UInt8.toNat_inj.1
    simp
    omega
theorem be_sval' {x : List UInt8} {n : Nat} (h : x.length = n) (hn : 1 ≤ n) : be (sval x) n = x := by
  obtain ⟨m, rfl⟩ : ∃ m, n = m + 1 := ⟨n - 1, by omega⟩
  exact be_sval m x h
theorem fail_ne (i : ISt) {c : Int} (h : c ≠ 0) : (i.fail c).e ≠ 0 := by
  unfold ISt.fail
  split
  · exact h
  · assumption
theorem intS_stop (i : ISt) (n : Nat) (h : i.e ≠ 0) : i.intS n = i := takeS_stop _ i h
theorem close_0 {i : ISt} (h : i.close.e = 0) : i.e = 0 ∧ i.r = [] := by
  unfold ISt.close at h
  by_cases hr : i.r = []
  · rw [if_pos hr] at h; exact ⟨h, hr⟩
  · rw [if_neg hr] at h; exact absurd h (fail_ne i (by decide))
theorem takeS_inv {i : ISt} {n : Nat} (h : (i.takeS n).e = 0) : i.e = 0 ∧ i.takeS n = ⟨i.d ++ i.takeV n, i.r.drop n, 0⟩ ∧ i.r = i.takeV n ++ i.r.drop n ∧ (i.takeV n).length = n := by
  by_cases h0 : i.e ≠ 0
  · rw [takeS_stop _ i h0] at h; exact absurd h h0
  have h1 : ¬ ((n : Int) < 0) := by omega
  by_cases h2 : (i.r.length : Int) < n
  · have : i.takeS n = i.fail 1 := by unfold ISt.takeS; rw [if_neg h0, if_neg h1, if_pos h2]
    rw [this] at h; exact absurd h (fail_ne i (by decide))
  · have e1 : i.takeS n = ⟨i.d ++ i.r.take n, i.r.drop n, i.e⟩ := by unfold ISt.takeS; rw [if_neg h0, if_neg h1, if_neg h2]; simp
    have e2 : i.takeV n = i.r.take n := by unfold ISt.takeV; rw [if_neg h0, if_neg h1, if_neg h2]; simp
    have h00 : i.e = 0 := by simpa using h0
    rw [e1, e2, h00]
    exact ⟨rfl, rfl, (List.take_append_drop _ _).symm, by rw [List.length_take]; omega⟩
theorem intS_inv {i : ISt} {n : Nat} (hn : 1 ≤ n) (h : (i.intS n).e = 0) : i.e = 0 ∧ i.intS n = ⟨i.d ++ be (i.intV n) n, (i.intS n).r, 0⟩ ∧ i.r = be (i.intV n) n ++ (i.intS n).r := by
  obtain ⟨h0, h1, h2, h3⟩ := takeS_inv h
  have e := be_sval' h3 hn
  refine ⟨h0, ?_, ?_⟩
  · unfold ISt.intS ISt.intV; rw [e, h1]
  · unfold ISt.intS ISt.intV; rw [e, h1]; exact h2
end Go.Proofs.Ytflgfbffglmmeaa
