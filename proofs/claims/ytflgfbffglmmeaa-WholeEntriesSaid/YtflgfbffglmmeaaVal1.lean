/-
  Do numbers, and names, rise? Which states are idle; how many things follow.
-/
import Derived.Test.YtflgfbffglmmeaaValM
import Derived.Test.YtflgfbffglmmeaaTot
namespace Go.Proofs.Ytflgfbffglmmeaa
open Go.RowKit
set_option linter.unusedVariables false
set_option linter.unusedSimpArgs false
theorem risesTo_succ {α : Type} (lt : α → α → Bool) (l : List α) (m : Nat) (h : m + 1 < l.length) : risesTo lt l (m + 2) = (risesTo lt l (m + 1) && lt l[m] l[m + 1]) := by
  unfold risesTo
  rw [show m + 2 - 1 = m + 1 by omega, show m + 1 - 1 = m by omega, List.range_succ, List.all_append]
  simp [h, show m < l.length by omega]
theorem rises_false {α : Type} (lt : α → α → Bool) (l : List α) (m : Nat) (h : m + 1 < l.length) (hf : lt l[m] l[m + 1] = false) : rises lt l = false := by
  cases hq : rises lt l
  · rfl
  · unfold rises risesTo at hq
    have := List.all_eq_true.1 hq m (List.mem_range.2 (by omega))
    simp [h, show m < l.length by omega, hf] at this
theorem rises_end {α : Type} (lt : α → α → Bool) (l : List α) (m : Nat) (h : l.length ≤ m + 1) (h2 : m + 1 ≤ l.length ∨ m = 0) : rises lt l = risesTo lt l (m + 1) := by
  unfold rises
  rcases h2 with h2 | h2
  · rw [show l.length = m + 1 by omega]
  · subst h2
    unfold risesTo
    rw [show l.length - 1 = 0 by omega]
section
variable {F : List Asn} {w : World} {g : Nat} {o : OSt} {i : ISt}
set_option maxRecDepth 100000 in
set_option maxHeartbeats 400000 in
theorem risingI_calls (l : List Int) (A : Option Addr) (c : Nat) (hl : l.length ≤ 140737488355328) (hr : ∀ w', Hd F w' → Rows KNum 1 w' A l) (H : Hd F w) :
    Calls Try.prog 202 #[.slice A l.length c] w fun en w' => en = .returned (.bool (rises ltI l)) ∧ Hd F w' := by
  replace hr := Lib.hid hr
  go_enter Try.func202, Try.ntmps202
  go_wp2_with fail
  go_loopw [3] (fun y wr => ∃ m : Nat, (m + 1 ≤ l.length ∨ m = 0) ∧ y = .int .i64 ((m : Int) + 1) ∧ Hid (risesTo ltI l (m + 1) = true) ∧ Hd F wr) (fun y _ => l.length + 1 - (intOf y).toNat)
  case atStart => exact ⟨0, .inr rfl, rfl, Lib.hid rfl, H⟩
  case round =>
    obtain ⟨m, hm, rfl, HN, HW⟩ := hrel
    by_cases hlt : m + 1 < l.length
    · obtain ⟨b, off, rfl, hc⟩ := (hr.out wr HW) (by intro h; simp [h] at hlt)
      obtain ⟨cs, _, hcs, hcc⟩ := hc m (by omega)
      obtain ⟨ds, _, hds, hdd⟩ := hc (m + 1) hlt
      have hcell0 : wr.cell? ⟨b, off + m, none⟩ = some (.int .i64 l[m]) := by have := hcc 0 (.int .i64 l[m]) (by rw [hcs]; rfl); simpa using this
      have hcell1 : wr.cell? ⟨b, off + (m + 1), none⟩ = some (.int .i64 l[m + 1]) := by have := hdd 0 (.int .i64 l[m + 1]) (by rw [hds]; rfl); simpa using this
      clear hc hcc hcs hdd hds
      have hst := Lib.hid (risesTo_succ ltI l m hlt)
      have hfa := Lib.hid (rises_false ltI l m hlt)
      generalize l[m] = x at hcell0 hst hfa
      generalize l[m + 1] = y at hcell1 hst hfa
      have e1 : ((m : Int) + 1).toNat = m + 1 := by omega
      have e2 : (0 : Int) ≤ (m : Int) + 1 := by omega
      by_cases hxy : x < y
      · have b0 : decide (y ≤ x) = false := decide_eq_false (by omega)
        have hn2 := Lib.hid (show risesTo ltI l (m + 2) = true by rw [hst.out, HN.out]; simp [ltI, hxy])
        clear hxy
        go_wp2_with fail
        go_quiet (fail)
        go_wp2
        go_roundw
        case rel => exact ⟨m + 1, .inl hlt, by go_num, hn2, HW.drewN _⟩
        case measure => simp [intOf]; omega
      · have b0 : decide (y ≤ x) = true := decide_eq_true (by omega)
        have hn2 := Lib.hid (hfa.out (by simp [ltI]; omega))
        clear hxy
        go_wp2_with fail
        go_quiet (fail)
        go_wp2
        go_ret
        rw [hn2.out]
        exact ⟨rfl, HW.drewN _⟩
    · have hn2 := Lib.hid ((rises_end ltI l m (by omega) hm).trans HN.out)
      go_wp2
      go_ret
      rw [hn2.out]
      exact ⟨rfl, HW⟩
set_option maxHeartbeats 400000 in
theorem idle_calls (s : Int) (w : World) : Calls Try.prog 155 #[.int .i64 s] w fun en w' => en = .returned (.bool (idle s)) ∧ w = w' := by
  by_cases h : s = 0
  · subst h
    go_enter Try.func155, Try.ntmps155
    go_wp2
    go_ret
    exact ⟨rfl, rfl⟩
  · have b0 : (s == 0) = false := beq_eq_false_iff_ne.2 h
    by_cases h4 : 4 ≤ s
    · have b1 : decide (4 ≤ s) = true := decide_eq_true h4
      have hi : idle s = true := by unfold idle; rw [b1]; simp
      replace hi := Lib.hid hi
      clear h
      go_enter Try.func155, Try.ntmps155
      go_wp2
      go_ret
      rw [hi.out]
      exact ⟨rfl, rfl⟩
    · have b1 : decide (4 ≤ s) = false := decide_eq_false h4
      have hi : idle s = false := by unfold idle; rw [b1]; simp [h]
      replace hi := Lib.hid hi
      clear h
      go_enter Try.func155, Try.ntmps155
      go_wp2
      go_ret
      rw [hi.out]
      exact ⟨rfl, rfl⟩
end
end Go.Proofs.Ytflgfbffglmmeaa
