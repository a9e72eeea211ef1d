/-
  Partitions, and topics: may they be?
-/
import Derived.Test.YtflgfbffglmmeaaVal1
import Derived.Test.YtflgfbffglmmeaaHdr3
namespace Go.Proofs.Ytflgfbffglmmeaa
open Go.RowKit
set_option linter.unusedVariables false
set_option linter.unusedSimpArgs false
theorem info_str : (Try.prog.info? 9).map (fun i => (i.zero, i.size, i.bytes)) = some (some (.string ⟨#[]⟩), 1, 16) := by kernel_rfl
section
variable {F : List Asn} {w : World} {g : Nat} {o : OSt} {i : ISt}
set_option maxRecDepth 100000 in
set_option maxHeartbeats 400000 in
theorem risingS_calls (l : List (List UInt8)) (A : Option Addr) (c : Nat) (hl : l.length ≤ 140737488355328) (hr : ∀ w', Hd F w' → Rows KStr 1 w' A l) (H : Hd F w) :
    Calls Try.prog 192 #[.slice A l.length c] w fun en w' => en = .returned (.bool (rises ltS l)) ∧ Hd F w' := by
  replace hr := Lib.hid hr
  go_enter Try.func192, Try.ntmps192
  go_wp2_with fail
  go_loopw [3] (fun y wr => ∃ m : Nat, (m + 1 ≤ l.length ∨ m = 0) ∧ y = .int .i64 ((m : Int) + 1) ∧ Hid (risesTo ltS l (m + 1) = true) ∧ Hd F wr) (fun y _ => l.length + 1 - (intOf y).toNat)
  case atStart => exact ⟨0, .inr rfl, rfl, Lib.hid rfl, H⟩
  case round =>
    obtain ⟨m, hm, rfl, HN, HW⟩ := hrel
    by_cases hlt : m + 1 < l.length
    · obtain ⟨b, off, rfl, hc⟩ := (hr.out wr HW) (by intro h; simp [h] at hlt)
      obtain ⟨cs, _, hcs, hcc⟩ := hc m (by omega)
      obtain ⟨ds, _, hds, hdd⟩ := hc (m + 1) hlt
      have hcell0 : wr.cell? ⟨b, off + m, none⟩ = some (.string (toS l[m])) := by have := hcc 0 (.string (toS l[m])) (by rw [hcs]; rfl); simpa using this
      have hcell1 : wr.cell? ⟨b, off + (m + 1), none⟩ = some (.string (toS l[m + 1])) := by have := hdd 0 (.string (toS l[m + 1])) (by rw [hds]; rfl); simpa using this
      clear hc hcc hcs hdd hds
      have hst := Lib.hid (risesTo_succ ltS l m hlt)
      have hfa := Lib.hid (rises_false ltS l m hlt)
      generalize l[m] = x at hcell0 hst hfa
      generalize l[m + 1] = y at hcell1 hst hfa
      have e1 : ((m : Int) + 1).toNat = m + 1 := by omega
      have e2 : (0 : Int) ≤ (m : Int) + 1 := by omega
      have s1 : (toS x).toList = x := toS_list x
      have s2 : (toS y).toList = y := toS_list y
      cases hxy : Op.bytesLess x y
      · have hn2 := Lib.hid (hfa.out hxy)
        go_wp2_with fail
        go_quiet (fail)
        go_wp2
        go_ret
        rw [hn2.out]
        exact ⟨rfl, HW.drewN _⟩
      · have hn2 := Lib.hid (show risesTo ltS l (m + 2) = true by rw [hst.out, HN.out]; simp [ltS, hxy])
        go_wp2_with fail
        go_quiet (fail)
        go_wp2
        go_roundw
        case rel => exact ⟨m + 1, .inl hlt, by go_num, hn2, HW.drewN _⟩
        case measure => simp [intOf]; omega
    · have hn2 := Lib.hid ((rises_end ltS l m (by omega) hm).trans HN.out)
      go_wp2
      go_ret
      rw [hn2.out]
      exact ⟨rfl, HW⟩
def numOk (n : Int) : Bool := decide (0 ≤ n) && fitsB n 4
set_option maxRecDepth 100000 in
set_option maxHeartbeats 400000 in
theorem parts_calls (l : List Int) (A : Option Addr) (c : Nat) (hl : l.length ≤ 140737488355328) (hb : ∀ n ∈ l, -9223372036854775808 ≤ n ∧ n ≤ 9223372036854775807) (hr : ∀ w', Hd F w' → Rows KNum 1 w' A l) (H : Hd F w) :
    Calls Try.prog 191 #[.slice A l.length c] w fun en w' => en = .returned (.bool (partsOk l)) ∧ Hd F w' := by
  have he : partsOk l = (l.all numOk && (decide (0 < l.length) && rises ltI l)) := rfl
  have HK := fun w1 H => risingI_calls (F := F) (w := w1) l A c hl hr H
  generalize partsOk l = R at he ⊢
  replace he := Lib.hid he
  replace hr := Lib.hid hr
  replace hb := Lib.hid hb
  replace HK := Lib.hid HK
  go_enter Try.func191, Try.ntmps191
  go_wp2_with fail
  go_loopw [7] (fun y wr => ∃ k : Nat, k ≤ l.length ∧ y = .int .i64 k ∧ Hid ((l.take k).all numOk = true) ∧ Hd F wr) (fun y _ => l.length - (intOf y).toNat)
  case atStart => exact ⟨0, Nat.zero_le _, rfl, Lib.hid rfl, H⟩
  case round =>
    obtain ⟨k, hk, rfl, HN, HW⟩ := hrel
    by_cases hlt : k < l.length
    · obtain ⟨b, off, rfl, hc⟩ := (hr.out wr HW) (by intro h; simp [h] at hlt)
      obtain ⟨cs, _, hcs, hcc⟩ := hc k hlt
      have hcell0 : wr.cell? ⟨b, off + k, none⟩ = some (.int .i64 l[k]) := by have := hcc 0 (.int .i64 l[k]) (by rw [hcs]; rfl); simpa using this
      clear hc hcc hcs
      have HT := Lib.hid (all_take_succ numOk l k hlt)
      have HF := Lib.hid (all_false_at numOk l k hlt)
      have hbk := hb.out l[k] (List.getElem_mem hlt)
      generalize l[k] = x at hcell0 HT HF hbk
      by_cases h0 : x < 0
      · have b0 : decide (x < 0) = true := decide_eq_true h0
        have hx : numOk x = false := by unfold numOk; rw [show decide (0 ≤ x) = false from decide_eq_false (by omega)]; rfl
        have hn2 := Lib.hid (he.out.trans (by rw [HF.out hx, Bool.false_and]))
        clear h0 hx
        go_wp2
        go_ret
        rw [hn2.out]
        exact ⟨rfl, HW⟩
      have b0 : decide (x < 0) = false := decide_eq_false h0
      have HFi := fits_calls x 4 wr (by omega) hbk.1 hbk.2
      cases hf : fitsB x 4
      · have hx : numOk x = false := by unfold numOk; rw [hf, Bool.and_false]
        have hn2 := Lib.hid (he.out.trans (by rw [HF.out hx, Bool.false_and]))
        rw [hf] at HFi
        replace HFi := Lib.hid HFi
        clear h0 hx hf
        go_wp2_with fail
        refine HFi.out.mono ?_
        rintro en w1 ⟨rfl, rfl⟩
        go_wp2
        go_ret
        rw [hn2.out]
        exact ⟨rfl, HW⟩
      · have hx : numOk x = true := by unfold numOk; rw [hf, show decide (0 ≤ x) = true from decide_eq_true (by omega)]; rfl
        have hn2 := Lib.hid (show (l.take (k + 1)).all numOk = true by rw [HT.out, HN.out, hx]; rfl)
        rw [hf] at HFi
        replace HFi := Lib.hid HFi
        clear h0 hx hf
        go_wp2_with fail
        refine HFi.out.mono ?_
        rintro en w1 ⟨rfl, rfl⟩
        go_wp2
        go_roundw
        case rel => exact ⟨k + 1, hlt, by go_num, hn2, HW⟩
        case measure => simp [intOf]; omega
    · obtain rfl : k = l.length := by omega
      rw [List.take_length] at HN
      by_cases h0 : 0 < l.length
      · have b0 : decide (0 < l.length) = true := decide_eq_true h0
        have hn2 := Lib.hid (he.out.trans (show _ = rises ltI l by rw [HN.out, b0]; rfl))
        clear h0
        go_wp2_with fail
        refine (HK.out _ HW).mono ?_
        rintro en w1 ⟨rfl, HY⟩
        go_wp2
        go_ret
        rw [hn2.out]
        exact ⟨rfl, HY⟩
      · have b0 : decide (0 < l.length) = false := decide_eq_false h0
        have hn2 := Lib.hid (he.out.trans (show _ = false by rw [HN.out, b0]; rfl))
        clear h0
        go_wp2
        go_ret
        rw [hn2.out]
        exact ⟨rfl, HW⟩
end
end Go.Proofs.Ytflgfbffglmmeaa
