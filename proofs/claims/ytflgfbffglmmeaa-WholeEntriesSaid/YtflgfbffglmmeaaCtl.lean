/-
  What is in the records that end transactions: their keys and values.
-/
import Derived.Test.YtflgfbffglmmeaaRecM
namespace Go.Proofs.Ytflgfbffglmmeaa
open Go.RowKit
set_option linter.unusedVariables false
set_option linter.unusedSimpArgs false
section
variable {F : List Asn} {w : World} {g : Nat} {o : OSt} {i : ISt}
set_option maxHeartbeats 400000 in
theorem cver_calls (H : Hd (Inp g i :: F) w) : Calls Try.prog 168 #[.pointer (some ⟨g, 0, none⟩)] w fun en w' => en = .returned (.tuple #[]) ∧ Hd (Inp g i.verS :: F) w' := by
  have HI := in_int 2 (by decide) (by decide) H
  by_cases h : i.intV 2 = 0
  · rw [show i.verS = i.intS 2 from if_pos h]
    rw [h] at HI
    replace HI := Lib.hid HI
    go_enter Try.func168, Try.ntmps168
    go_wp2_with fail
    refine HI.out.mono ?_
    rintro en w1 ⟨rfl, HA⟩
    go_wp2
    (first | go_end0 | ((try simp only [Exit.inBlock, Exit.then]); refine bodyPost_ret (results_none rfl _ _ _) rfl ?_))
    exact ⟨rfl, HA⟩
  · rw [show i.verS = (i.intS 2).fail 7 from if_neg h]
    have hb : (i.intV 2 != 0) = true := bne_iff_ne.2 h
    replace HI := Lib.hid HI
    go_enter Try.func168, Try.ntmps168
    go_wp2_with fail
    refine HI.out.mono ?_
    rintro en w1 ⟨rfl, HA⟩
    go_wp2_with fail
    refine (in_fail 7 HA).mono ?_
    rintro en w2 ⟨rfl, HB⟩
    go_wp2
    (first | go_end0 | ((try simp only [Exit.inBlock, Exit.then]); refine bodyPost_ret (results_none rfl _ _ _) rfl ?_))
    exact ⟨rfl, HB⟩
theorem ckey_st (kind : Int) (h : kind = 0 ∨ kind = 1) : ((⟨[], 0⟩ : OSt).int 0 2).int kind 2 = ⟨be 0 2 ++ be kind 2, 0⟩ := by
  rcases h with rfl | rfl <;> rfl
set_option maxHeartbeats 400000 in
theorem ckey_calls (kind : Int) (H : Hd F w) : Calls Try.prog 111 #[.int .i64 kind] w fun en w' => en = .returned (.tuple #[.string (toS (ckey kind).1), .int .i64 (ckey kind).2]) ∧ Hd F w' := by
  have HO := (H.alloc #[.slice none 0 0, .int .i64 0] 71).outnew
  by_cases h : kind = 0 ∨ kind = 1
  · rw [show ckey kind = (be 0 2 ++ be kind 2, 0) from if_pos h]
    have HS := Lib.hid (ckey_st kind h)
    have hk1 : -9223372036854775808 ≤ kind := by omega
    have hk2 : kind ≤ 9223372036854775807 := by omega
    rcases h with h | h
    case' inl => have b0 : (kind != 0) = false := by simp [h]
    case' inr => have b0 : (kind != 0) = true := by simp [h]
    case' inr => have b1 : (kind != 1) = false := by simp [h]
    all_goals
      clear h
      go_enter Try.func111, Try.ntmps111
      go_wp2_with fail
      refine (out_int 0 2 (by omega) (by decide) (by decide) HO (by decide)).mono ?_
      rintro en w1 ⟨rfl, HA⟩
      go_wp2_with fail
      refine (out_int kind 2 (by omega) hk1 hk2 HA (by rw [HS.out, List.length_append, be_length, be_length]; decide)).mono ?_
      rintro en w2 ⟨rfl, HB⟩
      rw [HS.out] at HB
      go_wp2_with fail
      refine (out_text HB).mono ?_
      rintro en w3 ⟨rfl, HC⟩
      go_wp2
      go_ret2
      exact ⟨rfl, HC.t⟩
  · rw [show ckey kind = ([], 12) from if_neg h]
    have b0 : (kind != 0) = true := bne_iff_ne.2 (fun e => h (.inl e))
    have b1 : (kind != 1) = true := bne_iff_ne.2 (fun e => h (.inr e))
    clear h
    go_enter Try.func111, Try.ntmps111
    go_wp2
    go_ret2
    exact ⟨rfl, by first | exact H | exact HO.t⟩
set_option maxHeartbeats 400000 in
theorem cval_calls (epoch : Int) (h1 : -9223372036854775808 ≤ epoch) (h2 : epoch ≤ 9223372036854775807) (H : Hd F w) : Calls Try.prog 112 #[.int .i64 epoch] w fun en w' => en = .returned (.tuple #[.string (toS (cval epoch).1), .int .i64 (cval epoch).2]) ∧ Hd F w' := by
  have HO := (H.alloc #[.slice none 0 0, .int .i64 0] 71).outnew
  by_cases h : epoch < 0
  · rw [show cval epoch = ([], 11) from if_pos h]
    have hb : decide (epoch < 0) = true := decide_eq_true h
    go_enter Try.func112, Try.ntmps112
    go_wp2
    go_ret2
    exact ⟨rfl, by first | exact H | exact HO.t⟩
  · rw [show cval epoch = OSt.text ((⟨be 0 2, 0⟩ : OSt).int epoch 4) from if_neg h]
    have hb : decide (epoch < 0) = false := decide_eq_false h
    have hl : ((⟨be 0 2, 0⟩ : OSt).int epoch 4).b.length ≤ 140737488355328 := by
      unfold OSt.int
      split
      · show (be 0 2 ++ be epoch 4).length ≤ _
        rw [List.length_append, be_length, be_length]; decide
      · rw [OSt.fail_b]; decide
    replace hl := Lib.hid hl
    go_enter Try.func112, Try.ntmps112
    go_wp2_with fail
    refine (out_int 0 2 (by omega) (by decide) (by decide) HO (by decide)).mono ?_
    rintro en w1 ⟨rfl, HA⟩
    go_wp2_with fail
    refine (out_int epoch 4 (by omega) h1 h2 HA hl.out).mono ?_
    rintro en w2 ⟨rfl, HB⟩
    go_wp2_with fail
    refine (out_text HB).mono ?_
    rintro en w3 ⟨rfl, HC⟩
    go_wp2
    go_ret2
    exact ⟨rfl, HC.t⟩
set_option maxHeartbeats 400000 in
theorem crk_calls (l : List UInt8) (hl : l.length ≤ 140737488355328) (H : Hd F w) : Calls Try.prog 115 #[.string (toS l)] w fun en w' => en = .returned (.tuple #[.int .i64 (crk l).1, .int .i64 (crk l).2]) ∧ Hd F w' := by
  have HN := in_new l H hl
  have hr : crk l = if (crkS l).close.e = 0 then ((ISt.verS ⟨[], l, 0⟩).intV 2, 0) else (0, (crkS l).close.e) := rfl
  have hs : crkS l = if (ISt.verS ⟨[], l, 0⟩).intV 2 = 0 ∨ (ISt.verS ⟨[], l, 0⟩).intV 2 = 1 then (ISt.verS ⟨[], l, 0⟩).intS 2 else ((ISt.verS ⟨[], l, 0⟩).intS 2).fail 12 := rfl
  generalize crk l = R at hr ⊢
  generalize crkS l = S at hr hs
  replace hr := Lib.hid hr
  replace hs := Lib.hid hs
  replace HN := Lib.hid HN
  go_enter Try.func115, Try.ntmps115
  go_wp2_with fail
  refine HN.out.mono ?_
  rintro en w1 ⟨g, rfl, HA⟩
  go_wp2_with fail
  refine (cver_calls HA).mono ?_
  rintro en w2 ⟨rfl, HB⟩
  generalize ISt.verS ⟨[], l, 0⟩ = j at hr hs HB
  go_wp2_with fail
  refine (in_int 2 (by decide) (by decide) HB).mono ?_
  rintro en w3 ⟨rfl, HC⟩
  generalize j.intV 2 = kind at hr hs
  generalize j.intS 2 = k at hs HC
  by_cases h : kind = 0 ∨ kind = 1
  case' pos =>
    have hs2 := hs.out
    rw [if_pos h] at hs2
    rw [← hs2] at HC
    have HD := HC
    rcases h with h | h
    case' inl => have b0 : (kind != 0) = false := by simp [h]
    case' inr => have b0 : (kind != 0) = true := by simp [h]
    case' inr => have b1 : (kind != 1) = false := by simp [h]
    all_goals clear h hs2 HC
  case' neg =>
    have hs2 := hs.out
    rw [if_neg h] at hs2
    have b0 : (kind != 0) = true := bne_iff_ne.2 (fun e => h (.inl e))
    have b1 : (kind != 1) = true := bne_iff_ne.2 (fun e => h (.inr e))
    clear h
    replace hs2 := Lib.hid hs2
    go_wp2_with fail
    refine (in_fail 12 HC).mono ?_
    rintro en w4 ⟨rfl, HD⟩
    rw [← hs2.out] at HD
    clear hs2 HC
  all_goals
    go_wp2_with fail
    refine (in_close HD).mono ?_
    rintro en w5 ⟨rfl, HE⟩
    by_cases he : S.close.e = 0
    · have hb : (S.close.e != 0) = false := by simp [he]
      have hr2 := Lib.hid (hr.out.trans (if_pos he))
      clear he
      go_wp2
      go_ret2
      rw [hr2.out]
      exact ⟨rfl, HE.t⟩
    · have hb : (S.close.e != 0) = true := bne_iff_ne.2 he
      have hr2 := Lib.hid (hr.out.trans (if_neg he))
      clear he
      go_wp2
      go_ret2
      rw [hr2.out]
      exact ⟨rfl, HE.t⟩
set_option maxHeartbeats 400000 in
theorem crv_calls (l : List UInt8) (hl : l.length ≤ 140737488355328) (H : Hd F w) : Calls Try.prog 116 #[.string (toS l)] w fun en w' => en = .returned (.tuple #[.int .i64 (crv l).1, .int .i64 (crv l).2]) ∧ Hd F w' := by
  have HN := in_new l H hl
  have hr : crv l = if (crvS l).close.e = 0 then ((ISt.verS ⟨[], l, 0⟩).intV 4, 0) else (0, (crvS l).close.e) := rfl
  have hs : crvS l = if (ISt.verS ⟨[], l, 0⟩).intV 4 < 0 then ((ISt.verS ⟨[], l, 0⟩).intS 4).fail 11 else (ISt.verS ⟨[], l, 0⟩).intS 4 := rfl
  generalize crv l = R at hr ⊢
  generalize crvS l = S at hr hs
  replace hr := Lib.hid hr
  replace hs := Lib.hid hs
  replace HN := Lib.hid HN
  go_enter Try.func116, Try.ntmps116
  go_wp2_with fail
  refine HN.out.mono ?_
  rintro en w1 ⟨g, rfl, HA⟩
  go_wp2_with fail
  refine (cver_calls HA).mono ?_
  rintro en w2 ⟨rfl, HB⟩
  generalize ISt.verS ⟨[], l, 0⟩ = j at hr hs HB
  go_wp2_with fail
  refine (in_int 4 (by decide) (by decide) HB).mono ?_
  rintro en w3 ⟨rfl, HC⟩
  generalize j.intV 4 = kind at hr hs
  generalize j.intS 4 = k at hs HC
  by_cases h : kind < 0
  case' neg =>
    have hs2 := hs.out
    rw [if_neg h] at hs2
    rw [← hs2] at HC
    have HD := HC
    have b0 : decide (kind < 0) = false := decide_eq_false h
    clear h hs2 HC
  case' pos =>
    have hs2 := hs.out
    rw [if_pos h] at hs2
    have b0 : decide (kind < 0) = true := decide_eq_true h
    clear h
    replace hs2 := Lib.hid hs2
    go_wp2_with fail
    refine (in_fail 11 HC).mono ?_
    rintro en w4 ⟨rfl, HD⟩
    rw [← hs2.out] at HD
    clear hs2 HC
  all_goals
    go_wp2_with fail
    refine (in_close HD).mono ?_
    rintro en w5 ⟨rfl, HE⟩
    by_cases he : S.close.e = 0
    · have hb : (S.close.e != 0) = false := by simp [he]
      have hr2 := Lib.hid (hr.out.trans (if_pos he))
      clear he
      go_wp2
      go_ret2
      rw [hr2.out]
      exact ⟨rfl, HE.t⟩
    · have hb : (S.close.e != 0) = true := bne_iff_ne.2 he
      have hr2 := Lib.hid (hr.out.trans (if_neg he))
      clear he
      go_wp2
      go_ret2
      rw [hr2.out]
      exact ⟨rfl, HE.t⟩
end
end Go.Proofs.Ytflgfbffglmmeaa
