/-
  Heads and requests, read.
-/
import Derived.Test.YtflgfbffglmmeaaTxn3
namespace Go.Proofs.Ytflgfbffglmmeaa
open Go.RowKit
set_option linter.unusedVariables false
set_option linter.unusedSimpArgs false
section
variable {F : List Asn} {w : World} {g : Nat} {o : OSt} {i : ISt}
def ISt.closedV (i : ISt) (c : Int) : Bool := decide (i.e = 0) && decide (c = 0)
def ISt.closedS (i : ISt) (c : Int) : ISt := if i.e = 0 ∧ c ≠ 0 then i.fail c else i
set_option maxRecDepth 100000 in
set_option maxHeartbeats 400000 in
theorem closedE_calls (e : TEnd) (c : Int) (H : Hd (Inp g i :: F) w)
    (HC : ∀ w1, Hd (Inp g i :: F) w1 → Calls Try.prog 49 #[.agg #[.string (toS e.id), .int .i64 e.producer, .int .i64 e.epoch, .bool e.commit]] w1 fun en w' => en = .returned (.int .i64 c) ∧ Hd (Inp g i :: F) w') :
    Calls Try.prog 124 #[.pointer (some ⟨g, 0, none⟩), .func (.func 49) #[.agg #[.string (toS e.id), .int .i64 e.producer, .int .i64 e.epoch, .bool e.commit]] #[]] w fun en w' => en = .returned (.bool (i.closedV c)) ∧ Hd (Inp g (i.closedS c) :: F) w' := by
  have HCC := Lib.hid HC
  clear HC
  unfold ISt.closedV
  generalize hS : i.closedS c = S
  have HS := Lib.hid hS
  clear hS
  by_cases h0 : i.e = 0
  · have b0 : (i.e != 0) = false := by simp [h0]
    have H0 := Lib.hid h0
    clear h0
    go_enter Try.func124, Try.ntmps124
    go_wp2_with fail
    refine (in_err H).mono ?_
    rintro en w1 ⟨rfl, rfl⟩
    have HA := H
    go_wp2_with fail
    refine (HCC.out _ HA).mono ?_
    rintro en w2 ⟨rfl, HB⟩
    by_cases h1 : c = 0
    · have b1 : (c != 0) = false := by simp [h1]
      have H1 := Lib.hid h1
      clear h1
      go_wp2
      go_ret
      rw [← HS.out]
      exact ⟨ret_bool (by simp [H0.out, H1.out]), by unfold ISt.closedS; rw [if_neg (fun h => h.2 H1.out)]; exact HB⟩
    · have b1 : (c != 0) = true := bne_iff_ne.2 h1
      go_wp2_with fail
      refine (in_fail c HB).mono ?_
      rintro en w3 ⟨rfl, HD⟩
      go_wp2
      go_ret
      rw [← HS.out]
      exact ⟨ret_bool (by simp [h1]), by unfold ISt.closedS; rw [if_pos ⟨H0.out, h1⟩]; exact HD⟩
  · have b0 : (i.e != 0) = true := bne_iff_ne.2 h0
    go_enter Try.func124, Try.ntmps124
    go_wp2_with fail
    refine (in_err H).mono ?_
    rintro en w1 ⟨rfl, rfl⟩
    have HA := H
    go_wp2
    go_ret
    rw [← HS.out]
    exact ⟨ret_bool (by simp [h0]), by unfold ISt.closedS; rw [if_neg (fun h => h0 h.1)]; exact HA⟩
set_option maxRecDepth 100000 in
set_option maxHeartbeats 400000 in
theorem closedB_calls (p1 p2 : Nat) (c : Int) (H : Hd (Inp g i :: F) w)
    (HC : ∀ w1, Hd (Inp g i :: F) w1 → Calls Try.prog 125 #[.pointer (some ⟨p1, 0, none⟩), .pointer (some ⟨p2, 0, none⟩)] w1 fun en w' => en = .returned (.int .i64 c) ∧ Hd (Inp g i :: F) w') :
    Calls Try.prog 124 #[.pointer (some ⟨g, 0, none⟩), .func (.func 125) #[] #[.pointer (some ⟨p1, 0, none⟩), .pointer (some ⟨p2, 0, none⟩)]] w fun en w' => en = .returned (.bool (i.closedV c)) ∧ Hd (Inp g (i.closedS c) :: F) w' := by
  have HCC := Lib.hid HC
  clear HC
  unfold ISt.closedV
  generalize hS : i.closedS c = S
  have HS := Lib.hid hS
  clear hS
  by_cases h0 : i.e = 0
  · have b0 : (i.e != 0) = false := by simp [h0]
    have H0 := Lib.hid h0
    clear h0
    go_enter Try.func124, Try.ntmps124
    go_wp2_with fail
    refine (in_err H).mono ?_
    rintro en w1 ⟨rfl, rfl⟩
    have HA := H
    go_wp2_with fail
    refine (HCC.out _ HA).mono ?_
    rintro en w2 ⟨rfl, HB⟩
    by_cases h1 : c = 0
    · have b1 : (c != 0) = false := by simp [h1]
      have H1 := Lib.hid h1
      clear h1
      go_wp2
      go_ret
      rw [← HS.out]
      exact ⟨ret_bool (by simp [H0.out, H1.out]), by unfold ISt.closedS; rw [if_neg (fun h => h.2 H1.out)]; exact HB⟩
    · have b1 : (c != 0) = true := bne_iff_ne.2 h1
      go_wp2_with fail
      refine (in_fail c HB).mono ?_
      rintro en w3 ⟨rfl, HD⟩
      go_wp2
      go_ret
      rw [← HS.out]
      exact ⟨ret_bool (by simp [h1]), by unfold ISt.closedS; rw [if_pos ⟨H0.out, h1⟩]; exact HD⟩
  · have b0 : (i.e != 0) = true := bne_iff_ne.2 h0
    go_enter Try.func124, Try.ntmps124
    go_wp2_with fail
    refine (in_err H).mono ?_
    rintro en w1 ⟨rfl, rfl⟩
    have HA := H
    go_wp2
    go_ret
    rw [← HS.out]
    exact ⟨ret_bool (by simp [h0]), by unfold ISt.closedS; rw [if_neg (fun h => h0 h.1)]; exact HA⟩
set_option maxRecDepth 100000 in
set_option maxHeartbeats 400000 in
theorem rb1_calls {A : Asn} (b : TBegin) (v : Int) (p1 p2 : Nat) (h0 : i64 b.timeout) (h2 : i64 b.epoch) (H : Hd (A :: Cel p1 b.cells 103 :: Cel p2 #[.int .i64 v] 3 :: F) w) :
    Calls Try.prog 125 #[.pointer (some ⟨p1, 0, none⟩), .pointer (some ⟨p2, 0, none⟩)] w fun en w' => en = .returned (.int .i64 (b.check v)) ∧ Hd (A :: Cel p1 b.cells 103 :: Cel p2 #[.int .i64 v] 3 :: F) w' := by
  have HC := bcheck_calls b v h0.1 h0.2 h2.1 h2.2 H
  generalize b.check v = c at HC ⊢
  obtain ⟨⟨nu, d⟩, t, p, n⟩ := b
  unfold TBegin.cells at HC H ⊢
  simp only at HC H ⊢
  have HC2 := Lib.hid HC
  clear HC
  have c0 : w.cell? ⟨p1, 0, none⟩ = some (.bool nu) := H.t.c 0
  have c1 : w.cell? ⟨p1, 1, none⟩ = some (.string (toS d)) := H.t.c 1
  have c2 : w.cell? ⟨p1, 2, none⟩ = some (.int .i64 t) := H.t.c 2
  have c3 : w.cell? ⟨p1, 3, none⟩ = some (.int .i64 p) := H.t.c 3
  have c4 : w.cell? ⟨p1, 4, none⟩ = some (.int .i64 n) := H.t.c 4
  have d0 : w.cell? ⟨p2, 0, none⟩ = some (.int .i64 v) := H.t.t.c 0
  go_enter Try.func125, Try.ntmps125
  go_wp2_with fail
  refine HC2.out.mono ?_
  rintro en w1 ⟨rfl, HA⟩
  go_wp2
  go_ret
  exact ⟨rfl, HA⟩
end
end Go.Proofs.Ytflgfbffglmmeaa
