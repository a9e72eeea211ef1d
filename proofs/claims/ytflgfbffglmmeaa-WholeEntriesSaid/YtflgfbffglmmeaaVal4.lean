/-
  Values: may they be? Topics, written; how many things follow; keys.
-/
import Derived.Test.YtflgfbffglmmeaaVal3
namespace Go.Proofs.Ytflgfbffglmmeaa
open Go.RowKit
set_option linter.unusedVariables false
set_option linter.unusedSimpArgs false
/-- A value, and where its topics lie. -/
structure ValH where
  producer : Int
  epoch : Int
  timeout : Int
  state : Int
  ls : List TopicH
  updated : Int
  started : Int
  A : Option Addr
  c : Nat
def ValH.v (x : ValH) : TVal := ⟨x.producer, x.epoch, x.timeout, x.state, x.ls.map TopicH.t, x.updated, x.started⟩
def ValH.cells (x : ValH) : Array Value := #[.int .i64 x.producer, .int .i64 x.epoch, .int .i64 x.timeout, .int .i64 x.state, .slice x.A x.ls.length x.c, .int .i64 x.updated, .int .i64 x.started]
structure ValH.szd (x : ValH) : Prop where
  producer : -9223372036854775808 ≤ x.producer ∧ x.producer ≤ 9223372036854775807
  epoch : -9223372036854775808 ≤ x.epoch ∧ x.epoch ≤ 9223372036854775807
  timeout : -9223372036854775808 ≤ x.timeout ∧ x.timeout ≤ 9223372036854775807
  state : -9223372036854775808 ≤ x.state ∧ x.state ≤ 9223372036854775807
  updated : -9223372036854775808 ≤ x.updated ∧ x.updated ≤ 9223372036854775807
  started : -9223372036854775808 ≤ x.started ∧ x.started ≤ 9223372036854775807
  many : x.ls.length ≤ 1000000000
  tops : ∀ h ∈ x.ls, h.t.szd
section
variable {F : List Asn} {w : World} {g : Nat} {o : OSt} {i : ISt}
theorem idle_calls' (s : Int) (w : World) : Calls Try.prog 155 #[.int .i64 s] w fun en w' => en = .returned (.bool (idle s)) ∧ w' = w := (idle_calls s w).mono fun _ _ ⟨a, b⟩ => ⟨a, b.symm⟩
set_option maxRecDepth 100000 in
set_option maxHeartbeats 4000000 in
theorem vchk_calls (x : ValH) (hz : x.szd) (hr : ∀ w', Hd F w' → Rows KTop 2 w' x.A x.ls) (H : Hd F w) :
    Calls Try.prog 80 #[.agg x.cells] w fun en w' => en = .returned (.int .i64 x.v.check) ∧ Hd F w' := by
  have he : x.v.check = if x.producer < 0 ∨ x.epoch < 0 ∨ fitsB x.epoch 2 = false ∨ x.timeout < 0 ∨ fitsB x.timeout 4 = false ∨ x.updated < 0 ∨ x.started < -1 then 11
    else if x.state < 0 ∨ 7 ≤ x.state then 12
    else if idle x.state ≠ decide (x.ls.length = 0) ∨ decide (x.state = 0) ≠ decide (x.started = -1) then 10
    else if topicsOk (x.ls.map TopicH.t) = false then 13 else 0 := by
      unfold TVal.check ValH.v
      simp only [List.length_map]
  have HA := H.alloc x.cells 37
  have HT := fun w1 H => topicsOk_calls (F := Cel w.heap.size x.cells 37 :: F) (w := w1) x.ls x.A x.c hz.many hz.tops (fun w' h => hr w' h.t) H
  generalize x.v.check = R at he ⊢
  have h1 := hz.epoch
  have h2 := hz.timeout
  clear hz hr
  obtain ⟨p, e, t, s, ls, u, st, A, c⟩ := x
  unfold ValH.cells at *
  simp only at he HA HT h1 h2 ⊢
  generalize topicsOk (ls.map TopicH.t) = tk at he HT
  replace he := Lib.hid he
  replace HT := Lib.hid HT
  have ca := HA.c
  by_cases q1 : p < 0
  · have b0 : decide (p < 0) = true := decide_eq_true q1
    have e2 := Lib.hid (he.out.trans (if_pos (.inl q1)))
    clear q1
    go_enter Try.func80, Try.ntmps80
    go_wp2
    go_ret
    rw [e2.out]
    exact ⟨rfl, HA.t⟩
  have b1 : decide (p < 0) = false := decide_eq_false q1
  by_cases q2 : e < 0
  · have b0 : decide (e < 0) = true := decide_eq_true q2
    have e2 := Lib.hid (he.out.trans (if_pos (.inr (.inl q2))))
    clear q1 q2
    go_enter Try.func80, Try.ntmps80
    go_wp2
    go_ret
    rw [e2.out]
    exact ⟨rfl, HA.t⟩
  have b2 : decide (e < 0) = false := decide_eq_false q2
  have N1 := fun w1 => fits_calls e 2 w1 (by omega) h1.1 h1.2
  cases q3 : fitsB e 2
  · have e2 := Lib.hid (he.out.trans (if_pos (.inr (.inr (.inl q3)))))
    rw [q3] at N1
    replace N1 := Lib.hid N1
    clear q1 q2 q3
    go_enter Try.func80, Try.ntmps80
    go_wp2_with fail
    refine (N1.out _).mono ?_
    rintro en w1 ⟨rfl, rfl⟩
    go_wp2
    go_ret
    rw [e2.out]
    exact ⟨rfl, HA.t⟩
  rw [q3] at N1
  replace N1 := Lib.hid N1
  by_cases q4 : t < 0
  · have b0 : decide (t < 0) = true := decide_eq_true q4
    have e2 := Lib.hid (he.out.trans (if_pos (.inr (.inr (.inr (.inl q4))))))
    clear q1 q2 q3 q4
    go_enter Try.func80, Try.ntmps80
    go_wp2_with fail
    refine (N1.out _).mono ?_
    rintro en w1 ⟨rfl, rfl⟩
    go_wp2
    go_ret
    rw [e2.out]
    exact ⟨rfl, HA.t⟩
  have b4 : decide (t < 0) = false := decide_eq_false q4
  have N2 := fun w1 => fits_calls t 4 w1 (by omega) h2.1 h2.2
  cases q5 : fitsB t 4
  · have e2 := Lib.hid (he.out.trans (if_pos (.inr (.inr (.inr (.inr (.inl q5)))))))
    rw [q5] at N2
    replace N2 := Lib.hid N2
    clear q1 q2 q3 q4 q5
    go_enter Try.func80, Try.ntmps80
    go_wp2_with fail
    refine (N1.out _).mono ?_
    rintro en w1 ⟨rfl, rfl⟩
    go_wp2_with fail
    refine (N2.out _).mono ?_
    rintro en w1 ⟨rfl, rfl⟩
    go_wp2
    go_ret
    rw [e2.out]
    exact ⟨rfl, HA.t⟩
  rw [q5] at N2
  replace N2 := Lib.hid N2
  by_cases q6 : u < 0 ∨ st < -1
  · have e2 := Lib.hid (he.out.trans (if_pos (.inr (.inr (.inr (.inr (.inr q6)))))))
    by_cases q7 : u < 0
    case' pos => have b6 : decide (u < 0) = true := decide_eq_true q7
    case' neg => have b6 : decide (u < 0) = false := decide_eq_false q7
    case' neg => have b7 : decide (st < -1) = true := decide_eq_true (by omega)
    all_goals
      clear q1 q2 q3 q4 q5 q6 q7
      go_enter Try.func80, Try.ntmps80
      go_wp2_with fail
      refine (N1.out _).mono ?_
      rintro en w1 ⟨rfl, rfl⟩
      go_wp2_with fail
      refine (N2.out _).mono ?_
      rintro en w1 ⟨rfl, rfl⟩
      go_wp2
      go_ret
      rw [e2.out]
      exact ⟨rfl, HA.t⟩
  have b6 : decide (u < 0) = false := decide_eq_false (by omega)
  have b7 : decide (st < -1) = false := decide_eq_false (by omega)
  have e2 := Lib.hid (he.out.trans (if_neg (by rw [q3, q5]; simp; omega)))
  clear q1 q2 q3 q4 q5 q6 he
  by_cases q8 : s < 0 ∨ 7 ≤ s
  · have e3 := Lib.hid (e2.out.trans (if_pos q8))
    by_cases q9 : s < 0
    case' pos => have b8 : decide (s < 0) = true := decide_eq_true q9
    case' neg => have b8 : decide (s < 0) = false := decide_eq_false q9
    case' neg => have b9 : decide (7 ≤ s) = true := decide_eq_true (by omega)
    all_goals
      clear q8 q9
      go_enter Try.func80, Try.ntmps80
      go_wp2_with fail
      refine (N1.out _).mono ?_
      rintro en w1 ⟨rfl, rfl⟩
      go_wp2_with fail
      refine (N2.out _).mono ?_
      rintro en w1 ⟨rfl, rfl⟩
      go_wp2
      go_ret
      rw [e3.out]
      exact ⟨rfl, HA.t⟩
  have b8 : decide (s < 0) = false := decide_eq_false (by omega)
  have b9 : decide (7 ≤ s) = false := decide_eq_false (by omega)
  have e3 := Lib.hid (e2.out.trans (if_neg q8))
  clear q8 e2
  have z0 : (s == 0) = decide (s = 0) := rfl
  have z1 : (st == -1) = decide (st = -1) := rfl
  have z2 : ((ls.length : Int) == 0) = decide (ls.length = 0) := by
    rw [Bool.eq_iff_iff]; simp
  have z3 : (ls.length == 0) = decide (ls.length = 0) := rfl
  have NI := idle_calls' s
  generalize idle s = a at e3 NI
  generalize decide (s = 0) = x0 at z0 e3
  generalize decide (st = -1) = x1 at z1 e3
  generalize decide (ls.length = 0) = x2 at z2 z3 e3
  replace NI := Lib.hid NI
  by_cases q10 : a = x2
  case neg =>
    have e4 := Lib.hid (e3.out.trans (if_pos (.inl q10)))
    cases a
    case' false => cases x2
    case' true => cases x2
    case' false.false => exact absurd rfl q10
    case' true.true => exact absurd rfl q10
    all_goals
      clear q10
      go_enter Try.func80, Try.ntmps80
      go_wp2_with fail
      refine (N1.out _).mono ?_
      rintro en w1 ⟨rfl, rfl⟩
      go_wp2_with fail
      refine (N2.out _).mono ?_
      rintro en w1 ⟨rfl, rfl⟩
      go_wp2_with fail
      go_quiet ((go_at_call 155; exact Calls.quiet_of_same (NI.out _)))
      go_wp2
      go_ret
      rw [e4.out]
      exact ⟨rfl, (HA.drewN _).t⟩
  subst q10
  by_cases q11 : x0 = x1
  case neg =>
    have e4 := Lib.hid (e3.out.trans (if_pos (.inr q11)))
    cases x0
    case' false => cases x1
    case' true => cases x1
    case' false.false => exact absurd rfl q11
    case' true.true => exact absurd rfl q11
    all_goals
      clear q11
      cases a
      all_goals
        go_enter Try.func80, Try.ntmps80
        go_wp2_with fail
        refine (N1.out _).mono ?_
        rintro en w1 ⟨rfl, rfl⟩
        go_wp2_with fail
        refine (N2.out _).mono ?_
        rintro en w1 ⟨rfl, rfl⟩
        go_wp2_with fail
        go_quiet ((go_at_call 155; exact Calls.quiet_of_same (NI.out _)))
        go_wp2
        go_ret
        rw [e4.out]
        exact ⟨rfl, (HA.drewN _).t⟩
  have e4 := Lib.hid (e3.out.trans (if_neg (by simp [q11])))
  subst q11
  clear e3
  cases x0
  all_goals
    cases a
    all_goals
      go_enter Try.func80, Try.ntmps80
      go_wp2_with fail
      refine (N1.out _).mono ?_
      rintro en w1 ⟨rfl, rfl⟩
      go_wp2_with fail
      refine (N2.out _).mono ?_
      rintro en w1 ⟨rfl, rfl⟩
      go_wp2_with fail
      go_quiet ((go_at_call 155; exact Calls.quiet_of_same (NI.out _)))
      go_wp2_with fail
      refine (HT.out _ (HA.drewN _)).mono ?_
      rintro en w1 ⟨rfl, HB⟩
      cases tk
      · have e5 := Lib.hid (e4.out.trans (if_pos rfl))
        go_wp2
        go_ret
        rw [e5.out]
        exact ⟨rfl, HB.t⟩
      · have e5 := Lib.hid (e4.out.trans (if_neg (by decide)))
        go_wp2
        go_ret
        rw [e5.out]
        exact ⟨rfl, HB.t⟩
end
end Go.Proofs.Ytflgfbffglmmeaa
