/-
  Requests by which transactions begin and end: their checks; a bool's byte.
-/
import Derived.Test.YtflgfbffglmmeaaTxn
namespace Go.Proofs.Ytflgfbffglmmeaa
open Go.RowKit
set_option linter.unusedVariables false
set_option linter.unusedSimpArgs false
section
variable {F : List Asn} {w : World} {g : Nat} {o : OSt} {i : ISt}
set_option maxHeartbeats 400000 in
theorem echeck_calls (e : TEnd) (he1 : -9223372036854775808 ≤ e.epoch) (he2 : e.epoch ≤ 9223372036854775807) (H : Hd F w) :
    Calls Try.prog 49 #[.agg e.cells] w fun en w' => en = .returned (.int .i64 e.check) ∧ Hd F w' := by
  have hr : e.check = if kright e.id = false then 4 else if who e.producer e.epoch = false then 11 else 0 := rfl
  obtain ⟨d, p, n, c⟩ := e
  simp only at hr he1 he2
  have HA := H.alloc #[.string (toS d), .int .i64 p, .int .i64 n, .bool c] 105
  unfold TEnd.cells
  generalize TEnd.check ⟨d, p, n, c⟩ = R at hr
  have HR := Lib.hid hr
  clear hr
  go_enter Try.func49, Try.ntmps49
  go_wp2_with fail
  refine (kright_calls d _).mono ?_
  rintro en w1 ⟨rfl, rfl⟩
  cases hk : kright d
  · go_wp2
    go_ret
    exact ⟨ret_int (by rw [HR.out, hk]; rfl), HA.t⟩
  · go_wp2_with fail
    refine (who_calls p n he1 he2 _).mono ?_
    rintro en w1 ⟨rfl, rfl⟩
    cases hw : who p n
    · go_wp2
      go_ret
      exact ⟨ret_int (by rw [HR.out, hk, hw]; rfl), HA.t⟩
    · go_wp2
      go_ret
      exact ⟨ret_int (by rw [HR.out, hk, hw]; rfl), HA.t⟩
set_option maxHeartbeats 400000 in
theorem bcheck_calls (b : TBegin) (v : Int) (ht1 : -9223372036854775808 ≤ b.timeout) (ht2 : b.timeout ≤ 9223372036854775807) (he1 : -9223372036854775808 ≤ b.epoch) (he2 : b.epoch ≤ 9223372036854775807) (H : Hd F w) :
    Calls Try.prog 51 #[.agg b.cells, .int .i64 v] w fun en w' => en = .returned (.int .i64 (b.check v)) ∧ Hd F w' := by
  have hr : b.check v = if b.id.right = false ∨ (b.id.nu = false ∧ kright b.id.d = false) then 4
    else if b.timeout < 0 ∨ fitsB b.timeout 4 = false then 11
    else if ¬ (b.producer = -1 ∧ b.epoch = -1) ∧ ¬ (0 < v ∧ who b.producer b.epoch = true) then 11 else 0 := rfl
  obtain ⟨⟨nu, d⟩, t, p, n⟩ := b
  simp only at hr ht1 ht2 he1 he2
  have HA := H.alloc #[.bool nu, .string (toS d), .int .i64 t, .int .i64 p, .int .i64 n] 103
  unfold TBegin.cells
  generalize TBegin.check ⟨⟨nu, d⟩, t, p, n⟩ v = R at hr
  have HR := Lib.hid hr
  clear hr
  have hsp : (p = -1 ∧ n = -1) ∨ (p = -1 ∧ n ≠ -1) ∨ p ≠ -1 := by omega
  rcases hsp with ⟨hp, hn⟩ | ⟨hp, hn⟩ | hp
  · have hpb : (p == -1) = true := beq_iff_eq.2 hp
    have hnb : (n == -1) = true := beq_iff_eq.2 hn
    have HP := Lib.hid hp
    have HN := Lib.hid hn
    clear hp
    clear hn
    have HQ := bright_calls ⟨nu, d⟩ HA
    cases hq : Blob.right ⟨nu, d⟩
    · rw [hq] at HQ
      have HQ2 := Lib.hid HQ
      clear HQ
      go_enter Try.func51, Try.ntmps51
      go_wp2_with fail
      refine HQ2.out.mono ?_
      rintro en w2 ⟨rfl, HB⟩
      go_wp2
      go_ret
      exact ⟨ret_int (by rw [HR.out]; simp [hq]), HB.t⟩
    · rw [hq] at HQ
      have HQ2 := Lib.hid HQ
      clear HQ
      cases nu
      · go_enter Try.func51, Try.ntmps51
        go_wp2_with fail
        refine HQ2.out.mono ?_
        rintro en w2 ⟨rfl, HB⟩
        have c0 : w2.cell? ⟨w.heap.size, 0, none⟩ = some (.bool false) := HB.c 0
        have c1 : w2.cell? ⟨w.heap.size, 1, none⟩ = some (.string (toS d)) := HB.c 1
        have c2 : w2.cell? ⟨w.heap.size, 2, none⟩ = some (.int .i64 t) := HB.c 2
        have c3 : w2.cell? ⟨w.heap.size, 3, none⟩ = some (.int .i64 p) := HB.c 3
        have c4 : w2.cell? ⟨w.heap.size, 4, none⟩ = some (.int .i64 n) := HB.c 4
        go_wp2_with fail
        refine (kright_calls d _).mono ?_
        rintro en w2 ⟨rfl, rfl⟩
        cases hk : kright d
        · go_wp2
          go_ret
          exact ⟨ret_int (by rw [HR.out]; simp [hq, hk]), HB.t⟩
        · by_cases h0 : t < 0
          · have h0b : decide (t < 0) = true := decide_eq_true h0
            go_wp2
            go_ret
            exact ⟨ret_int (by rw [HR.out]; simp [hq, hk, HP.out, HN.out, h0]), HB.t⟩
          · have h0b : decide (t < 0) = false := decide_eq_false h0
            go_wp2_with fail
            refine (fits_calls t 4 _ (by omega) ht1 ht2).mono ?_
            rintro en w3 ⟨rfl, rfl⟩
            cases hf : fitsB t 4
            · go_wp2
              go_ret
              exact ⟨ret_int (by rw [HR.out]; simp [hq, hk, HP.out, HN.out, (show ¬ t < 0 by omega), hf]), HB.t⟩
            · go_wp2
              go_ret
              exact ⟨ret_int (by rw [HR.out]; simp [hq, hk, HP.out, HN.out, (show ¬ t < 0 by omega), hf]), HB.t⟩
      · go_enter Try.func51, Try.ntmps51
        go_wp2_with fail
        refine HQ2.out.mono ?_
        rintro en w2 ⟨rfl, HB⟩
        have c0 : w2.cell? ⟨w.heap.size, 0, none⟩ = some (.bool true) := HB.c 0
        have c1 : w2.cell? ⟨w.heap.size, 1, none⟩ = some (.string (toS d)) := HB.c 1
        have c2 : w2.cell? ⟨w.heap.size, 2, none⟩ = some (.int .i64 t) := HB.c 2
        have c3 : w2.cell? ⟨w.heap.size, 3, none⟩ = some (.int .i64 p) := HB.c 3
        have c4 : w2.cell? ⟨w.heap.size, 4, none⟩ = some (.int .i64 n) := HB.c 4
        by_cases h0 : t < 0
        · have h0b : decide (t < 0) = true := decide_eq_true h0
          go_wp2
          go_ret
          exact ⟨ret_int (by rw [HR.out]; simp [hq, HP.out, HN.out, h0]), HB.t⟩
        · have h0b : decide (t < 0) = false := decide_eq_false h0
          go_wp2_with fail
          refine (fits_calls t 4 _ (by omega) ht1 ht2).mono ?_
          rintro en w3 ⟨rfl, rfl⟩
          cases hf : fitsB t 4
          · go_wp2
            go_ret
            exact ⟨ret_int (by rw [HR.out]; simp [hq, HP.out, HN.out, (show ¬ t < 0 by omega), hf]), HB.t⟩
          · go_wp2
            go_ret
            exact ⟨ret_int (by rw [HR.out]; simp [hq, HP.out, HN.out, (show ¬ t < 0 by omega), hf]), HB.t⟩
  · have hpb : (p == -1) = true := beq_iff_eq.2 hp
    have hnb : (n == -1) = false := by simp [hn]
    have HP := Lib.hid hp
    have HN := Lib.hid hn
    clear hp
    clear hn
    have HQ := bright_calls ⟨nu, d⟩ HA
    cases hq : Blob.right ⟨nu, d⟩
    · rw [hq] at HQ
      have HQ2 := Lib.hid HQ
      clear HQ
      go_enter Try.func51, Try.ntmps51
      go_wp2_with fail
      refine HQ2.out.mono ?_
      rintro en w2 ⟨rfl, HB⟩
      go_wp2
      go_ret
      exact ⟨ret_int (by rw [HR.out]; simp [hq]), HB.t⟩
    · rw [hq] at HQ
      have HQ2 := Lib.hid HQ
      clear HQ
      cases nu
      · go_enter Try.func51, Try.ntmps51
        go_wp2_with fail
        refine HQ2.out.mono ?_
        rintro en w2 ⟨rfl, HB⟩
        have c0 : w2.cell? ⟨w.heap.size, 0, none⟩ = some (.bool false) := HB.c 0
        have c1 : w2.cell? ⟨w.heap.size, 1, none⟩ = some (.string (toS d)) := HB.c 1
        have c2 : w2.cell? ⟨w.heap.size, 2, none⟩ = some (.int .i64 t) := HB.c 2
        have c3 : w2.cell? ⟨w.heap.size, 3, none⟩ = some (.int .i64 p) := HB.c 3
        have c4 : w2.cell? ⟨w.heap.size, 4, none⟩ = some (.int .i64 n) := HB.c 4
        go_wp2_with fail
        refine (kright_calls d _).mono ?_
        rintro en w2 ⟨rfl, rfl⟩
        cases hk : kright d
        · go_wp2
          go_ret
          exact ⟨ret_int (by rw [HR.out]; simp [hq, hk]), HB.t⟩
        · by_cases h0 : t < 0
          · have h0b : decide (t < 0) = true := decide_eq_true h0
            go_wp2
            go_ret
            exact ⟨ret_int (by rw [HR.out]; simp [hq, hk, HN.out, h0]), HB.t⟩
          · have h0b : decide (t < 0) = false := decide_eq_false h0
            go_wp2_with fail
            refine (fits_calls t 4 _ (by omega) ht1 ht2).mono ?_
            rintro en w3 ⟨rfl, rfl⟩
            cases hf : fitsB t 4
            · go_wp2
              go_ret
              exact ⟨ret_int (by rw [HR.out]; simp [hq, hk, HN.out, (show ¬ t < 0 by omega), hf]), HB.t⟩
            · by_cases hv : 0 < v
              · have hvb : decide (0 < v) = true := decide_eq_true hv
                go_wp2_with fail
                refine (who_calls p n he1 he2 _).mono ?_
                rintro en w4 ⟨rfl, rfl⟩
                cases hw : who p n
                · go_wp2
                  go_ret
                  exact ⟨ret_int (by rw [HR.out]; simp [hq, hk, HN.out, (show ¬ t < 0 by omega), hf, hw]), HB.t⟩
                · go_wp2
                  go_ret
                  exact ⟨ret_int (by rw [HR.out]; simp [hq, hk, HN.out, (show ¬ t < 0 by omega), hf, hw, (show 0 < v by omega)]), HB.t⟩
              · have hvb : decide (0 < v) = false := decide_eq_false hv
                go_wp2
                go_ret
                exact ⟨ret_int (by rw [HR.out]; simp [hq, hk, HN.out, (show ¬ t < 0 by omega), hf, (show ¬ 0 < v by omega)]), HB.t⟩
      · go_enter Try.func51, Try.ntmps51
        go_wp2_with fail
        refine HQ2.out.mono ?_
        rintro en w2 ⟨rfl, HB⟩
        have c0 : w2.cell? ⟨w.heap.size, 0, none⟩ = some (.bool true) := HB.c 0
        have c1 : w2.cell? ⟨w.heap.size, 1, none⟩ = some (.string (toS d)) := HB.c 1
        have c2 : w2.cell? ⟨w.heap.size, 2, none⟩ = some (.int .i64 t) := HB.c 2
        have c3 : w2.cell? ⟨w.heap.size, 3, none⟩ = some (.int .i64 p) := HB.c 3
        have c4 : w2.cell? ⟨w.heap.size, 4, none⟩ = some (.int .i64 n) := HB.c 4
        by_cases h0 : t < 0
        · have h0b : decide (t < 0) = true := decide_eq_true h0
          go_wp2
          go_ret
          exact ⟨ret_int (by rw [HR.out]; simp [hq, HN.out, h0]), HB.t⟩
        · have h0b : decide (t < 0) = false := decide_eq_false h0
          go_wp2_with fail
          refine (fits_calls t 4 _ (by omega) ht1 ht2).mono ?_
          rintro en w3 ⟨rfl, rfl⟩
          cases hf : fitsB t 4
          · go_wp2
            go_ret
            exact ⟨ret_int (by rw [HR.out]; simp [hq, HN.out, (show ¬ t < 0 by omega), hf]), HB.t⟩
          · by_cases hv : 0 < v
            · have hvb : decide (0 < v) = true := decide_eq_true hv
              go_wp2_with fail
              refine (who_calls p n he1 he2 _).mono ?_
              rintro en w4 ⟨rfl, rfl⟩
              cases hw : who p n
              · go_wp2
                go_ret
                exact ⟨ret_int (by rw [HR.out]; simp [hq, HN.out, (show ¬ t < 0 by omega), hf, hw]), HB.t⟩
              · go_wp2
                go_ret
                exact ⟨ret_int (by rw [HR.out]; simp [hq, HN.out, (show ¬ t < 0 by omega), hf, hw, (show 0 < v by omega)]), HB.t⟩
            · have hvb : decide (0 < v) = false := decide_eq_false hv
              go_wp2
              go_ret
              exact ⟨ret_int (by rw [HR.out]; simp [hq, HN.out, (show ¬ t < 0 by omega), hf, (show ¬ 0 < v by omega)]), HB.t⟩
  · have hpb : (p == -1) = false := by simp [hp]
    have HP := Lib.hid hp
    clear hp
    have HQ := bright_calls ⟨nu, d⟩ HA
    cases hq : Blob.right ⟨nu, d⟩
    · rw [hq] at HQ
      have HQ2 := Lib.hid HQ
      clear HQ
      go_enter Try.func51, Try.ntmps51
      go_wp2_with fail
      refine HQ2.out.mono ?_
      rintro en w2 ⟨rfl, HB⟩
      go_wp2
      go_ret
      exact ⟨ret_int (by rw [HR.out]; simp [hq]), HB.t⟩
    · rw [hq] at HQ
      have HQ2 := Lib.hid HQ
      clear HQ
      cases nu
      · go_enter Try.func51, Try.ntmps51
        go_wp2_with fail
        refine HQ2.out.mono ?_
        rintro en w2 ⟨rfl, HB⟩
        have c0 : w2.cell? ⟨w.heap.size, 0, none⟩ = some (.bool false) := HB.c 0
        have c1 : w2.cell? ⟨w.heap.size, 1, none⟩ = some (.string (toS d)) := HB.c 1
        have c2 : w2.cell? ⟨w.heap.size, 2, none⟩ = some (.int .i64 t) := HB.c 2
        have c3 : w2.cell? ⟨w.heap.size, 3, none⟩ = some (.int .i64 p) := HB.c 3
        have c4 : w2.cell? ⟨w.heap.size, 4, none⟩ = some (.int .i64 n) := HB.c 4
        go_wp2_with fail
        refine (kright_calls d _).mono ?_
        rintro en w2 ⟨rfl, rfl⟩
        cases hk : kright d
        · go_wp2
          go_ret
          exact ⟨ret_int (by rw [HR.out]; simp [hq, hk]), HB.t⟩
        · by_cases h0 : t < 0
          · have h0b : decide (t < 0) = true := decide_eq_true h0
            go_wp2
            go_ret
            exact ⟨ret_int (by rw [HR.out]; simp [hq, hk, HP.out, h0]), HB.t⟩
          · have h0b : decide (t < 0) = false := decide_eq_false h0
            go_wp2_with fail
            refine (fits_calls t 4 _ (by omega) ht1 ht2).mono ?_
            rintro en w3 ⟨rfl, rfl⟩
            cases hf : fitsB t 4
            · go_wp2
              go_ret
              exact ⟨ret_int (by rw [HR.out]; simp [hq, hk, HP.out, (show ¬ t < 0 by omega), hf]), HB.t⟩
            · by_cases hv : 0 < v
              · have hvb : decide (0 < v) = true := decide_eq_true hv
                go_wp2_with fail
                refine (who_calls p n he1 he2 _).mono ?_
                rintro en w4 ⟨rfl, rfl⟩
                cases hw : who p n
                · go_wp2
                  go_ret
                  exact ⟨ret_int (by rw [HR.out]; simp [hq, hk, HP.out, (show ¬ t < 0 by omega), hf, hw]), HB.t⟩
                · go_wp2
                  go_ret
                  exact ⟨ret_int (by rw [HR.out]; simp [hq, hk, HP.out, (show ¬ t < 0 by omega), hf, hw, (show 0 < v by omega)]), HB.t⟩
              · have hvb : decide (0 < v) = false := decide_eq_false hv
                go_wp2
                go_ret
                exact ⟨ret_int (by rw [HR.out]; simp [hq, hk, HP.out, (show ¬ t < 0 by omega), hf, (show ¬ 0 < v by omega)]), HB.t⟩
      · go_enter Try.func51, Try.ntmps51
        go_wp2_with fail
        refine HQ2.out.mono ?_
        rintro en w2 ⟨rfl, HB⟩
        have c0 : w2.cell? ⟨w.heap.size, 0, none⟩ = some (.bool true) := HB.c 0
        have c1 : w2.cell? ⟨w.heap.size, 1, none⟩ = some (.string (toS d)) := HB.c 1
        have c2 : w2.cell? ⟨w.heap.size, 2, none⟩ = some (.int .i64 t) := HB.c 2
        have c3 : w2.cell? ⟨w.heap.size, 3, none⟩ = some (.int .i64 p) := HB.c 3
        have c4 : w2.cell? ⟨w.heap.size, 4, none⟩ = some (.int .i64 n) := HB.c 4
        by_cases h0 : t < 0
        · have h0b : decide (t < 0) = true := decide_eq_true h0
          go_wp2
          go_ret
          exact ⟨ret_int (by rw [HR.out]; simp [hq, HP.out, h0]), HB.t⟩
        · have h0b : decide (t < 0) = false := decide_eq_false h0
          go_wp2_with fail
          refine (fits_calls t 4 _ (by omega) ht1 ht2).mono ?_
          rintro en w3 ⟨rfl, rfl⟩
          cases hf : fitsB t 4
          · go_wp2
            go_ret
            exact ⟨ret_int (by rw [HR.out]; simp [hq, HP.out, (show ¬ t < 0 by omega), hf]), HB.t⟩
          · by_cases hv : 0 < v
            · have hvb : decide (0 < v) = true := decide_eq_true hv
              go_wp2_with fail
              refine (who_calls p n he1 he2 _).mono ?_
              rintro en w4 ⟨rfl, rfl⟩
              cases hw : who p n
              · go_wp2
                go_ret
                exact ⟨ret_int (by rw [HR.out]; simp [hq, HP.out, (show ¬ t < 0 by omega), hf, hw]), HB.t⟩
              · go_wp2
                go_ret
                exact ⟨ret_int (by rw [HR.out]; simp [hq, HP.out, (show ¬ t < 0 by omega), hf, hw, (show 0 < v by omega)]), HB.t⟩
            · have hvb : decide (0 < v) = false := decide_eq_false hv
              go_wp2
              go_ret
              exact ⟨ret_int (by rw [HR.out]; simp [hq, HP.out, (show ¬ t < 0 by omega), hf, (show ¬ 0 < v by omega)]), HB.t⟩
set_option maxHeartbeats 400000 in
theorem putbool_calls (b : Bool) (H : Hd (Out g o :: F) w) (hl : (o.put [if b then 1 else 0]).b.length ≤ 140737488355328) : Calls Try.prog 123 #[.pointer (some ⟨g, 0, none⟩), .bool b] w fun en w' => en = .returned (.tuple #[]) ∧ Hd (Out g (o.put [if b then 1 else 0]) :: F) w' := by
  cases b
  · go_enter Try.func123, Try.ntmps123
    go_wp2_with fail
    refine (out_byte 0 (by decide) (by decide) H hl).mono ?_
    rintro en w1 ⟨rfl, HA⟩
    go_wp2
    (first | go_end0 | ((try simp only [Exit.inBlock, Exit.then]); refine bodyPost_ret (results_none rfl _ _ _) rfl ?_))
    exact ⟨rfl, HA⟩
  · go_enter Try.func123, Try.ntmps123
    go_wp2_with fail
    refine (out_byte 1 (by decide) (by decide) H hl).mono ?_
    rintro en w1 ⟨rfl, HA⟩
    go_wp2
    (first | go_end0 | ((try simp only [Exit.inBlock, Exit.then]); refine bodyPost_ret (results_none rfl _ _ _) rfl ?_))
    exact ⟨rfl, HA⟩
def ISt.boolV (i : ISt) : Bool := decide (i.intV 1 = 1)
def ISt.boolS (i : ISt) : ISt := if i.intV 1 ≠ 0 ∧ i.intV 1 ≠ 1 then (i.intS 1).fail 11 else i.intS 1
set_option maxHeartbeats 400000 in
theorem bool_calls (H : Hd (Inp g i :: F) w) : Calls Try.prog 126 #[.pointer (some ⟨g, 0, none⟩)] w fun en w' => en = .returned (.bool i.boolV) ∧ Hd (Inp g i.boolS :: F) w' := by
  unfold ISt.boolV ISt.boolS
  have HI := in_int 1 (by decide) (by decide) H
  generalize i.intV 1 = n at HI
  generalize i.intS 1 = j at HI
  have HI2 := Lib.hid HI
  clear HI
  generalize hS : (if n ≠ 0 ∧ n ≠ 1 then j.fail 11 else j) = S
  have HS := Lib.hid hS
  clear hS
  go_enter Try.func126, Try.ntmps126
  go_wp2_with fail
  refine HI2.out.mono ?_
  rintro en w1 ⟨rfl, HA⟩
  by_cases h0 : n = 0
  · subst h0
    go_wp2
    go_ret
    rw [← HS.out]
    exact ⟨rfl, HA⟩
  · by_cases h1 : n = 1
    · subst h1
      go_wp2
      go_ret
      rw [← HS.out]
      exact ⟨rfl, HA⟩
    · have b0 : (n != 0) = true := bne_iff_ne.2 h0
      have b1 : (n != 1) = true := bne_iff_ne.2 h1
      have b2 : (n == 1) = false := by simp [h1]
      go_wp2_with fail
      refine (in_fail 11 HA).mono ?_
      rintro en w2 ⟨rfl, HB⟩
      go_wp2
      go_ret
      rw [← HS.out, if_pos ⟨h0, h1⟩]
      exact ⟨ret_bool (by simp [h1]), HB⟩
end
end Go.Proofs.Ytflgfbffglmmeaa
