/-
  Heads of requests; requests by which transactions begin and end: what may be.
-/
import Derived.Test.YtflgfbffglmmeaaVersion
import Derived.Deep.RegionHeld3
namespace Go.Proofs.Ytflgfbffglmmeaa
open Go.RowKit
set_option linter.unusedVariables false
set_option linter.unusedSimpArgs false

structure Head where
  kind : Int
  version : Int
  number : Int
  client : Blob
  deriving DecidableEq
def Head.cells (h : Head) : Array Value := #[.int .i64 h.kind, .int .i64 h.version, .int .i64 h.number, .bool h.client.nu, .string (toS h.client.d)]
structure TBegin where
  id : Blob
  timeout : Int
  producer : Int
  epoch : Int
  deriving DecidableEq
def TBegin.cells (b : TBegin) : Array Value := #[.bool b.id.nu, .string (toS b.id.d), .int .i64 b.timeout, .int .i64 b.producer, .int .i64 b.epoch]
structure TEnd where
  id : List UInt8
  producer : Int
  epoch : Int
  commit : Bool
  deriving DecidableEq
def TEnd.cells (e : TEnd) : Array Value := #[.string (toS e.id), .int .i64 e.producer, .int .i64 e.epoch, .bool e.commit]
def Head.check (h : Head) : Int := if vcheck h.kind h.version ≠ 0 then vcheck h.kind h.version else if fitsB h.number 4 = false then 11 else if h.client.right = false ∨ 32767 < h.client.d.length then 4 else 0
def who (p e : Int) : Bool := decide (0 ≤ p) && decide (0 ≤ e) && fitsB e 2
def TEnd.check (e : TEnd) : Int := if kright e.id = false then 4 else if who e.producer e.epoch = false then 11 else 0
def TBegin.check (b : TBegin) (v : Int) : Int :=
  if b.id.right = false ∨ (b.id.nu = false ∧ kright b.id.d = false) then 4
  else if b.timeout < 0 ∨ fitsB b.timeout 4 = false then 11
  else if ¬ (b.producer = -1 ∧ b.epoch = -1) ∧ ¬ (0 < v ∧ who b.producer b.epoch = true) then 11 else 0
section
variable {F : List Asn} {w : World} {g : Nat} {o : OSt} {i : ISt}
set_option maxHeartbeats 400000 in
theorem rcheck_calls (h : Head) (hn1 : -9223372036854775808 ≤ h.number) (hn2 : h.number ≤ 9223372036854775807) (H : Hd F w) :
    Calls Try.prog 47 #[.agg h.cells] w fun en w' => en = .returned (.int .i64 h.check) ∧ Hd F w' := by
  have hr : h.check = if vcheck h.kind h.version ≠ 0 then vcheck h.kind h.version else if fitsB h.number 4 = false then 11 else if h.client.right = false ∨ 32767 < h.client.d.length then 4 else 0 := rfl
  obtain ⟨k, v, n, nu, d⟩ := h
  simp only at hr hn1 hn2
  have HV := vcheck_calls k v (H.alloc #[.int .i64 k, .int .i64 v, .int .i64 n, .bool nu, .string (toS d)] 101)
  unfold Head.cells
  generalize vcheck k v = c at hr HV
  generalize Head.check ⟨k, v, n, nu, d⟩ = R at hr
  have HR := Lib.hid hr
  clear hr
  have HV2 := Lib.hid HV
  clear HV
  have hs : (toS d).size = d.length := toS_size d
  go_enter Try.func47, Try.ntmps47
  go_wp2_with fail
  refine HV2.out.mono ?_
  rintro en w1 ⟨rfl, HA⟩
  have c2 : w1.cell? ⟨w.heap.size, 2, none⟩ = some (.int .i64 n) := HA.c 2
  have c3 : w1.cell? ⟨w.heap.size, 3, none⟩ = some (.bool nu) := HA.c 3
  have c4 : w1.cell? ⟨w.heap.size, 4, none⟩ = some (.string (toS d)) := HA.c 4
  by_cases hc : c = 0
  · have hb : (c != 0) = false := by simp [hc]
    go_wp2_with fail
    refine (fits_calls n 4 w1 (by omega) hn1 hn2).mono ?_
    rintro en w2 ⟨rfl, rfl⟩
    cases hf : fitsB n 4
    · go_wp2
      go_ret
      exact ⟨ret_int (by rw [HR.out, hc, hf]; rfl), HA.t⟩
    · have HB0 := bright_calls ⟨nu, d⟩ HA
      cases hq : Blob.right ⟨nu, d⟩
      · rw [hq] at HB0
        have HB3 := Lib.hid HB0
        clear HB0
        go_wp2_with fail
        refine HB3.out.mono ?_
        rintro en w2 ⟨rfl, HC⟩
        go_wp2
        go_ret
        exact ⟨ret_int (by rw [HR.out, hc, hf, hq]; rfl), HC.t⟩
      · rw [hq] at HB0
        have HB3 := Lib.hid HB0
        clear HB0
        by_cases hl : 32767 < d.length
        · have hlb : decide ((32767 : Int) < (d.length : Int)) = true := by simp; omega
          go_wp2_with fail
          refine HB3.out.mono ?_
          rintro en w2 ⟨rfl, HC⟩
          have hu0 : w2.cell? ⟨w.heap.size, 4, none⟩ = some (.string (toS d)) := HC.c 4
          go_wp2
          go_ret
          exact ⟨ret_int (by rw [HR.out, hc, hf, hq]; simp [hl]), HC.t⟩
        · have hlb : decide ((32767 : Int) < (d.length : Int)) = false := by simp; omega
          go_wp2_with fail
          refine HB3.out.mono ?_
          rintro en w2 ⟨rfl, HC⟩
          have hu0 : w2.cell? ⟨w.heap.size, 4, none⟩ = some (.string (toS d)) := HC.c 4
          go_wp2
          go_ret
          exact ⟨ret_int (by rw [HR.out, hc, hf, hq]; simp [hl]), HC.t⟩
  · have hb : (c != 0) = true := bne_iff_ne.2 hc
    go_wp2
    go_ret
    exact ⟨ret_int (by rw [HR.out, if_pos hc]), HA.t⟩
set_option maxHeartbeats 400000 in
theorem who_calls (p e : Int) (he1 : -9223372036854775808 ≤ e) (he2 : e ≤ 9223372036854775807) (w : World) : Calls Try.prog 120 #[.int .i64 p, .int .i64 e] w fun en w' => en = .returned (.bool (who p e)) ∧ w' = w := by
  by_cases hp : 0 ≤ p
  · have hpb : decide (0 ≤ p) = true := decide_eq_true hp
    by_cases he : 0 ≤ e
    · have heb : decide (0 ≤ e) = true := decide_eq_true he
      go_enter Try.func120, Try.ntmps120
      go_wp2_with fail
      refine (fits_calls e 2 w (by omega) he1 he2).mono ?_
      rintro en w2 ⟨rfl, rfl⟩
      go_wp2
      go_ret
      exact ⟨ret_bool (by unfold who; rw [hpb, heb]; rfl), rfl⟩
    · have heb : decide (0 ≤ e) = false := decide_eq_false he
      go_enter Try.func120, Try.ntmps120
      go_wp2
      go_ret
      exact ⟨ret_bool (by unfold who; rw [hpb, heb]; rfl), rfl⟩
  · have hpb : decide (0 ≤ p) = false := decide_eq_false hp
    go_enter Try.func120, Try.ntmps120
    go_wp2
    go_ret
    exact ⟨ret_bool (by unfold who; rw [hpb]; rfl), rfl⟩
set_option maxHeartbeats 400000 in
theorem tfail_calls (e : Int) (H : Hd (Out g o :: F) w) : Calls Try.prog 121 #[.pointer (some ⟨g, 0, none⟩), .int .i64 e] w fun en w' => en = .returned (.bool (decide (e ≠ 0))) ∧ Hd (Out g (if e = 0 then o else o.fail e) :: F) w' := by
  by_cases h : e = 0
  · subst h
    go_enter Try.func121, Try.ntmps121
    go_wp2
    go_ret
    exact ⟨rfl, H⟩
  · have hb : (e != 0) = true := bne_iff_ne.2 h
    rw [if_neg h]
    go_enter Try.func121, Try.ntmps121
    go_wp2_with fail
    refine (out_fail e H).mono ?_
    rintro en w1 ⟨rfl, HA⟩
    go_wp2
    go_ret
    exact ⟨ret_bool (by simp [h]), HA⟩
end
end Go.Proofs.Ytflgfbffglmmeaa
