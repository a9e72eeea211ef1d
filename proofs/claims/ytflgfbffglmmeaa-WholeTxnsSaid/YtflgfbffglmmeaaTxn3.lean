/-
  Heads and requests, written.
-/
import Derived.Test.YtflgfbffglmmeaaTxn2
namespace Go.Proofs.Ytflgfbffglmmeaa
open Go.RowKit
set_option linter.unusedVariables false
set_option linter.unusedSimpArgs false
def OSt.head (o : OSt) (h : Head) : OSt := if h.check ≠ 0 then o.fail h.check else (((o.int h.kind 2).int h.version 2).int h.number 4).fixed h.client 2
def OSt.tend (o : OSt) (e : TEnd) : OSt := if e.check ≠ 0 then o.fail e.check else (((o.fixed ⟨false, e.id⟩ 2).int e.producer 8).int e.epoch 2).put [if e.commit then 1 else 0]
def OSt.tbegin (o : OSt) (b : TBegin) (v : Int) : OSt :=
  if b.check v ≠ 0 then o.fail (b.check v) else if 0 < v then (((o.fixed b.id 2).int b.timeout 4).int b.producer 8).int b.epoch 2 else (o.fixed b.id 2).int b.timeout 4
def i64 (n : Int) : Prop := -9223372036854775808 ≤ n ∧ n ≤ 9223372036854775807
section
variable {F : List Asn} {w : World} {g : Nat} {o : OSt} {i : ISt}
set_option maxHeartbeats 400000 in
theorem rwrite_calls (h : Head) (h1 : i64 h.kind) (h2 : i64 h.version) (h3 : i64 h.number) (hb : h.client.d.length ≤ 140737488355328) (H : Hd (Out g o :: F) w) (hl : (o.head h).b.length ≤ 140737488355328) :
    Calls Try.prog 48 #[.pointer (some ⟨g, 0, none⟩), .agg h.cells] w fun en w' => en = .returned (.tuple #[]) ∧ Hd (Out g (o.head h) :: F) w' := by
  have HC := rcheck_calls h h3.1 h3.2 ((H.alloc h.cells 101))
  have he : o.head h = if h.check ≠ 0 then o.fail h.check else (((o.int h.kind 2).int h.version 2).int h.number 4).fixed h.client 2 := rfl
  generalize o.head h = S at he hl
  generalize h.check = c at HC he
  obtain ⟨k, v, n, nu, d⟩ := h
  unfold Head.cells at HC ⊢
  simp only at he h1 h2 h3 hb HC
  have HE := Lib.hid he
  have HL := Lib.hid hl
  have HC2 := Lib.hid HC
  have H1 := Lib.hid h1
  have H2 := Lib.hid h2
  have H3 := Lib.hid h3
  clear he hl HC h1 h2 h3
  go_enter Try.func48, Try.ntmps48
  go_wp2_with fail
  refine HC2.out.mono ?_
  rintro en w1 ⟨rfl, HA⟩
  have c0 : w1.cell? ⟨w.heap.size, 0, none⟩ = some (.int .i64 k) := HA.c 0
  by_cases hc : c = 0
  · have hcb : (c != 0) = false := by simp [hc]
    have hS : S = (((o.int k 2).int v 2).int n 4).fixed ⟨nu, d⟩ 2 := by have := HE.out; rw [if_neg (by simp [hc])] at this; exact this
    have HS := Lib.hid hS
    clear hS
    have L4 := HL.out
    rw [HS.out] at L4
    have L3 := Nat.le_trans (OSt.fixed_mono _ _ _) L4
    have L2 := Nat.le_trans (OSt.int_mono _ _ _) L3
    have L1 := Nat.le_trans (OSt.int_mono _ _ _) L2
    have M4 := Lib.hid L4
    have M3 := Lib.hid L3
    have M2 := Lib.hid L2
    have M1 := Lib.hid L1
    clear L4 L3 L2 L1
    go_wp2_with fail
    refine (out_int k 2 (by omega) H1.out.1 H1.out.2 HA.f2 M1.out).mono ?_
    rintro en w2 ⟨rfl, HB⟩
    have c1 : w2.cell? ⟨w.heap.size, 1, none⟩ = some (.int .i64 v) := HB.t.c 1
    go_wp2_with fail
    refine (out_int v 2 (by omega) H2.out.1 H2.out.2 HB M2.out).mono ?_
    rintro en w3 ⟨rfl, HD⟩
    have c2 : w3.cell? ⟨w.heap.size, 2, none⟩ = some (.int .i64 n) := HD.t.c 2
    go_wp2_with fail
    refine (out_int n 4 (by omega) H3.out.1 H3.out.2 HD M3.out).mono ?_
    rintro en w4 ⟨rfl, HG⟩
    have c3 : w4.cell? ⟨w.heap.size, 3, none⟩ = some (.bool nu) := HG.t.c 3
    have c4 : w4.cell? ⟨w.heap.size, 4, none⟩ = some (.string (toS d)) := HG.t.c 4
    go_wp2_with fail
    refine (putfixed_calls ⟨nu, d⟩ 2 (by omega) hb HG M4.out).mono ?_
    rintro en w5 ⟨rfl, HI⟩
    go_wp2
    (first | go_end0 | ((try simp only [Exit.inBlock, Exit.then]); refine bodyPost_ret (results_none rfl _ _ _) rfl ?_))
    rw [HS.out]
    exact ⟨rfl, HI.d2⟩
  · have hcb : (c != 0) = true := bne_iff_ne.2 hc
    go_wp2_with fail
    refine (out_fail c HA.f2).mono ?_
    rintro en w2 ⟨rfl, HB⟩
    go_wp2
    (first | go_end0 | ((try simp only [Exit.inBlock, Exit.then]); refine bodyPost_ret (results_none rfl _ _ _) rfl ?_))
    rw [HE.out, if_pos hc]
    exact ⟨rfl, HB.d2⟩
set_option maxRecDepth 100000 in
set_option maxHeartbeats 400000 in
theorem wrong_calls (e : TEnd) (he : i64 e.epoch) (H : Hd (Out g o :: F) w) :
    Calls Try.prog 122 #[.pointer (some ⟨g, 0, none⟩), .iface 105 (.agg e.cells)] w fun en w' => en = .returned (.bool (decide (e.check ≠ 0))) ∧ Hd (Out g (if e.check = 0 then o else o.fail e.check) :: F) w' := by
  have HC := echeck_calls e he.1 he.2 H
  generalize e.check = c at HC ⊢
  have HC2 := Lib.hid HC
  clear HC
  obtain ⟨d, p, n, q⟩ := e
  unfold TEnd.cells at HC2 ⊢
  simp only at HC2 ⊢
  have hm : ∀ w, (method (Try.prog.types.size + Made.depth) 105 (.agg #[.string (toS d), .int .i64 p, .int .i64 n, .bool q]) "Check").run Try.prog w = .ok (49, .agg #[.string (toS d), .int .i64 p, .int .i64 n, .bool q]) w := fun _ => by kernel_rfl
  generalize hS : (if c = 0 then o else o.fail c) = S
  have HS := Lib.hid hS
  clear hS
  go_enter Try.func122, Try.ntmps122
  go_wp2_with fail
  refine HC2.out.mono ?_
  rintro en w1 ⟨rfl, HA⟩
  go_wp2_with fail
  refine (tfail_calls c HA).mono ?_
  rintro en w2 ⟨rfl, HB⟩
  rw [HS.out] at HB
  go_wp2
  go_ret
  exact ⟨ret_bool (by simp), HB⟩
set_option maxRecDepth 100000 in
set_option maxHeartbeats 400000 in
theorem ewrite_calls (e : TEnd) (h1 : i64 e.producer) (h2 : i64 e.epoch) (hb : e.id.length ≤ 140737488355328) (H : Hd (Out g o :: F) w) (hl : (o.tend e).b.length ≤ 140737488355328) :
    Calls Try.prog 52 #[.agg e.cells, .pointer (some ⟨g, 0, none⟩)] w fun en w' => en = .returned (.tuple #[]) ∧ Hd (Out g (o.tend e) :: F) w' := by
  have HC := wrong_calls e h2 ((H.alloc e.cells 105).f2)
  have he : o.tend e = if e.check ≠ 0 then o.fail e.check else (((o.fixed ⟨false, e.id⟩ 2).int e.producer 8).int e.epoch 2).put [if e.commit then 1 else 0] := rfl
  generalize o.tend e = S at he hl
  generalize e.check = c at HC he
  obtain ⟨d, p, n, q⟩ := e
  unfold TEnd.cells at HC ⊢
  simp only at he h1 h2 hb HC
  have HE := Lib.hid he
  have HL := Lib.hid hl
  have HC2 := Lib.hid HC
  have H1 := Lib.hid h1
  have H2 := Lib.hid h2
  clear he hl HC h1 h2
  by_cases hc : c = 0
  · have hS : S = (((o.fixed ⟨false, d⟩ 2).int p 8).int n 2).put [if q then 1 else 0] := by have := HE.out; rw [if_neg (by simp [hc])] at this; exact this
    have HS := Lib.hid hS
    clear hS
    have L4 := HL.out
    rw [HS.out] at L4
    have L3 := Nat.le_trans (OSt.put_len _ _).1 L4
    have L2 := Nat.le_trans (OSt.int_mono _ _ _) L3
    have L1 := Nat.le_trans (OSt.int_mono _ _ _) L2
    have M4 := Lib.hid L4
    have M3 := Lib.hid L3
    have M2 := Lib.hid L2
    have M1 := Lib.hid L1
    clear L4 L3 L2 L1
    have hcd : decide (c ≠ 0) = false := by simp [hc]
    have HC3 := HC2.out
    rw [hcd, if_pos hc] at HC3
    have HC4 := Lib.hid HC3
    clear HC3
    go_enter Try.func52, Try.ntmps52
    go_wp2_with fail
    refine HC4.out.mono ?_
    rintro en w1 ⟨rfl, HA⟩
    have c0 : w1.cell? ⟨w.heap.size, 0, none⟩ = some (.string (toS d)) := HA.t.c 0
    go_wp2_with fail
    refine (puttext_calls d hb HA M1.out).mono ?_
    rintro en w2 ⟨rfl, HB⟩
    have c1 : w2.cell? ⟨w.heap.size, 1, none⟩ = some (.int .i64 p) := HB.t.c 1
    go_wp2_with fail
    refine (out_int p 8 (by omega) H1.out.1 H1.out.2 HB M2.out).mono ?_
    rintro en w3 ⟨rfl, HD⟩
    have c2 : w3.cell? ⟨w.heap.size, 2, none⟩ = some (.int .i64 n) := HD.t.c 2
    go_wp2_with fail
    refine (out_int n 2 (by omega) H2.out.1 H2.out.2 HD M3.out).mono ?_
    rintro en w4 ⟨rfl, HG⟩
    have c3 : w4.cell? ⟨w.heap.size, 3, none⟩ = some (.bool q) := HG.t.c 3
    go_wp2_with fail
    refine (putbool_calls q HG M4.out).mono ?_
    rintro en w5 ⟨rfl, HI⟩
    go_wp2
    (first | go_end0 | ((try simp only [Exit.inBlock, Exit.then]); refine bodyPost_ret (results_none rfl _ _ _) rfl ?_))
    rw [HS.out]
    exact ⟨rfl, HI.d2⟩
  · have hcd : decide (c ≠ 0) = true := by simp [hc]
    have HC3 := HC2.out
    rw [hcd, if_neg hc] at HC3
    have HC4 := Lib.hid HC3
    clear HC3
    go_enter Try.func52, Try.ntmps52
    go_wp2_with fail
    refine HC4.out.mono ?_
    rintro en w1 ⟨rfl, HA⟩
    go_wp2
    (first | go_end0 | ((try simp only [Exit.inBlock, Exit.then]); refine bodyPost_ret (results_none rfl _ _ _) rfl ?_))
    rw [HE.out, if_pos hc]
    exact ⟨rfl, HA.d2⟩
set_option maxRecDepth 100000 in
set_option maxHeartbeats 1000000 in
theorem bwrite2_calls (b : TBegin) (v : Int) (h0 : i64 b.timeout) (h1 : i64 b.producer) (h2 : i64 b.epoch) (hb : b.id.d.length ≤ 140737488355328) (H : Hd (Out g o :: F) w) (hl : (o.tbegin b v).b.length ≤ 140737488355328) :
    Calls Try.prog 50 #[.agg b.cells, .pointer (some ⟨g, 0, none⟩), .int .i64 v] w fun en w' => en = .returned (.tuple #[]) ∧ Hd (Out g (o.tbegin b v) :: F) w' := by
  have HC := bcheck_calls b v h0.1 h0.2 h2.1 h2.2 ((H.alloc b.cells 103).f2)
  have he : o.tbegin b v = if b.check v ≠ 0 then o.fail (b.check v) else if 0 < v then (((o.fixed b.id 2).int b.timeout 4).int b.producer 8).int b.epoch 2 else (o.fixed b.id 2).int b.timeout 4 := rfl
  generalize o.tbegin b v = S at he hl
  generalize b.check v = c at HC he
  obtain ⟨⟨nu, d⟩, t, p, n⟩ := b
  unfold TBegin.cells at HC ⊢
  simp only at he h0 h1 h2 hb HC
  have HE := Lib.hid he
  have HL := Lib.hid hl
  have HC2 := Lib.hid HC
  have H0 := Lib.hid h0
  have H1 := Lib.hid h1
  have H2 := Lib.hid h2
  clear he hl HC h0 h1 h2
  by_cases hc : c = 0
  · by_cases hv : 0 < v
    · have hvb : decide (0 < v) = true := decide_eq_true hv
      have hS : S = (((o.fixed ⟨nu, d⟩ 2).int t 4).int p 8).int n 2 := by have := HE.out; rw [if_neg (by simp [hc]), if_pos hv] at this; exact this
      have HS := Lib.hid hS
      clear hS
      have L4 := HL.out
      rw [HS.out] at L4
      have L3 := Nat.le_trans (OSt.int_mono _ _ _) L4
      have L2 := Nat.le_trans (OSt.int_mono _ _ _) L3
      have L1 := Nat.le_trans (OSt.int_mono _ _ _) L2
      have M4 := Lib.hid L4
      have M3 := Lib.hid L3
      have M2 := Lib.hid L2
      have M1 := Lib.hid L1
      clear L4 L3 L2 L1
      have HCC := Lib.hid hc
      clear hc
      go_enter Try.func50, Try.ntmps50
      go_wp2_with fail
      refine HC2.out.mono ?_
      rintro en w1 ⟨rfl, HA⟩
      have HT := tfail_calls c HA
      rw [show decide (c ≠ 0) = false by simp [HCC.out], if_pos HCC.out] at HT
      have HT2 := Lib.hid HT
      clear HT
      go_wp2_with fail
      refine HT2.out.mono ?_
      rintro en w1' ⟨rfl, HA'⟩
      have c0 : w1'.cell? ⟨w.heap.size, 0, none⟩ = some (.bool nu) := HA'.t.c 0
      have c1 : w1'.cell? ⟨w.heap.size, 1, none⟩ = some (.string (toS d)) := HA'.t.c 1
      go_wp2_with fail
      refine (putfixed_calls ⟨nu, d⟩ 2 (by omega) hb HA' M1.out).mono ?_
      rintro en w2 ⟨rfl, HB⟩
      have c2 : w2.cell? ⟨w.heap.size, 2, none⟩ = some (.int .i64 t) := HB.t.c 2
      go_wp2_with fail
      refine (out_int t 4 (by omega) H0.out.1 H0.out.2 HB M2.out).mono ?_
      rintro en w3 ⟨rfl, HD⟩
      have c3 : w3.cell? ⟨w.heap.size, 3, none⟩ = some (.int .i64 p) := HD.t.c 3
      go_wp2_with fail
      refine (out_int p 8 (by omega) H1.out.1 H1.out.2 HD M3.out).mono ?_
      rintro en w4 ⟨rfl, HG⟩
      have c4 : w4.cell? ⟨w.heap.size, 4, none⟩ = some (.int .i64 n) := HG.t.c 4
      go_wp2_with fail
      refine (out_int n 2 (by omega) H2.out.1 H2.out.2 HG M4.out).mono ?_
      rintro en w5 ⟨rfl, HI⟩
      go_wp2
      (first | go_end0 | ((try simp only [Exit.inBlock, Exit.then]); refine bodyPost_ret (results_none rfl _ _ _) rfl ?_))
      rw [HS.out]
      exact ⟨rfl, HI.d2⟩
    · have hvb : decide (0 < v) = false := decide_eq_false hv
      have hS : S = (o.fixed ⟨nu, d⟩ 2).int t 4 := by have := HE.out; rw [if_neg (by simp [hc]), if_neg hv] at this; exact this
      have HS := Lib.hid hS
      clear hS
      have L2 := HL.out
      rw [HS.out] at L2
      have L1 := Nat.le_trans (OSt.int_mono _ _ _) L2
      have M2 := Lib.hid L2
      have M1 := Lib.hid L1
      clear L2 L1
      have HCC := Lib.hid hc
      clear hc
      go_enter Try.func50, Try.ntmps50
      go_wp2_with fail
      refine HC2.out.mono ?_
      rintro en w1 ⟨rfl, HA⟩
      have HT := tfail_calls c HA
      rw [show decide (c ≠ 0) = false by simp [HCC.out], if_pos HCC.out] at HT
      have HT2 := Lib.hid HT
      clear HT
      go_wp2_with fail
      refine HT2.out.mono ?_
      rintro en w1' ⟨rfl, HA'⟩
      have c0 : w1'.cell? ⟨w.heap.size, 0, none⟩ = some (.bool nu) := HA'.t.c 0
      have c1 : w1'.cell? ⟨w.heap.size, 1, none⟩ = some (.string (toS d)) := HA'.t.c 1
      go_wp2_with fail
      refine (putfixed_calls ⟨nu, d⟩ 2 (by omega) hb HA' M1.out).mono ?_
      rintro en w2 ⟨rfl, HB⟩
      have c2 : w2.cell? ⟨w.heap.size, 2, none⟩ = some (.int .i64 t) := HB.t.c 2
      go_wp2_with fail
      refine (out_int t 4 (by omega) H0.out.1 H0.out.2 HB M2.out).mono ?_
      rintro en w3 ⟨rfl, HD⟩
      go_wp2
      (first | go_end0 | ((try simp only [Exit.inBlock, Exit.then]); refine bodyPost_ret (results_none rfl _ _ _) rfl ?_))
      rw [HS.out]
      exact ⟨rfl, HD.d2⟩
  · go_enter Try.func50, Try.ntmps50
    go_wp2_with fail
    refine HC2.out.mono ?_
    rintro en w1 ⟨rfl, HA⟩
    have HT := tfail_calls c HA
    rw [show decide (c ≠ 0) = true by simp [hc], if_neg hc] at HT
    have HT2 := Lib.hid HT
    clear HT
    go_wp2_with fail
    refine HT2.out.mono ?_
    rintro en w1' ⟨rfl, HA'⟩
    go_wp2
    (first | go_end0 | ((try simp only [Exit.inBlock, Exit.then]); refine bodyPost_ret (results_none rfl _ _ _) rfl ?_))
    rw [HE.out, if_pos hc]
    exact ⟨rfl, HA'.d2⟩
end
end Go.Proofs.Ytflgfbffglmmeaa
