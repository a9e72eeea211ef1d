/-
  A head, read.
-/
import Derived.Test.YtflgfbffglmmeaaTxn4
namespace Go.Proofs.Ytflgfbffglmmeaa
open Go.RowKit
set_option linter.unusedVariables false
set_option linter.unusedSimpArgs false
section
variable {F : List Asn} {w : World} {g : Nat} {o : OSt} {i : ISt}
def ISt.failC (i : ISt) (c : Int) : ISt := if i.e = 0 ∧ c ≠ 0 then i.fail c else i
def ISt.h3 (i : ISt) : ISt := ((i.intS 2).intS 2).failC (vcheck (i.intV 2) ((i.intS 2).intV 2))
def ISt.headS (i : ISt) : ISt := (i.h3.intS 4).fixBS 2
def ISt.headV (i : ISt) : Head := if i.headS.e ≠ 0 then ⟨0, 0, 0, ⟨false, []⟩⟩ else ⟨i.intV 2, (i.intS 2).intV 2, i.h3.intV 4, (i.h3.intS 4).fixB 2⟩
set_option maxRecDepth 100000 in
set_option maxHeartbeats 400000 in
theorem rread_calls (H : Hd (Inp g i :: F) w) : Calls Try.prog 53 #[.pointer (some ⟨g, 0, none⟩)] w fun en w' => en = .returned (.agg i.headV.cells) ∧ Hd (Inp g i.headS :: F) w' := by
  have HZ := (H.alloc #[.int .i64 0, .int .i64 0, .int .i64 0, .bool false, .string (toS [])] 101).f2
  go_enter Try.func53, Try.ntmps53
  go_wp2_with fail
  refine (in_int 2 (by decide) (by decide) HZ).mono ?_
  rintro en w1 ⟨rfl, HA⟩
  go_wp2_with fail
  refine (in_int 2 (by decide) (by decide) HA).mono ?_
  rintro en w2 ⟨rfl, HB⟩
  have HC := (HB.alloc #[.int .i64 (i.intV 2), .int .i64 ((i.intS 2).intV 2), .int .i64 0, .bool false, .string ⟨#[]⟩] 101).f2
  go_wp2_with fail
  refine (in_err HC).mono ?_
  rintro en w3 ⟨rfl, rfl⟩
  by_cases h0 : ((i.intS 2).intS 2).e = 0
  · have b0 : (((i.intS 2).intS 2).e == 0) = true := beq_iff_eq.2 h0
    have H0 := Lib.hid h0
    clear h0
    go_wp2_with fail
    refine (vcheck_calls (i.intV 2) ((i.intS 2).intV 2) HC).mono ?_
    rintro en w3 ⟨rfl, HD⟩
    by_cases h1 : vcheck (i.intV 2) ((i.intS 2).intV 2) = 0
    · have b1 : (vcheck (i.intV 2) ((i.intS 2).intV 2) != 0) = false := by simp [h1]
      have H3 := Lib.hid (show i.h3 = (i.intS 2).intS 2 by unfold ISt.h3 ISt.failC; rw [if_neg (fun h => h.2 h1)])
      clear h1
      have HT := HD
      rw [← H3.out] at HT
      have z2 := HT.t.z 2
      go_wp2_with fail
      refine (in_int 4 (by decide) (by decide) HT).mono ?_
      rintro en w5 ⟨rfl, HU⟩
      have HU2 := (HU.f2.set 2 (.int .i64 (i.h3.intV 4))).f2
      have y2 : w5.frozen? ⟨w2.heap.size, 2, none⟩ = false := HU.t.z 2
      have x2 : w5.cell? ⟨w2.heap.size, 2, none⟩ = some (.int .i64 0) := HU.t.c 2
      go_wp2_with fail
      refine (fixed_calls' 2 (by decide) (by decide) HU2).mono ?_
      rintro en w6 ⟨rfl, HV⟩
      have y3 : w6.frozen? ⟨w2.heap.size, 3, none⟩ = false := HV.t.z 3
      have y4 : w6.frozen? ⟨w2.heap.size, 4, none⟩ = false := HV.t.z 4
      have x3 : w6.cell? ⟨w2.heap.size, 3, none⟩ = some (.bool false) := HV.t.c 3
      have x4 : w6.cell? ⟨w2.heap.size, 4, none⟩ = some (.string ⟨#[]⟩) := HV.t.c 4
      have HW := ((HV.f2.set 3 (.bool ((i.h3.intS 4).fixB 2).nu)).set 4 (.string (toS ((i.h3.intS 4).fixB 2).d))).f2
      go_wp2_with fail
      refine (in_err HW).mono ?_
      rintro en w7 ⟨rfl, rfl⟩
      have q0 := HW.t.c 0
      have q1 := HW.t.c 1
      have q2 := HW.t.c 2
      have q3 := HW.t.c 3
      have q4 := HW.t.c 4
      have r0 := HW.t.t.z 0
      have r1 := HW.t.t.z 1
      have r2 := HW.t.t.z 2
      have r3 := HW.t.t.z 3
      have r4 := HW.t.t.z 4
      have s0 := HW.t.t.c 0
      have s1 := HW.t.t.c 1
      have s2 := HW.t.t.c 2
      have s3 := HW.t.t.c 3
      have s4 := HW.t.t.c 4
      simp at q0 q1 q2 q3 q4 s0 s1 s2 s3 s4
      by_cases he : ((i.h3.intS 4).fixBS 2).e = 0
      · have hb : (((i.h3.intS 4).fixBS 2).e != 0) = false := by simp [he]
        have HE := Lib.hid (show i.headV = ⟨i.intV 2, (i.intS 2).intV 2, i.h3.intV 4, (i.h3.intS 4).fixB 2⟩ by unfold ISt.headV ISt.headS; rw [if_neg (by simp [he])])
        clear he
        go_wp2
        have HQ := (((((HW.f3.set 0 (.int .i64 (i.intV 2))).set 1 (.int .i64 ((i.intS 2).intV 2))).set 2 (.int .i64 (i.h3.intV 4))).set 3 (.bool ((i.h3.intS 4).fixB 2).nu)).set 4 (.string (toS ((i.h3.intS 4).fixB 2).d)))
        have t0 := HQ.c 0
        have t1 := HQ.c 1
        have t2 := HQ.c 2
        have t3 := HQ.c 3
        have t4 := HQ.c 4
        simp at t0 t1 t2 t3 t4
        rw [HE.out]
        refine bodyPost_ret (v := .agg (Head.cells ⟨i.intV 2, (i.intS 2).intV 2, i.h3.intV 4, (i.h3.intS 4).fixB 2⟩)) (by simp [Head.cells, results, Try.results53, go_sem, t0, t1, t2, t3, t4]) rfl ⟨rfl, HQ.b3.d2.d2⟩
      · have hb : (((i.h3.intS 4).fixBS 2).e != 0) = true := bne_iff_ne.2 he
        have HE := Lib.hid (show i.headV = ⟨0, 0, 0, ⟨false, []⟩⟩ by unfold ISt.headV ISt.headS; rw [if_pos he])
        clear he
        go_wp2
        have HQ := (((((HW.f3.set 0 (.int .i64 0)).set 1 (.int .i64 0)).set 2 (.int .i64 0)).set 3 (.bool false)).set 4 (.string ⟨#[]⟩))
        have t0 := HQ.c 0
        have t1 := HQ.c 1
        have t2 := HQ.c 2
        have t3 := HQ.c 3
        have t4 := HQ.c 4
        simp at t0 t1 t2 t3 t4
        rw [HE.out]
        refine bodyPost_ret (v := .agg (Head.cells ⟨0, 0, 0, ⟨false, []⟩⟩)) (by simp [Head.cells, results, Try.results53, go_sem, t0, t1, t2, t3, t4]; rfl) rfl ⟨rfl, HQ.b3.d2.d2⟩
    · have b1 : (vcheck (i.intV 2) ((i.intS 2).intV 2) != 0) = true := bne_iff_ne.2 h1
      have H3 := Lib.hid (show i.h3 = ((i.intS 2).intS 2).fail (vcheck (i.intV 2) ((i.intS 2).intV 2)) by unfold ISt.h3 ISt.failC; rw [if_pos ⟨H0.out, h1⟩])
      clear h1
      go_wp2_with fail
      refine (in_fail _ HD).mono ?_
      rintro en w4 ⟨rfl, HT⟩
      rw [← H3.out] at HT
      have z2 := HT.t.z 2
      go_wp2_with fail
      refine (in_int 4 (by decide) (by decide) HT).mono ?_
      rintro en w5 ⟨rfl, HU⟩
      have HU2 := (HU.f2.set 2 (.int .i64 (i.h3.intV 4))).f2
      have y2 : w5.frozen? ⟨w2.heap.size, 2, none⟩ = false := HU.t.z 2
      have x2 : w5.cell? ⟨w2.heap.size, 2, none⟩ = some (.int .i64 0) := HU.t.c 2
      go_wp2_with fail
      refine (fixed_calls' 2 (by decide) (by decide) HU2).mono ?_
      rintro en w6 ⟨rfl, HV⟩
      have y3 : w6.frozen? ⟨w2.heap.size, 3, none⟩ = false := HV.t.z 3
      have y4 : w6.frozen? ⟨w2.heap.size, 4, none⟩ = false := HV.t.z 4
      have x3 : w6.cell? ⟨w2.heap.size, 3, none⟩ = some (.bool false) := HV.t.c 3
      have x4 : w6.cell? ⟨w2.heap.size, 4, none⟩ = some (.string ⟨#[]⟩) := HV.t.c 4
      have HW := ((HV.f2.set 3 (.bool ((i.h3.intS 4).fixB 2).nu)).set 4 (.string (toS ((i.h3.intS 4).fixB 2).d))).f2
      go_wp2_with fail
      refine (in_err HW).mono ?_
      rintro en w7 ⟨rfl, rfl⟩
      have q0 := HW.t.c 0
      have q1 := HW.t.c 1
      have q2 := HW.t.c 2
      have q3 := HW.t.c 3
      have q4 := HW.t.c 4
      have r0 := HW.t.t.z 0
      have r1 := HW.t.t.z 1
      have r2 := HW.t.t.z 2
      have r3 := HW.t.t.z 3
      have r4 := HW.t.t.z 4
      have s0 := HW.t.t.c 0
      have s1 := HW.t.t.c 1
      have s2 := HW.t.t.c 2
      have s3 := HW.t.t.c 3
      have s4 := HW.t.t.c 4
      simp at q0 q1 q2 q3 q4 s0 s1 s2 s3 s4
      by_cases he : ((i.h3.intS 4).fixBS 2).e = 0
      · have hb : (((i.h3.intS 4).fixBS 2).e != 0) = false := by simp [he]
        have HE := Lib.hid (show i.headV = ⟨i.intV 2, (i.intS 2).intV 2, i.h3.intV 4, (i.h3.intS 4).fixB 2⟩ by unfold ISt.headV ISt.headS; rw [if_neg (by simp [he])])
        clear he
        go_wp2
        have HQ := (((((HW.f3.set 0 (.int .i64 (i.intV 2))).set 1 (.int .i64 ((i.intS 2).intV 2))).set 2 (.int .i64 (i.h3.intV 4))).set 3 (.bool ((i.h3.intS 4).fixB 2).nu)).set 4 (.string (toS ((i.h3.intS 4).fixB 2).d)))
        have t0 := HQ.c 0
        have t1 := HQ.c 1
        have t2 := HQ.c 2
        have t3 := HQ.c 3
        have t4 := HQ.c 4
        simp at t0 t1 t2 t3 t4
        rw [HE.out]
        refine bodyPost_ret (v := .agg (Head.cells ⟨i.intV 2, (i.intS 2).intV 2, i.h3.intV 4, (i.h3.intS 4).fixB 2⟩)) (by simp [Head.cells, results, Try.results53, go_sem, t0, t1, t2, t3, t4]) rfl ⟨rfl, HQ.b3.d2.d2⟩
      · have hb : (((i.h3.intS 4).fixBS 2).e != 0) = true := bne_iff_ne.2 he
        have HE := Lib.hid (show i.headV = ⟨0, 0, 0, ⟨false, []⟩⟩ by unfold ISt.headV ISt.headS; rw [if_pos he])
        clear he
        go_wp2
        have HQ := (((((HW.f3.set 0 (.int .i64 0)).set 1 (.int .i64 0)).set 2 (.int .i64 0)).set 3 (.bool false)).set 4 (.string ⟨#[]⟩))
        have t0 := HQ.c 0
        have t1 := HQ.c 1
        have t2 := HQ.c 2
        have t3 := HQ.c 3
        have t4 := HQ.c 4
        simp at t0 t1 t2 t3 t4
        rw [HE.out]
        refine bodyPost_ret (v := .agg (Head.cells ⟨0, 0, 0, ⟨false, []⟩⟩)) (by simp [Head.cells, results, Try.results53, go_sem, t0, t1, t2, t3, t4]; rfl) rfl ⟨rfl, HQ.b3.d2.d2⟩
  · have b0 : (((i.intS 2).intS 2).e == 0) = false := by simp [h0]
    have H3 := Lib.hid (show i.h3 = (i.intS 2).intS 2 by unfold ISt.h3 ISt.failC; rw [if_neg (fun h => h0 h.1)])
    clear h0
    have HT := HC
    rw [← H3.out] at HT
    have z2 := HT.t.z 2
    go_wp2_with fail
    refine (in_int 4 (by decide) (by decide) HT).mono ?_
    rintro en w5 ⟨rfl, HU⟩
    have HU2 := (HU.f2.set 2 (.int .i64 (i.h3.intV 4))).f2
    have y2 : w5.frozen? ⟨w2.heap.size, 2, none⟩ = false := HU.t.z 2
    have x2 : w5.cell? ⟨w2.heap.size, 2, none⟩ = some (.int .i64 0) := HU.t.c 2
    go_wp2_with fail
    refine (fixed_calls' 2 (by decide) (by decide) HU2).mono ?_
    rintro en w6 ⟨rfl, HV⟩
    have y3 : w6.frozen? ⟨w2.heap.size, 3, none⟩ = false := HV.t.z 3
    have y4 : w6.frozen? ⟨w2.heap.size, 4, none⟩ = false := HV.t.z 4
    have x3 : w6.cell? ⟨w2.heap.size, 3, none⟩ = some (.bool false) := HV.t.c 3
    have x4 : w6.cell? ⟨w2.heap.size, 4, none⟩ = some (.string ⟨#[]⟩) := HV.t.c 4
    have HW := ((HV.f2.set 3 (.bool ((i.h3.intS 4).fixB 2).nu)).set 4 (.string (toS ((i.h3.intS 4).fixB 2).d))).f2
    go_wp2_with fail
    refine (in_err HW).mono ?_
    rintro en w7 ⟨rfl, rfl⟩
    have q0 := HW.t.c 0
    have q1 := HW.t.c 1
    have q2 := HW.t.c 2
    have q3 := HW.t.c 3
    have q4 := HW.t.c 4
    have r0 := HW.t.t.z 0
    have r1 := HW.t.t.z 1
    have r2 := HW.t.t.z 2
    have r3 := HW.t.t.z 3
    have r4 := HW.t.t.z 4
    have s0 := HW.t.t.c 0
    have s1 := HW.t.t.c 1
    have s2 := HW.t.t.c 2
    have s3 := HW.t.t.c 3
    have s4 := HW.t.t.c 4
    simp at q0 q1 q2 q3 q4 s0 s1 s2 s3 s4
    by_cases he : ((i.h3.intS 4).fixBS 2).e = 0
    · have hb : (((i.h3.intS 4).fixBS 2).e != 0) = false := by simp [he]
      have HE := Lib.hid (show i.headV = ⟨i.intV 2, (i.intS 2).intV 2, i.h3.intV 4, (i.h3.intS 4).fixB 2⟩ by unfold ISt.headV ISt.headS; rw [if_neg (by simp [he])])
      clear he
      go_wp2
      have HQ := (((((HW.f3.set 0 (.int .i64 (i.intV 2))).set 1 (.int .i64 ((i.intS 2).intV 2))).set 2 (.int .i64 (i.h3.intV 4))).set 3 (.bool ((i.h3.intS 4).fixB 2).nu)).set 4 (.string (toS ((i.h3.intS 4).fixB 2).d)))
      have t0 := HQ.c 0
      have t1 := HQ.c 1
      have t2 := HQ.c 2
      have t3 := HQ.c 3
      have t4 := HQ.c 4
      simp at t0 t1 t2 t3 t4
      rw [HE.out]
      refine bodyPost_ret (v := .agg (Head.cells ⟨i.intV 2, (i.intS 2).intV 2, i.h3.intV 4, (i.h3.intS 4).fixB 2⟩)) (by simp [Head.cells, results, Try.results53, go_sem, t0, t1, t2, t3, t4]) rfl ⟨rfl, HQ.b3.d2.d2⟩
    · have hb : (((i.h3.intS 4).fixBS 2).e != 0) = true := bne_iff_ne.2 he
      have HE := Lib.hid (show i.headV = ⟨0, 0, 0, ⟨false, []⟩⟩ by unfold ISt.headV ISt.headS; rw [if_pos he])
      clear he
      go_wp2
      have HQ := (((((HW.f3.set 0 (.int .i64 0)).set 1 (.int .i64 0)).set 2 (.int .i64 0)).set 3 (.bool false)).set 4 (.string ⟨#[]⟩))
      have t0 := HQ.c 0
      have t1 := HQ.c 1
      have t2 := HQ.c 2
      have t3 := HQ.c 3
      have t4 := HQ.c 4
      simp at t0 t1 t2 t3 t4
      rw [HE.out]
      refine bodyPost_ret (v := .agg (Head.cells ⟨0, 0, 0, ⟨false, []⟩⟩)) (by simp [Head.cells, results, Try.results53, go_sem, t0, t1, t2, t3, t4]; rfl) rfl ⟨rfl, HQ.b3.d2.d2⟩
end
end Go.Proofs.Ytflgfbffglmmeaa
