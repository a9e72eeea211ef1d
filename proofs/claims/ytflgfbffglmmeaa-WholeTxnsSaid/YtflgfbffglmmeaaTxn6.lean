/-
  Requests by which transactions begin, read.
-/
import Derived.Test.YtflgfbffglmmeaaTxn5
namespace Go.Proofs.Ytflgfbffglmmeaa
open Go.RowKit
set_option linter.unusedVariables false
set_option linter.unusedSimpArgs false
section
variable {F : List Asn} {w : World} {g : Nat} {o : OSt} {i : ISt}
def tzero : TBegin := ⟨⟨false, []⟩, 0, 0, 0⟩
def ISt.tb1 (i : ISt) : ISt := (i.fixBS 2).intS 4
def ISt.tbR (i : ISt) (v : Int) : TBegin := if 0 < v then ⟨i.fixB 2, (i.fixBS 2).intV 4, i.tb1.intV 8, (i.tb1.intS 8).intV 2⟩ else ⟨i.fixB 2, (i.fixBS 2).intV 4, -1, -1⟩
def ISt.tbJ (i : ISt) (v : Int) : ISt := if 0 < v then (i.tb1.intS 8).intS 2 else i.tb1
def ISt.tbV (i : ISt) (v : Int) : TBegin := if (i.tbJ v).closedV ((i.tbR v).check v) then i.tbR v else tzero
def ISt.tbS (i : ISt) (v : Int) : ISt := (i.tbJ v).closedS ((i.tbR v).check v)
theorem tbR_bd (i : ISt) (v : Int) : i64 (i.tbR v).timeout ∧ i64 (i.tbR v).epoch := by
  unfold ISt.tbR
  split
  · exact ⟨intV_bd _ 4 (by decide), intV_bd _ 2 (by decide)⟩
  · exact ⟨intV_bd _ 4 (by decide), (by decide : (-9223372036854775808 : Int) ≤ -1), (by decide : (-1 : Int) ≤ 9223372036854775807)⟩
set_option maxRecDepth 100000 in
set_option maxHeartbeats 1000000 in
theorem rbegin_calls (v : Int) (H : Hd (Inp g i :: F) w) : Calls Try.prog 55 #[.pointer (some ⟨g, 0, none⟩), .int .i64 v] w fun en w' => en = .returned (.agg (i.tbV v).cells) ∧ Hd (Inp g (i.tbS v) :: F) w' := by
  have HZ := (((H.alloc #[.int .i64 v] 3).alloc #[.bool false, .string (toS []), .int .i64 0, .int .i64 0, .int .i64 0] 103).pick 2 rfl rfl)
  simp only [World.size_alloc] at HZ
  have HBD := Lib.hid (tbR_bd i v)
  go_enter Try.func55, Try.ntmps55
  go_wp2_with fail
  refine (fixed_calls' 2 (by decide) (by decide) HZ).mono ?_
  rintro en w1 ⟨rfl, HA⟩
  go_wp2_with fail
  refine (in_int 4 (by decide) (by decide) HA).mono ?_
  rintro en w2 ⟨rfl, HB⟩
  have HX := (HB.alloc #[.bool (i.fixB 2).nu, .string (toS (i.fixB 2).d), .int .i64 ((i.fixBS 2).intV 4), .int .i64 (-1), .int .i64 (-1)] 103).f2
  have d0 := HX.t.t.t.c 0
  simp at d0
  by_cases hv : 0 < v
  case' pos =>
    have hvb : decide (0 < v) = true := decide_eq_true hv
    have RB := Lib.hid (show i.tbR v = ⟨i.fixB 2, (i.fixBS 2).intV 4, i.tb1.intV 8, (i.tb1.intS 8).intV 2⟩ from if_pos hv)
    have RJ := Lib.hid (show i.tbJ v = (i.tb1.intS 8).intS 2 from if_pos hv)
    clear hv
    go_wp2_with fail
    refine (in_int 8 (by decide) (by decide) HX).mono ?_
    rintro en w3 ⟨rfl, HC⟩
    go_wp2_with fail
    refine (in_int 2 (by decide) (by decide) HC).mono ?_
    rintro en w4 ⟨rfl, HD⟩
    have k3 := HD.t.z 3
    have k4 := HD.t.z 4
    have j3 := HD.t.c 3
    have j4 := HD.t.c 4
    simp at j3 j4
    have HY := ((HD.f2.set 3 (.int .i64 (((i.fixBS 2).intS 4).intV 8))).set 4 (.int .i64 ((((i.fixBS 2).intS 4).intS 8).intV 2))).f2
    have HY2 := HY.imp (A' := Inp g (i.tbJ v)) (fun S h => ⟨S, by rw [RJ.out]; exact h, fun _ k => k⟩)
    have HY3 := (HY2.f2.imp (A' := Cel w2.heap.size (i.tbR v).cells 103) (fun S h => ⟨S, by rw [RB.out]; exact h, fun _ k => k⟩)).f2.pick 3 rfl rfl
    have HW := (HY3.pick 2 rfl rfl).pick 2 rfl rfl
    clear HX HC HD HY HY2 HY3
  case' neg =>
    have hvb : decide (0 < v) = false := decide_eq_false hv
    have RB := Lib.hid (show i.tbR v = ⟨i.fixB 2, (i.fixBS 2).intV 4, -1, -1⟩ from if_neg hv)
    have RJ := Lib.hid (show i.tbJ v = i.tb1 from if_neg hv)
    clear hv
    have HY2 := HX.imp (A' := Inp g (i.tbJ v)) (fun S h => ⟨S, by rw [RJ.out]; exact h, fun _ k => k⟩)
    have HY3 := (HY2.f2.imp (A' := Cel w2.heap.size (i.tbR v).cells 103) (fun S h => ⟨S, by rw [RB.out]; exact h, fun _ k => k⟩)).f2.pick 3 rfl rfl
    have HW := (HY3.pick 2 rfl rfl).pick 2 rfl rfl
    clear HX HY2 HY3
  all_goals
    have HCL := Lib.hid (closedB_calls w2.heap.size w.heap.size ((i.tbR v).check v) HW (fun w1 h => rb1_calls (i.tbR v) v w2.heap.size w.heap.size HBD.out.1 HBD.out.2 h))
    clear HW
    go_wp2_with fail
    refine HCL.out.mono ?_
    rintro en w5 ⟨rfl, HG⟩
    have e := HG.t.c
    unfold TBegin.cells at e
    have y := HG.t.t.t.z
    have s := HG.t.t.t.c
    cases hcl : (i.tbJ v).closedV ((i.tbR v).check v)
    · have HV := Lib.hid (show i.tbV v = tzero by unfold ISt.tbV; rw [hcl]; rfl)
      go_wp2
      have HQ := (((((HG.pick 3 rfl rfl).set 0 (.bool false)).set 1 (.string ⟨#[]⟩)).set 2 (.int .i64 0)).set 3 (.int .i64 0)).set 4 (.int .i64 0)
      have t := HQ.c
      rw [HV.out]
      refine bodyPost_ret (v := .agg tzero.cells) (by simp [tzero, TBegin.cells, results, Try.results55, go_sem, t]; rfl) rfl ⟨rfl, HQ.f2.d2.d2.d2⟩
    · have HV := Lib.hid (show i.tbV v = i.tbR v by unfold ISt.tbV; rw [hcl]; rfl)
      go_wp2
      have HQ := (((((HG.pick 3 rfl rfl).set 0 (.bool (i.tbR v).id.nu)).set 1 (.string (toS (i.tbR v).id.d))).set 2 (.int .i64 (i.tbR v).timeout)).set 3 (.int .i64 (i.tbR v).producer)).set 4 (.int .i64 (i.tbR v).epoch)
      have t := HQ.c
      rw [HV.out]
      refine bodyPost_ret (v := .agg (i.tbR v).cells) (by simp [TBegin.cells, results, Try.results55, go_sem, t]) rfl ⟨rfl, HQ.f2.d2.d2.d2⟩
end
end Go.Proofs.Ytflgfbffglmmeaa
