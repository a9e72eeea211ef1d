/-
  Requests by which transactions end, read.
-/
import Derived.Test.YtflgfbffglmmeaaTxn6
namespace Go.Proofs.Ytflgfbffglmmeaa
open Go.RowKit
set_option linter.unusedVariables false
set_option linter.unusedSimpArgs false
section
variable {F : List Asn} {w : World} {g : Nat} {o : OSt} {i : ISt}
def ezero : TEnd := ⟨[], 0, 0, false⟩
def ISt.te2 (i : ISt) : ISt := (i.textS.intS 8).intS 2
def ISt.teR (i : ISt) : TEnd := ⟨i.textB.d, i.textS.intV 8, (i.textS.intS 8).intV 2, i.te2.boolV⟩
def ISt.teV (i : ISt) : TEnd := if i.te2.boolS.closedV i.teR.check then i.teR else ezero
def ISt.teS (i : ISt) : ISt := i.te2.boolS.closedS i.teR.check
set_option maxRecDepth 100000 in
set_option maxHeartbeats 1000000 in
theorem rend_calls (H : Hd (Inp g i :: F) w) : Calls Try.prog 56 #[.pointer (some ⟨g, 0, none⟩)] w fun en w' => en = .returned (.agg i.teV.cells) ∧ Hd (Inp g i.teS :: F) w' := by
  have HZ := (H.alloc #[.string (toS []), .int .i64 0, .int .i64 0, .bool false] 105).f2
  have hbd := Lib.hid (show i64 i.teR.epoch from intV_bd _ 2 (by decide))
  go_enter Try.func56, Try.ntmps56
  go_wp2_with fail
  refine (text_calls HZ).mono ?_
  rintro en w1 ⟨rfl, HA⟩
  go_wp2_with fail
  refine (in_int 8 (by decide) (by decide) HA).mono ?_
  rintro en w2 ⟨rfl, HB⟩
  go_wp2_with fail
  refine (in_int 2 (by decide) (by decide) HB).mono ?_
  rintro en w3 ⟨rfl, HC⟩
  have HX := (HC.alloc #[.string (toS i.textB.d), .int .i64 (i.textS.intV 8), .int .i64 ((i.textS.intS 8).intV 2), .bool false] 105).f2
  go_wp2_with fail
  refine (bool_calls HX).mono ?_
  rintro en w4 ⟨rfl, HD⟩
  have e4 := HD.t.c
  have z4 := HD.t.z
  have HY := (HD.f2.set 3 (.bool ((i.textS.intS 8).intS 2).boolV)).f2
  have HCL := Lib.hid (closedE_calls i.teR i.teR.check HY (fun w1 h => echeck_calls i.teR hbd.out.1 hbd.out.2 h))
  go_wp2_with fail
  refine HCL.out.mono ?_
  rintro en w5 ⟨rfl, HG⟩
  have e := HG.t.c
  have y := HG.t.t.z
  have s := HG.t.t.c
  cases hcl : ((i.textS.intS 8).intS 2).boolS.closedV i.teR.check
  · have HV := Lib.hid (show i.teV = ezero by unfold ISt.teV ISt.te2; rw [hcl]; rfl)
    go_wp2
    have HQ := ((((HG.pick 2 rfl rfl).set 0 (.string ⟨#[]⟩)).set 1 (.int .i64 0)).set 2 (.int .i64 0)).set 3 (.bool false)
    have t := HQ.c
    rw [HV.out]
    refine bodyPost_ret (v := .agg ezero.cells) (by simp [ezero, TEnd.cells, results, Try.results56, go_sem, t]; rfl) rfl ⟨rfl, HQ.f2.d2.d2⟩
  · have HV := Lib.hid (show i.teV = i.teR by unfold ISt.teV ISt.te2; rw [hcl]; rfl)
    go_wp2
    have HQ := ((((HG.pick 2 rfl rfl).set 0 (.string (toS i.textB.d))).set 1 (.int .i64 (i.textS.intV 8))).set 2 (.int .i64 ((i.textS.intS 8).intV 2))).set 3 (.bool ((i.textS.intS 8).intS 2).boolV)
    have t := HQ.c
    rw [HV.out]
    refine bodyPost_ret (v := .agg i.teR.cells) (by simp [ISt.teR, ISt.te2, TEnd.cells, results, Try.results56, go_sem, t]) rfl ⟨rfl, HQ.f2.d2.d2⟩
end
end Go.Proofs.Ytflgfbffglmmeaa
