/-
  Records, read.
-/
import Derived.Test.YtflgfbffglmmeaaRecW
namespace Go.Proofs.Ytflgfbffglmmeaa
open Go.RowKit
set_option linter.unusedVariables false
set_option linter.unusedSimpArgs false
theorem all_rx1 (i : ISt) : i.rx1.all = i.all := by unfold ISt.rx1; split; exact all_intS _ _; rw [all_fail, all_intS]
theorem all_rx2 (i : ISt) : i.rx2.all = i.all := by unfold ISt.rx2; split; rw [all_fail, all_varS, all_varS, all_rx1]; rw [all_varS, all_varS, all_rx1]
theorem Hd.d3 {A B C : Asn} {F : List Asn} {w : World} (h : Hd (A :: B :: C :: F) w) : Hd (A :: B :: F) w := h.f3.t
def rec7 : Array Value := #[.int .i64 0, .int .i64 0, .bool false, .string (toS []), .bool false, .string (toS []), .slice none 0 0]
section
variable {F : List Asn} {w : World} {g : Nat} {o : OSt} {i : ISt}
set_option maxRecDepth 100000 in
set_option maxHeartbeats 4000000 in
theorem rrd_calls (hi : i.d.length + i.r.length ≤ 1000000000) (H : Hd (Inp g i :: F) w) :
    Calls Try.prog 114 #[.pointer (some ⟨g, 0, none⟩)] w fun en w' => ∃ A c, en = .returned (.agg (i.recV.cells A c)) ∧ Hd (Inp g i.recS :: Ro (fun w => Rows KHdr 3 w A i.recV.headers) :: F) w' := by
  have hv : i.recV = if i.nameS.e ≠ 0 then rzero else if (recIn i.nameB.d).e ≠ 0 then rzero else ISt.rxV ⟨[], i.nameB.d, 0⟩ := rfl
  have hs : i.recS = if i.nameS.e ≠ 0 then i.nameS else if (recIn i.nameB.d).e ≠ 0 then i.nameS.fail (recIn i.nameB.d).e else i.nameS := rfl
  have hlb := nameB_len_le i
  rw [show i.all.length = i.d.length + i.r.length by simp [ISt.all]] at hlb
  have HZ := (H.alloc rec7 91).f2
  have HN := name_calls HZ
  generalize i.recV = V at hv ⊢
  generalize i.recS = S at hs ⊢
  generalize i.nameB.d = l at hv hs HN hlb
  generalize i.nameS = j at hv hs HN
  replace hv := Lib.hid hv
  replace hs := Lib.hid hs
  replace HN := Lib.hid HN
  unfold rec7 at *
  go_enter Try.func114, Try.ntmps114
  go_wp2_with fail
  refine HN.out.mono ?_
  rintro en w1 ⟨rfl, HA⟩
  go_wp2_with fail
  refine (in_err HA).mono ?_
  rintro en w2 ⟨rfl, rfl⟩
  by_cases q0 : j.e = 0
  case neg =>
    have b0 : (j.e != 0) = true := bne_iff_ne.2 q0
    have hv2 := Lib.hid (hv.out.trans (if_pos q0))
    have hs2 := Lib.hid (hs.out.trans (if_pos q0))
    clear q0
    have z := HA.t.z
    have c := HA.t.c
    go_wp2
    have HQ := (((((((HA.f2.set 0 (.int .i64 0)).set 1 (.int .i64 0)).set 2 (.bool false)).set 3 (.string ⟨#[]⟩)).set 4 (.bool false)).set 5 (.string ⟨#[]⟩)).set 6 (.slice none 0 0))
    have t := HQ.c
    rw [hv2.out, hs2.out]
    refine bodyPost_ret (v := .agg (rzero.cells none 0)) (by simp [rzero, Rec.cells, results, Try.results114, go_sem, t]; rfl) rfl ⟨none, 0, rfl, (HQ.t.ro_mk (fun _ => Rows.nil)).f2⟩
  have b0 : (j.e != 0) = false := by simp [q0]
  have hv2 := Lib.hid (hv.out.trans (if_neg (by simp [q0])))
  have hs2 := Lib.hid (hs.out.trans (if_neg (by simp [q0])))
  clear q0 hv hs
  go_wp2_with fail
  refine (in_new l HA (by omega)).mono ?_
  rintro en w2 ⟨gx, rfl, HB⟩
  have hxV : ISt.rxV ⟨[], l, 0⟩ = ⟨(ISt.rx1 ⟨[], l, 0⟩).varV 64, ((ISt.rx1 ⟨[], l, 0⟩).varS 64).varV 32, (ISt.rx2 ⟨[], l, 0⟩).varB, (ISt.rx2 ⟨[], l, 0⟩).varBS.varB, (ISt.rx3 ⟨[], l, 0⟩).1⟩ := rfl
  have hx1 : ISt.rx1 ⟨[], l, 0⟩ = if ISt.intV ⟨[], l, 0⟩ 1 = 0 then ISt.intS ⟨[], l, 0⟩ 1 else (ISt.intS ⟨[], l, 0⟩ 1).fail 8 := rfl
  have hx2 : ISt.rx2 ⟨[], l, 0⟩ = if ((ISt.rx1 ⟨[], l, 0⟩).varS 64).varV 32 < 0 then (((ISt.rx1 ⟨[], l, 0⟩).varS 64).varS 32).fail 11 else ((ISt.rx1 ⟨[], l, 0⟩).varS 64).varS 32 := rfl
  have hx3 : ISt.rx3 ⟨[], l, 0⟩ = (ISt.rx2 ⟨[], l, 0⟩).varBS.varBS.hdrs := rfl
  have hx4 : recIn l = (ISt.rx3 ⟨[], l, 0⟩).2.close := rfl
  have ha2 := all_rx2 ⟨[], l, 0⟩
  have HI := in_int 1 (by decide) (by decide) HB
  generalize ISt.rxV ⟨[], l, 0⟩ = XV at hxV hv2
  generalize recIn l = X4 at hx4 hv2 hs2
  generalize ISt.rx3 ⟨[], l, 0⟩ = X3 at hx3 hx4 hxV
  generalize ISt.rx2 ⟨[], l, 0⟩ = X2 at hx3 hx2 hxV ha2
  generalize ISt.rx1 ⟨[], l, 0⟩ = X1 at hx1 hx2 hxV
  generalize ISt.intV ⟨[], l, 0⟩ 1 = n1 at hx1 HI
  generalize ISt.intS ⟨[], l, 0⟩ 1 = s1 at hx1 HI
  have ha3 : X2.varBS.varBS.d.length + X2.varBS.varBS.r.length ≤ 1000000000 := by
    have := all_len (show X2.varBS.varBS.all = l by rw [all_varBS, all_varBS, ha2]; rfl)
    omega
  clear ha2
  replace hxV := Lib.hid hxV
  replace hx1 := Lib.hid hx1
  replace hx2 := Lib.hid hx2
  replace hx3 := Lib.hid hx3
  replace hx4 := Lib.hid hx4
  replace HI := Lib.hid HI
  replace ha3 := Lib.hid ha3
  go_wp2_with fail
  refine HI.out.mono ?_
  rintro en w3 ⟨rfl, HC⟩
  by_cases q1 : n1 = 0
  case' pos =>
    have b1 : (n1 != 0) = false := by simp [q1]
    have e1 := hx1.out
    rw [if_pos q1] at e1
    rw [← e1] at HC
    have HD := HC
    clear q1 e1 HC
  case' neg =>
    have b1 : (n1 != 0) = true := bne_iff_ne.2 q1
    have e1 := hx1.out
    rw [if_neg q1] at e1
    replace e1 := Lib.hid e1
    clear q1
    go_wp2_with fail
    refine (in_fail 8 HC).mono ?_
    rintro en w4 ⟨rfl, HD⟩
    rw [← e1.out] at HD
    clear e1 HC
  all_goals
    clear hx1
    go_wp2_with fail
    refine (long_calls HD).mono ?_
    rintro en w4 ⟨rfl, HE⟩
    go_wp2_with fail
    refine (vint_calls HE).mono ?_
    rintro en w5 ⟨rfl, HG⟩
    generalize X1.varV 64 = tm at hxV
    generalize X1.varS 64 = s2 at hxV hx2 HG
    generalize s2.varV 32 = ofs at hxV hx2
    generalize s2.varS 32 = s3 at hx2 HG
    have HK := (HG.alloc #[.int .i64 tm, .int .i64 ofs, .bool false, .string ⟨#[]⟩, .bool false, .string ⟨#[]⟩, .slice none 0 0] 91).f2
    have ck := HK.t.c
    by_cases q2 : ofs < 0
    case' neg =>
      have b2 : decide (ofs < 0) = false := decide_eq_false q2
      have e2 := hx2.out
      rw [if_neg q2] at e2
      rw [← e2] at HK
      have HL := HK
      clear q2 e2 HK
    case' pos =>
      have b2 : decide (ofs < 0) = true := decide_eq_true q2
      have e2 := hx2.out
      rw [if_pos q2] at e2
      replace e2 := Lib.hid e2
      clear q2
      go_wp2_with fail
      refine (in_fail 11 HK).mono ?_
      rintro en w6 ⟨rfl, HL⟩
      rw [← e2.out] at HL
      clear e2 HK
  all_goals
    clear hx2
    go_wp2_with fail
    refine (varied_calls' HL).mono ?_
    rintro en wa ⟨rfl, HM⟩
    generalize X2.varB = kb at hxV
    have zm := HM.t.z
    have cm := HM.t.c
    have HM2 := ((HM.f2.set 2 (.bool kb.nu)).set 3 (.string (toS kb.d))).f2
    go_wp2_with fail
    refine (varied_calls' HM2).mono ?_
    rintro en wb ⟨rfl, HP⟩
    generalize X2.varBS.varB = vb at hxV
    have zp := HP.t.z
    have cp := HP.t.c
    have HP2 := ((HP.f2.set 4 (.bool vb.nu)).set 5 (.string (toS vb.d))).f2
    have HRd := hread_calls ha3.out HP2
    rw [← hx3.out] at HRd
    replace HRd := Lib.hid HRd
    go_wp2_with fail
    refine HRd.out.mono ?_
    rintro en wc ⟨A, c, rfl, HQ⟩
    clear HRd
    have zq := HQ.t.t.z
    have cq := HQ.t.t.c
    have HQ2 := ((HQ.pick 2 rfl rfl).set 6 (.slice A X3.1.length c)).f2
    have HCl := in_close HQ2
    rw [← hx4.out] at HCl
    replace HCl := Lib.hid HCl
    go_wp2_with fail
    refine HCl.out.mono ?_
    rintro en wd ⟨rfl, HU⟩
    clear HCl
    by_cases q3 : X4.e = 0
    · have b3 : (X4.e != 0) = false := by simp [q3]
      have hv3 := Lib.hid ((hv2.out.trans (if_neg (by simp [q3]))).trans hxV.out)
      have hs3 := Lib.hid (hs2.out.trans (if_neg (by simp [q3])))
      clear q3
      have cu := HU.t.c
      simp at cu
      have HU2 := HU.pick 4 rfl rfl
      have zr := HU2.z
      have cr := HU2.c
      go_wp2
      have HY := (((((((HU2.set 0 (.int .i64 tm)).set 1 (.int .i64 ofs)).set 2 (.bool kb.nu)).set 3 (.string (toS kb.d))).set 4 (.bool vb.nu)).set 5 (.string (toS vb.d))).set 6 (.slice A X3.1.length c))
      have t := HY.c
      rw [hv3.out, hs3.out]
      refine bodyPost_ret (v := .agg (Rec.cells ⟨tm, ofs, kb, vb, X3.1⟩ A c)) (by simp [Rec.cells, results, Try.results114, go_sem, t]) rfl ⟨A, c, rfl, ?_⟩
      exact ((HY.t.pick 3 rfl rfl).d2.d2)
    · have b3 : (X4.e != 0) = true := bne_iff_ne.2 q3
      have hv3 := Lib.hid (hv2.out.trans (if_pos q3))
      have hs3 := Lib.hid (hs2.out.trans (if_pos q3))
      clear q3
      have HU2 := HU.pick 3 rfl rfl
      go_wp2_with fail
      refine (in_fail _ HU2).mono ?_
      rintro en we ⟨rfl, HV⟩
      rw [← hs3.out] at HV
      have HV2 := HV.pick 4 rfl rfl
      have zr := HV2.z
      have cr := HV2.c
      go_wp2
      have HY := (((((((HV2.set 0 (.int .i64 0)).set 1 (.int .i64 0)).set 2 (.bool false)).set 3 (.string ⟨#[]⟩)).set 4 (.bool false)).set 5 (.string ⟨#[]⟩)).set 6 (.slice none 0 0))
      have t := HY.c
      rw [hv3.out]
      refine bodyPost_ret (v := .agg (rzero.cells none 0)) (by simp [rzero, Rec.cells, results, Try.results114, go_sem, t]; rfl) rfl ⟨none, 0, rfl, ?_⟩
      exact ((HY.t.d2.d2.d2.ro_mk (fun _ => Rows.nil)).f2)
set_option maxRecDepth 100000 in
set_option maxHeartbeats 1000000 in
theorem rdec_calls (l : List UInt8) (hl : l.length ≤ 1000000000) (H : Hd F w) :
    Calls Try.prog 45 #[.string (toS l)] w fun en w' => ∃ A c, en = .returned (.tuple #[.agg ((recDec l).1.cells A c), .int .i64 (recDec l).2]) ∧ Hd (Ro (fun w => Rows KHdr 3 w A (recDec l).1.headers) :: F) w' := by
  have hd : recDec l = if (recDecS l).e = 0 then (ISt.recV ⟨[], l, 0⟩, 0) else (rzero, (recDecS l).e) := rfl
  have hs : recDecS l = (ISt.recS ⟨[], l, 0⟩).close := rfl
  have HZ := H.alloc rec7 91
  have HN := in_new l HZ (by omega)
  have HR := fun g w1 H => rrd_calls (F := Cel w.heap.size rec7 91 :: F) (w := w1) (g := g) (i := ⟨[], l, 0⟩) (by simpa using hl) H
  generalize recDec l = D at hd ⊢
  generalize recDecS l = S at hd hs
  generalize ISt.recV ⟨[], l, 0⟩ = V at hd HR
  generalize ISt.recS ⟨[], l, 0⟩ = J at hs HR
  replace hd := Lib.hid hd
  replace hs := Lib.hid hs
  replace HN := Lib.hid HN
  replace HR := Lib.hid HR
  unfold rec7 at *
  go_enter Try.func45, Try.ntmps45
  go_wp2_with fail
  refine HN.out.mono ?_
  rintro en w1 ⟨gx, rfl, HA⟩
  go_wp2_with fail
  refine (HR.out gx w1 HA).mono ?_
  rintro en w2 ⟨A, c, rfl, HB⟩
  have HC := HB.alloc (V.cells A c) 91
  unfold Rec.cells at HC ⊢
  have HCl := in_close HC.f2
  rw [← hs.out] at HCl
  replace HCl := Lib.hid HCl
  go_wp2_with fail
  refine HCl.out.mono ?_
  rintro en w3 ⟨rfl, HE⟩
  clear HCl
  have cb := HE.t.c
  have HE2 := HE.pick 3 rfl rfl
  have z := HE2.z
  have cz := HE2.c
  by_cases q : S.e = 0
  · have b0 : (S.e != 0) = false := by simp [q]
    have hd2 := Lib.hid (hd.out.trans (if_pos q))
    clear q
    go_wp2
    have HY := (((((((HE2.set 0 (.int .i64 V.time)).set 1 (.int .i64 V.offset)).set 2 (.bool V.key.nu)).set 3 (.string (toS V.key.d))).set 4 (.bool V.value.nu)).set 5 (.string (toS V.value.d))).set 6 (.slice A V.headers.length c))
    have t := HY.c
    rw [hd2.out]
    refine bodyPost_ret (v := .tuple #[.agg (V.cells A c), .int .i64 0]) (by simp [Rec.cells, results, Try.results45, go_sem, t]) rfl ⟨A, c, rfl, HY.t.t.t⟩
  · have b0 : (S.e != 0) = true := bne_iff_ne.2 q
    have hd2 := Lib.hid (hd.out.trans (if_neg q))
    clear q
    go_wp2
    have HY := (((((((HE2.set 0 (.int .i64 0)).set 1 (.int .i64 0)).set 2 (.bool false)).set 3 (.string ⟨#[]⟩)).set 4 (.bool false)).set 5 (.string ⟨#[]⟩)).set 6 (.slice none 0 0))
    have t := HY.c
    rw [hd2.out]
    refine bodyPost_ret (v := .tuple #[.agg (rzero.cells none 0), .int .i64 S.e]) (by simp [rzero, Rec.cells, results, Try.results45, go_sem, t]; rfl) rfl ⟨none, 0, rfl, HY.t.t.t.t.ro_mk (fun _ => Rows.nil)⟩
end
end Go.Proofs.Ytflgfbffglmmeaa
