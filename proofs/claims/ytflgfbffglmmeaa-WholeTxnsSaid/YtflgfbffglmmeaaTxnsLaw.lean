/-
  The law WholeTxns, walked.
-/
import Derived.Test.YtflgfbffglmmeaaTxnPure
namespace Go.Proofs.Ytflgfbffglmmeaa
open Go.RowKit
set_option linter.unusedVariables false
set_option linter.unusedSimpArgs false
theorem neq_head (h : Head) (w : World) : (binOp .neq 101 (.agg h.cells) (.agg h.cells)).run Try.prog w = .ok (.bool false) w := by
  have h1 := Try.underlying101
  have h2 := Try.underlying28
  unfold Head.cells
  go_simp
theorem eq_begin (h : TBegin) (w : World) : (binOp .eql 103 (.agg h.cells) (.agg h.cells)).run Try.prog w = .ok (.bool true) w := by
  have h1 := Try.underlying103
  have h2 := Try.underlying28
  unfold TBegin.cells
  go_simp
theorem eq_end (h : TEnd) (w : World) : (binOp .eql 105 (.agg h.cells) (.agg h.cells)).run Try.prog w = .ok (.bool true) w := by
  have h1 := Try.underlying105
  unfold TEnd.cells
  go_simp
theorem wHead_len (h : Head) : (wHead h).length = 10 + h.client.d.length := by simp only [wHead, List.length_append, be_length]; omega
theorem wBegin_len (b : TBegin) (v : Int) : (wBegin b v).length ≤ 16 + b.id.d.length := by
  unfold wBegin
  split <;> simp only [List.length_append, be_length, List.length_nil] <;> omega
theorem wEnd_len (e : TEnd) : (wEnd e).length = 13 + e.id.length := by simp only [wEnd, List.length_append, be_length, List.length_cons, List.length_nil]; omega
section
variable {F : List Asn} {w : World}
theorem rc26_0 (H : Hd F w) : Calls Try.prog 47 #[.agg #[.int .i64 26, .int .i64 0, .int .i64 0, .bool false, .string ⟨#[]⟩]] w fun en w' => en = .returned (.int .i64 0) ∧ Hd F w' := rcheck_calls ⟨26, 0, 0, ⟨false, []⟩⟩ (by decide) (by decide) H
theorem rc26_1 (H : Hd F w) : Calls Try.prog 47 #[.agg #[.int .i64 26, .int .i64 1, .int .i64 0, .bool false, .string ⟨#[]⟩]] w fun en w' => en = .returned (.int .i64 7) ∧ Hd F w' := rcheck_calls ⟨26, 1, 0, ⟨false, []⟩⟩ (by decide) (by decide) H
end
set_option maxRecDepth 100000 in
set_option maxHeartbeats 1000000 in
theorem txns_calls (h : Head) (b : TBegin) (e : TEnd) (a1 : i64 h.kind) (a2 : i64 h.version) (a3 : i64 h.number) (a4 : h.client.d.length ≤ 140737488355328) (b1 : i64 b.timeout) (b2 : i64 b.producer) (b3 : i64 b.epoch) (b4 : b.id.d.length ≤ 140737488355328) (f1 : i64 e.producer) (f2 : i64 e.epoch) (f3 : e.id.length ≤ 140737488355328) {w : World} :
    Calls Try.prog 8 #[.agg h.cells, .agg b.cells, .agg e.cells] w fun en w' => en = .returned (.bool true) ∧ Below w.heap.size w w' := by
  have HX := (((Old.start w).alloc h.cells 101).alloc b.cells 103).alloc e.cells 105
  simp only [World.size_alloc] at HX
  have s1 := toS_size h.client.d
  have s2 := toS_size b.id.d
  have s3 := toS_size e.id
  replace a1 := Lib.hid a1
  replace a2 := Lib.hid a2
  replace a3 := Lib.hid a3
  replace b1 := Lib.hid b1
  replace b2 := Lib.hid b2
  replace b3 := Lib.hid b3
  replace f1 := Lib.hid f1
  replace f2 := Lib.hid f2
  unfold Head.cells TBegin.cells TEnd.cells at HX ⊢
  go_enter Try.func8, Try.ntmps8
  go_wp2_with fail
  refine (rc26_0 HX).mono ?_
  rintro en w1 ⟨rfl, HA⟩
  go_wp2_with fail
  refine (rc26_1 HA).mono ?_
  rintro en w2 ⟨rfl, HB⟩
  have ce := HB.c
  have cb := HB.t.c
  have ch := HB.t.t.c
  by_cases q1 : 1000 < h.client.d.length
  · have t1 : decide ((1000 : Int) < (h.client.d.length : Int)) = true := by simp; omega
    go_wp2
    go_ret
    exact ⟨rfl, HB.t.t.t.old⟩
  have t1 : decide ((1000 : Int) < (h.client.d.length : Int)) = false := by simp; omega
  by_cases q2 : 1000 < b.id.d.length
  · have t2 : decide ((1000 : Int) < (b.id.d.length : Int)) = true := by simp; omega
    go_wp2
    go_ret
    exact ⟨rfl, HB.t.t.t.old⟩
  have t2 : decide ((1000 : Int) < (b.id.d.length : Int)) = false := by simp; omega
  by_cases q3 : 1000 < e.id.length
  · have t3 : decide ((1000 : Int) < (e.id.length : Int)) = true := by simp; omega
    go_wp2
    go_ret
    exact ⟨rfl, HB.t.t.t.old⟩
  have t3 : decide ((1000 : Int) < (e.id.length : Int)) = false := by simp; omega
  have N3 := rcheck_calls h a3.out.1 a3.out.2 HB
  by_cases q4 : h.check = 0
  case neg =>
    have b0 : (h.check != 0) = true := bne_iff_ne.2 q4
    replace N3 := Lib.hid N3
    go_wp2_with fail
    refine N3.out.mono ?_
    rintro en w3 ⟨rfl, HC⟩
    go_wp2
    go_ret
    exact ⟨rfl, HC.t.t.t.old⟩
  rw [q4] at N3
  replace N3 := Lib.hid N3
  go_wp2_with fail
  refine N3.out.mono ?_
  rintro en w3 ⟨rfl, HC⟩
  clear ce cb ch HA HB N3
  have P1 := Lib.hid (show OSt.head ⟨[], 0⟩ h = ⟨wHead h, 0⟩ from head_put _ h q4)
  have q4' := Lib.hid q4
  have l1 := wHead_len h
  have HO := (HC.alloc #[.slice none 0 0, .int .i64 0] 71).outnew
  have ch0 := HC.t.t.c
  have ce := HO.t.c
  have cb := HO.t.t.c
  have ch := HO.t.t.t.c
  by_cases q5 : h.kind = 22
  · have k1 : (h.kind != 22) = false := by simp [q5]
    have k2 : (h.kind == 22) = true := by simp [q5]
    clear q5 q4
    have l2 := wBegin_len b h.version
    go_wp2_with fail
    refine (rwrite_calls h a1.out a2.out a3.out a4 HO (by rw [P1.out]; simp only; omega)).mono ?_
    rintro en w4 ⟨rfl, HD⟩
    rw [P1.out] at HD
    go_wp2_with fail
    refine (out_len HD).mono ?_
    rintro en w5 ⟨rfl, rfl⟩
    have ce := HD.t.c
    have cb := HD.t.t.c
    have ch := HD.t.t.t.c
    go_wp2_with fail
    refine (echeck_calls e f2.out.1 f2.out.2 HD).mono ?_
    rintro en w5 ⟨rfl, HE⟩
    clear ce cb ch
    have ce := HE.t.c
    have cb := HE.t.t.c
    have ch := HE.t.t.t.c
    by_cases q6 : b.check h.version = 0
    · have P2 := Lib.hid (show OSt.tbegin ⟨wHead h, 0⟩ b h.version = ⟨wHead h ++ wBegin b h.version, 0⟩ from begin_put _ b _ b2.out q6)
      have q6' := Lib.hid q6
      go_wp2_with fail
      refine (bwrite2_calls b h.version b1.out b2.out b3.out b4 HE (by rw [P2.out]; simp only [List.length_append]; omega)).mono ?_
      rintro en w6 ⟨rfl, HG⟩
      rw [P2.out] at HG
      clear ce cb ch
      have ce := HG.t.c
      have cb := HG.t.t.c
      have ch := HG.t.t.t.c
      have N4 := bcheck_calls b h.version b1.out.1 b1.out.2 b3.out.1 b3.out.2 HG
      rw [q6] at N4
      replace N4 := Lib.hid N4
      clear q6
      go_wp2_with fail
      refine N4.out.mono ?_
      rintro en w7 ⟨rfl, HI⟩
      go_wp2_with fail
      refine (out_text HI).mono ?_
      rintro en w8 ⟨rfl, HJ⟩
      rw [show OSt.text ⟨wHead h ++ wBegin b h.version, 0⟩ = (wHead h ++ wBegin b h.version, 0) from rfl]
      go_wp2_with fail
      refine (in_new (wHead h ++ wBegin b h.version) HJ (by rw [List.length_append]; omega)).mono ?_
      rintro en w9 ⟨gi, rfl, HK⟩
      have N5 := rread_calls HK
      obtain ⟨r1, r2⟩ := head_read h q4'.out [] (wBegin b h.version)
      rw [r1, r2] at N5
      clear r1 r2
      replace N5 := Lib.hid N5
      go_wp2_with fail
      refine N5.out.mono ?_
      rintro en w10 ⟨rfl, HL⟩
      rw [List.nil_append] at HL
      have HM := HL.alloc h.cells 101
      unfold Head.cells at HM
      have hne := neq_head h
      unfold Head.cells at hne
      have cx := HM.c
      have ch' := HM.t.t.t.t.t.c
      unfold Head.cells
      go_wp2_with fail
      refine (in_at HM.f2).mono ?_
      rintro en w11 ⟨rfl, rfl⟩
      go_wp2_with fail
      have hq := eq_begin b
      unfold TBegin.cells at hq
      have NB := rbegin_calls h.version HM.f2.drew
      obtain ⟨r1, r2⟩ := begin_read b h.version b2.out q6'.out (wHead h) []
      rw [List.append_nil] at r1 r2
      rw [r1, r2] at NB
      clear r1 r2
      unfold TBegin.cells at NB
      replace NB := Lib.hid NB
      have cx1 := HM.c 1
      have cq0 := HM.t.t.t.t.c 0
      have cq1 := HM.t.t.t.t.c 1
      have cq2 := HM.t.t.t.t.c 2
      have cq3 := HM.t.t.t.t.c 3
      have cq4 := HM.t.t.t.t.c 4
      go_region_held3 (fun w' => w'.cell? ⟨w10.heap.size, 1, none⟩ = some (.int .i64 h.version) ∧ w'.cell? ⟨w.heap.size + 1, 0, none⟩ = some (.bool b.id.nu) ∧ w'.cell? ⟨w.heap.size + 1, 1, none⟩ = some (.string (toS b.id.d)) ∧ w'.cell? ⟨w.heap.size + 1, 2, none⟩ = some (.int .i64 b.timeout) ∧ w'.cell? ⟨w.heap.size + 1, 3, none⟩ = some (.int .i64 b.producer) ∧ w'.cell? ⟨w.heap.size + 1, 4, none⟩ = some (.int .i64 b.epoch)) (first | go_keep | exact ⟨by assumption, by assumption, by assumption, by assumption, by assumption, by assumption⟩) ((first | (go_at_call 55; refine NB.out.mono ?_; rintro en w12 ⟨rfl, HN⟩; have ua0 := HN.t.t.t.t.c 0; have ua1 := HN.t.t.t.t.c 1; have ua2 := HN.t.t.t.t.c 2; have ua3 := HN.t.t.t.t.c 3; have ua4 := HN.t.t.t.t.c 4; have va := HN.t.c 1) | (go_at_call 38; refine (in_close HN).mono ?_; rintro en w13 ⟨rfl, HP⟩; have ub0 := HP.t.t.t.t.c 0; have ub1 := HP.t.t.t.t.c 1; have ub2 := HP.t.t.t.t.c 2; have ub3 := HP.t.t.t.t.c 3; have ub4 := HP.t.t.t.t.c 4; have vb := HP.t.c 1)))
      all_goals
        go_wp2
        go_ret
        exact ⟨rfl, HP.t.t.t.t.t.t.old⟩
    · have P2 := Lib.hid (show OSt.tbegin ⟨wHead h, 0⟩ b h.version = ⟨wHead h, b.check h.version⟩ by unfold OSt.tbegin; rw [if_pos q6]; rfl)
      have HT := Lib.hid (show OSt.text ⟨wHead h, b.check h.version⟩ = ([], b.check h.version) from if_neg q6)
      have k3 : (b.check h.version != 0) = true := bne_iff_ne.2 q6
      clear q6
      go_wp2_with fail
      refine (bwrite2_calls b h.version b1.out b2.out b3.out b4 HE (by rw [P2.out]; simp only; omega)).mono ?_
      rintro en w6 ⟨rfl, HG⟩
      rw [P2.out] at HG
      clear ce cb ch
      have ce := HG.t.c
      have cb := HG.t.t.c
      have ch := HG.t.t.t.c
      go_wp2_with fail
      refine (bcheck_calls b h.version b1.out.1 b1.out.2 b3.out.1 b3.out.2 HG).mono ?_
      rintro en w7 ⟨rfl, HI⟩
      go_wp2_with fail
      refine (out_text HI).mono ?_
      rintro en w8 ⟨rfl, HJ⟩
      rw [HT.out]
      have hem : (toS []).toList.isEmpty = true := by rw [toS_list]; rfl
      have hem2 : (toS []).toList = [] := by rw [toS_list]
      go_wp2
      go_ret
      exact ⟨by first | rfl | exact ret_bool (by simp [toS_list]), HJ.t.t.t.t.old⟩
  by_cases q7 : h.kind = 26
  · have k1 : (h.kind != 22) = true := bne_iff_ne.2 q5
    have k2 : (h.kind == 22) = false := beq_eq_false_iff_ne.2 q5
    have k3 : (h.kind != 26) = false := by simp [q7]
    clear q5 q4 q7
    have l2 := wEnd_len e
    go_wp2_with fail
    refine (rwrite_calls h a1.out a2.out a3.out a4 HO (by rw [P1.out]; simp only; omega)).mono ?_
    rintro en w4 ⟨rfl, HD⟩
    rw [P1.out] at HD
    go_wp2_with fail
    refine (out_len HD).mono ?_
    rintro en w5 ⟨rfl, rfl⟩
    have ce := HD.t.c
    have cb := HD.t.t.c
    have ch := HD.t.t.t.c
    go_wp2_with fail
    have N4 := echeck_calls e f2.out.1 f2.out.2 HD
    by_cases q6 : e.check = 0
    · have P2 := Lib.hid (show OSt.tend ⟨wHead h, 0⟩ e = ⟨wHead h ++ wEnd e, 0⟩ from end_put _ e f1.out q6)
      have q6' := Lib.hid q6
      rw [q6] at N4
      replace N4 := Lib.hid N4
      clear q6
      refine N4.out.mono ?_
      rintro en w5 ⟨rfl, HE⟩
      clear ce cb ch
      have ce := HE.t.c
      have cb := HE.t.t.c
      have ch := HE.t.t.t.c
      go_wp2_with fail
      refine (ewrite_calls e f1.out f2.out f3 HE (by rw [P2.out]; simp only [List.length_append]; omega)).mono ?_
      rintro en w6 ⟨rfl, HI⟩
      rw [P2.out] at HI
      go_wp2_with fail
      refine (out_text HI).mono ?_
      rintro en w8 ⟨rfl, HJ⟩
      rw [show OSt.text ⟨wHead h ++ wEnd e, 0⟩ = (wHead h ++ wEnd e, 0) from rfl]
      go_wp2_with fail
      refine (in_new (wHead h ++ wEnd e) HJ (by rw [List.length_append]; omega)).mono ?_
      rintro en w9 ⟨gi, rfl, HK⟩
      have N5 := rread_calls HK
      obtain ⟨r1, r2⟩ := head_read h q4'.out [] (wEnd e)
      rw [r1, r2] at N5
      clear r1 r2
      replace N5 := Lib.hid N5
      go_wp2_with fail
      refine N5.out.mono ?_
      rintro en w10 ⟨rfl, HL⟩
      rw [List.nil_append] at HL
      have HM := HL.alloc h.cells 101
      unfold Head.cells at HM
      have hne := neq_head h
      unfold Head.cells at hne
      have cx := HM.c
      have ch' := HM.t.t.t.t.t.c
      unfold Head.cells
      go_wp2_with fail
      refine (in_at HM.f2).mono ?_
      rintro en w11 ⟨rfl, rfl⟩
      go_wp2_with fail
      have hq := eq_end e
      unfold TEnd.cells at hq
      have NB := rend_calls HM.f2.drew
      obtain ⟨r1, r2⟩ := end_read e f1.out q6'.out (wHead h) []
      rw [List.append_nil] at r1 r2
      rw [r1, r2] at NB
      clear r1 r2
      unfold TEnd.cells at NB
      replace NB := Lib.hid NB
      have cx1 := HM.c 1
      have cq0 := HM.t.t.t.c 0
      have cq1 := HM.t.t.t.c 1
      have cq2 := HM.t.t.t.c 2
      have cq3 := HM.t.t.t.c 3
      go_region_held3 (fun w' => w'.cell? ⟨w10.heap.size, 1, none⟩ = some (.int .i64 h.version) ∧ w'.cell? ⟨w.heap.size + 1 + 1, 0, none⟩ = some (.string (toS e.id)) ∧ w'.cell? ⟨w.heap.size + 1 + 1, 1, none⟩ = some (.int .i64 e.producer) ∧ w'.cell? ⟨w.heap.size + 1 + 1, 2, none⟩ = some (.int .i64 e.epoch) ∧ w'.cell? ⟨w.heap.size + 1 + 1, 3, none⟩ = some (.bool e.commit)) (first | go_keep | exact ⟨by assumption, by assumption, by assumption, by assumption, by assumption⟩) ((first | (go_at_call 56; refine NB.out.mono ?_; rintro en w12 ⟨rfl, HN⟩; have ua0 := HN.t.t.t.c 0; have ua1 := HN.t.t.t.c 1; have ua2 := HN.t.t.t.c 2; have ua3 := HN.t.t.t.c 3; have va := HN.t.c 1) | (go_at_call 38; refine (in_close HN).mono ?_; rintro en w13 ⟨rfl, HP⟩; have ub0 := HP.t.t.t.c 0; have ub1 := HP.t.t.t.c 1; have ub2 := HP.t.t.t.c 2; have ub3 := HP.t.t.t.c 3; have vb := HP.t.c 1)))
      all_goals
        go_wp2
        go_ret
        exact ⟨rfl, HP.t.t.t.t.t.t.old⟩
    · have P2 := Lib.hid (show OSt.tend ⟨wHead h, 0⟩ e = ⟨wHead h, e.check⟩ by unfold OSt.tend; rw [if_pos q6]; rfl)
      have HT := Lib.hid (show OSt.text ⟨wHead h, e.check⟩ = ([], e.check) from if_neg q6)
      have k4 : (e.check != 0) = true := bne_iff_ne.2 q6
      replace N4 := Lib.hid N4
      clear q6
      refine N4.out.mono ?_
      rintro en w5 ⟨rfl, HE⟩
      clear ce cb ch
      have ce := HE.t.c
      have cb := HE.t.t.c
      have ch := HE.t.t.t.c
      go_wp2_with fail
      refine (ewrite_calls e f1.out f2.out f3 HE (by rw [P2.out]; simp only; omega)).mono ?_
      rintro en w6 ⟨rfl, HI⟩
      rw [P2.out] at HI
      go_wp2_with fail
      refine (out_text HI).mono ?_
      rintro en w8 ⟨rfl, HJ⟩
      rw [HT.out]
      have hem : (toS []).toList.isEmpty = true := by rw [toS_list]; rfl
      have hem2 : (toS []).toList = [] := by rw [toS_list]
      go_wp2
      go_ret
      exact ⟨by first | rfl | exact ret_bool (by simp [toS_list]), HJ.t.t.t.t.old⟩
  · have k1 : (h.kind != 22) = true := bne_iff_ne.2 q5
    have k3 : (h.kind != 26) = true := bne_iff_ne.2 q7
    go_wp2
    go_ret
    exact ⟨rfl, HC.t.t.t.old⟩
end Go.Proofs.Ytflgfbffglmmeaa
