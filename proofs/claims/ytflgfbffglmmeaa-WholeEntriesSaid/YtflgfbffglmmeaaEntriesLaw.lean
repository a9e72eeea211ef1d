/-
  The law WholeEntries, walked.
-/
import Derived.Test.YtflgfbffglmmeaaEntriesPure
namespace Go.Proofs.Ytflgfbffglmmeaa
open Go.RowKit
set_option linter.unusedVariables false
set_option linter.unusedSimpArgs false
section
variable {F : List Asn} {w : World}
theorem enc_a (H : Hd F w) : Calls Try.prog 39 #[.string ⟨#[97]⟩] w fun en w' => en = .returned (.tuple #[.string (toS [0, 0, 0, 1, 97]), .int .i64 0]) ∧ Hd F w' := keyenc_calls [97] (by decide) H
/-- The cells of the boxes; what is read beneath stays. -/
def EF (id0 id1 : List UInt8) (x y : ValH) (p : Nat) (w : World) : List Asn := [Cel (p + 2) y.cells 37, Cel (p + 1) x.cells 37, Cel p #[.string (toS id0), .string (toS id1)] 83, Old w]
end
set_option maxRecDepth 100000 in
set_option maxHeartbeats 8000000 in
theorem entries_calls (id0 id1 : List UInt8) (x y : ValH) (a0 : id0.length ≤ 140737488355328) (a1 : id1.length ≤ 140737488355328) (zx0 : x.wsz) (zy0 : y.wsz) {w : World} (hx : Rows KTop 2 w x.A x.ls) (hy : Rows KTop 2 w y.A y.ls) :
    Calls Try.prog 6 #[.agg #[.string (toS id0), .string (toS id1)], .agg x.cells, .agg y.cells] w fun en w' => en = .returned (.bool true) ∧ Below w.heap.size w w' := by
  have HX := (((Old.start w).alloc #[.string (toS id0), .string (toS id1)] 83).alloc x.cells 37).alloc y.cells 37
  simp only [World.size_alloc] at HX
  have rx := Lib.hid (fun w' (h : Below w.heap.size w w') => hx.below h (fun t cs k => (⟨k.1, k.2.below h (fun _ _ h => h)⟩ : KTop w' t cs)))
  have ry := Lib.hid (fun w' (h : Below w.heap.size w w') => hy.below h (fun t cs k => (⟨k.1, k.2.below h (fun _ _ h => h)⟩ : KTop w' t cs)))
  clear hx hy
  replace zx0 := Lib.hid zx0
  replace zy0 := Lib.hid zy0
  have s0 := toS_size id0
  have s1 := toS_size id1
  have s2 : (toS [0, 0, 0, 1, 97]).size = 5 := rfl
  go_enter Try.func6, Try.ntmps6
  go_wp2_with fail
  refine (enc_a HX).mono ?_
  rintro en w1 ⟨rfl, HA⟩
  have ci := HA.t.t.c
  unfold ValH.cells at *
  have cx := HA.t.c
  have cy := HA.c
  by_cases q1 : 500 < id0.length
  · have t1 : decide ((500 : Int) < (id0.length : Int)) = true := by simp; omega
    go_wp2
    go_ret
    exact ⟨rfl, HA.t.t.t.old⟩
  have t1 : decide ((500 : Int) < (id0.length : Int)) = false := by simp; omega
  by_cases q2 : 500 < id1.length
  · have t2 : decide ((500 : Int) < (id1.length : Int)) = true := by simp; omega
    go_wp2
    go_ret
    exact ⟨rfl, HA.t.t.t.old⟩
  have t2 : decide ((500 : Int) < (id1.length : Int)) = false := by simp; omega
  have F1 := few_calls x.ls x.A x.c zx0.out.many zx0.out.tops (fun w' h => rx.out w' h.t.t.t.old) HA
  have hvx : few (x.ls.map TopicH.t) = few x.v.topics := rfl
  rw [hvx] at F1
  by_cases q3 : few x.v.topics = 0
  · have t3 : (few x.v.topics == 0) = true := beq_iff_eq.2 q3
    replace F1 := Lib.hid F1
    clear q3 hvx
    go_wp2_with fail
    refine F1.out.mono ?_
    rintro en w2 ⟨rfl, HB⟩
    go_wp2
    go_ret
    exact ⟨rfl, HB.t.t.t.old⟩
  have fx := Lib.hid (few_eq _ q3)
  rw [few_one _ q3] at F1
  replace F1 := Lib.hid F1
  clear q3 hvx
  go_wp2_with fail
  refine F1.out.mono ?_
  rintro en w2 ⟨rfl, HB⟩
  clear F1 cx cy ci
  have ci := HB.t.t.c
  have cx := HB.t.c
  have cy := HB.c
  have F2 := few_calls y.ls y.A y.c zy0.out.many zy0.out.tops (fun w' h => ry.out w' h.t.t.t.old) HB
  have hvy : few (y.ls.map TopicH.t) = few y.v.topics := rfl
  rw [hvy] at F2
  by_cases q3 : few y.v.topics = 0
  · have t3 : (few y.v.topics == 0) = true := beq_iff_eq.2 q3
    replace F2 := Lib.hid F2
    clear q3 hvy
    go_wp2_with fail
    refine F2.out.mono ?_
    rintro en w3 ⟨rfl, HC⟩
    go_wp2
    go_ret
    exact ⟨rfl, HC.t.t.t.old⟩
  have fy := Lib.hid (few_eq _ q3)
  have zx := Lib.hid (wsz_szd zx0.out fx.out)
  have zy := Lib.hid (wsz_szd zy0.out fy.out)
  rw [few_one _ q3] at F2
  replace F2 := Lib.hid F2
  clear q3 hvy
  go_wp2_with fail
  refine F2.out.mono ?_
  rintro en w3 ⟨rfl, HC⟩
  clear F2 cx cy ci HA HB
  have ci := HC.t.t.c
  have K0 := keyenc_calls id0 (by omega) HC
  have ti0 : (toS id0).toList = id0 := toS_list _
  have ti1 : (toS id1).toList = id1 := toS_list _
  cases k0 : kright id0
  case' false =>
    obtain ⟨kb, hkb⟩ : ∃ kb : List UInt8, kb = [] := ⟨_, rfl⟩
    rw [keyEnc_no k0, ← hkb] at K0
    have lkb := Lib.hid (show kb.length ≤ 1000 by rw [hkb]; simp)
    have D0 := Lib.hid True.intro
    replace hkb := Lib.hid hkb
  case' true =>
    obtain ⟨kb, hkb⟩ : ∃ kb, kb = be 0 2 ++ wText id0 := ⟨_, rfl⟩
    rw [(key_rt id0 k0).1, ← hkb] at K0
    have lkb := Lib.hid (show kb.length ≤ 1000 by rw [hkb]; simp only [wText, List.length_append, be_length]; omega)
    have D0 := Lib.hid (show keyDec kb = (id0, 0) by rw [hkb]; exact (key_rt id0 k0).2)
    replace hkb := Lib.hid hkb
  all_goals
    have tkb : (toS kb).toList = kb := toS_list _
    replace K0 := Lib.hid K0
    go_wp2_with fail
    refine K0.out.mono ?_
    rintro en w4 ⟨rfl, HD⟩
    clear K0 ci
    have ci := HD.t.t.c
    have K1 := keyenc_calls id1 (by omega) HD
    cases k1 : kright id1
    case' false =>
      obtain ⟨lb, hlb⟩ : ∃ lb : List UInt8, lb = [] := ⟨_, rfl⟩
      rw [keyEnc_no k1, ← hlb] at K1
      replace hlb := Lib.hid hlb
    case' true =>
      obtain ⟨lb, hlb⟩ : ∃ lb, lb = be 0 2 ++ wText id1 := ⟨_, rfl⟩
      rw [(key_rt id1 k1).1, ← hlb] at K1
      replace hlb := Lib.hid hlb
  all_goals
    have tlb : (toS lb).toList = lb := toS_list _
    first | (have hinj : (kb == lb) = (id0 == id1) := by rw [hkb.out, hlb.out]; exact key_inj id0 id1 k0 k1) | skip
    clear k0 k1
    replace K1 := Lib.hid K1
    go_wp2_with fail
    refine K1.out.mono ?_
    rintro en w5 ⟨rfl, HE⟩
    clear K1 ci HD
    have ci := HE.t.t.c
    have cx := HE.t.c
    have V0 := valenc_calls x zx.out (fun w' h => rx.out w' h.t.t.t.old) HE (by have h1 := OSt.val_le ⟨[], 0⟩ x.v; have h2 := fx.out; simp only [List.length_nil] at h1; omega)
    by_cases c0 : x.v.check = 0
    case' pos =>
      obtain ⟨xb, hxb⟩ : ∃ xb, xb = wVal x.v := ⟨_, rfl⟩
      rw [(val_rt (szd_i64s zx.out) c0 (few_wok _ fx.out c0)).1, ← hxb] at V0
      have D1 := Lib.hid (show valDec xb = (x.v, 0) by rw [hxb]; exact (val_rt (szd_i64s zx.out) c0 (few_wok _ fx.out c0)).2)
      have lxb := Lib.hid (show xb.length ≤ 1000000000 by
        have h1 := OSt.val_le ⟨[], 0⟩ x.v
        have h2 := fx.out
        rw [val_put _ (szd_i64s zx.out) c0 (few_wok _ fx.out c0)] at h1
        have h3 : (OSt.put ⟨[], 0⟩ (wVal x.v)).b = wVal x.v := rfl
        rw [h3, ← hxb] at h1
        simp only [List.length_nil] at h1
        omega)
      replace hxb := Lib.hid hxb
      have g0 : ((0 : Int) == 0) = true := rfl
    case' neg =>
      obtain ⟨xb, hxb⟩ : ∃ xb : List UInt8, xb = [] := ⟨_, rfl⟩
      rw [valEnc_no c0, ← hxb] at V0
      replace hxb := Lib.hid hxb
      have D1 := Lib.hid True.intro
      have lxb := Lib.hid True.intro
      have g0 : (x.v.check == 0) = false := beq_eq_false_iff_ne.2 c0
  all_goals
    have txb : (toS xb).toList = xb := toS_list _
    unfold ValH.cells at V0
    replace V0 := Lib.hid V0
    go_wp2_with fail
    refine V0.out.mono ?_
    rintro en w6 ⟨rfl, HG⟩
    clear V0 ci cx HE
    have ci := HG.t.t.c
    have cx := HG.t.c
    have cy := HG.c
    have V1 := valenc_calls y zy.out (fun w' h => ry.out w' h.t.t.t.old) HG (by have h1 := OSt.val_le ⟨[], 0⟩ y.v; have h2 := fy.out; simp only [List.length_nil] at h1; omega)
    by_cases c1 : y.v.check = 0
    case' pos =>
      obtain ⟨yb, hyb⟩ : ∃ yb, yb = wVal y.v := ⟨_, rfl⟩
      rw [(val_rt (szd_i64s zy.out) c1 (few_wok _ fy.out c1)).1, ← hyb] at V1
      replace hyb := Lib.hid hyb
      have g1 : ((0 : Int) == 0) = true := rfl
    case' neg =>
      obtain ⟨yb, hyb⟩ : ∃ yb : List UInt8, yb = [] := ⟨_, rfl⟩
      rw [valEnc_no c1, ← hyb] at V1
      replace hyb := Lib.hid hyb
      have g1 : (y.v.check == 0) = false := beq_eq_false_iff_ne.2 c1
  all_goals
    have tyb : (toS yb).toList = yb := toS_list _
    first | (have vinj : (xb == yb) = decide (x.v = y.v) := by rw [hxb.out, hyb.out]; exact val_inj (szd_i64s zx.out) (szd_i64s zy.out) c0 c1 (few_wok _ fx.out c0) (few_wok _ fy.out c1)) | skip
    clear c0 c1
    unfold ValH.cells at V1
    replace V1 := Lib.hid V1
    go_wp2_with fail
    refine V1.out.mono ?_
    rintro en w7 ⟨rfl, HI⟩
    clear V1 ci cx cy HG
    have ci := HI.t.t.c
    have cx := HI.t.c
    have cy := HI.c
    first
      | (have S1 := same14_calls x y zx.out zy.out (fun w' h => rx.out w' h.t.t.t.old) (fun w' h => ry.out w' h.t.t.t.old) HI
         rw [← vinj] at S1
         clear vinj
         unfold ValH.cells at S1
         replace S1 := Lib.hid S1
         go_wp2_with fail
         refine S1.out.mono ?_
         rintro en w8 ⟨rfl, HJ⟩
         clear S1)
      | (have HJ := HI
         have w8 := 0)
    clear ci cx cy
    have ci := HJ.t.t.c
    have cx := HJ.t.c
    have cy := HJ.c
    first
      | (have KD := keydec_calls kb (by have := lkb.out; omega) HJ
         rw [D0.out] at KD
         replace KD := Lib.hid KD
         go_wp2_with fail
         refine KD.out.mono ?_
         rintro en w9 ⟨rfl, HK⟩
         clear KD)
      | (have HK := HJ)
    clear ci cx cy
    have ci := HK.t.t.c
    have cx := HK.t.c
    have cy := HK.c
    first
      | (have VD := valdec_calls xb lxb.out HK
         unfold ValPost at VD
         rw [D1.out] at VD
         replace VD := Lib.hid VD
         go_wp2_with fail
         refine VD.out.mono ?_
         rintro en w10 ⟨z, hz, zz, rfl, HL⟩
         clear VD
         have HM := HL.alloc z.cells 37
         have S2 := same14_calls z x zz zx.out (fun w' h => h.t.ro) (fun w' h => rx.out w' h.t.t.t.t.t.old) HM
         rw [show decide (z.v = x.v) = true from decide_eq_true hz] at S2
         replace S2 := Lib.hid S2
         clear hz zz
         unfold ValH.cells at S2 HM
         have cz := HM.c
         have cx2 := HM.t.t.t.c
         unfold ValH.cells
         go_wp2_with fail
         refine S2.out.mono ?_
         rintro en w11 ⟨rfl, HN⟩
         go_wp2
         go_ret
         exact ⟨rfl, HN.t.t.t.t.t.old⟩)
      | (go_wp2
         go_ret
         exact ⟨rfl, HK.t.t.t.old⟩)
end Go.Proofs.Ytflgfbffglmmeaa
