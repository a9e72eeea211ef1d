/-
  Keys; values, written.
-/
import Derived.Test.YtflgfbffglmmeaaVal5
import Derived.Test.YtflgfbffglmmeaaInv
namespace Go.Proofs.Ytflgfbffglmmeaa
open Go.RowKit
set_option linter.unusedVariables false
set_option linter.unusedSimpArgs false
section
variable {F : List Asn} {w : World} {g : Nat} {o : OSt} {i : ISt}
theorem keyEnc_len (l : List UInt8) : (((⟨[], 0⟩ : OSt).int 0 2).fixed ⟨false, l⟩ 2).b.length ≤ 4 + l.length := by
  rw [oint_ok _ (n := 0) (s := 2) (by decide)]
  show (OSt.fixed ⟨be 0 2, 0⟩ ⟨false, l⟩ 2).b.length ≤ _
  unfold OSt.fixed OSt.bw
  rw [if_pos (show Blob.right ⟨false, l⟩ = true from rfl)]
  unfold OSt.int
  split
  · show ((be 0 2 ++ be _ 2) ++ l).length ≤ _
    simp only [List.length_append, be_length]; omega
  · show (OSt.put (OSt.fail ⟨be 0 2, 0⟩ 11) l).b.length ≤ _
    show (be 0 2).length ≤ _
    rw [be_length]; omega
set_option maxHeartbeats 400000 in
theorem keyenc_calls (l : List UInt8) (hl : l.length ≤ 1000000000) (H : Hd F w) : Calls Try.prog 39 #[.string (toS l)] w fun en w' => en = .returned (.tuple #[.string (toS (keyEnc l).1), .int .i64 (keyEnc l).2]) ∧ Hd F w' := by
  have he : keyEnc l = if kright l = false then ([], 4) else OSt.text (((⟨[], 0⟩ : OSt).int 0 2).fixed ⟨false, l⟩ 2) := rfl
  have hln := keyEnc_len l
  have HR := fun w1 => kright_calls l w1
  have HO := (H.alloc #[.slice none 0 0, .int .i64 0] 71).outnew
  generalize keyEnc l = R at he ⊢
  replace he := Lib.hid he
  have hl2 := Lib.hid (show (((⟨[], 0⟩ : OSt).int 0 2).fixed ⟨false, l⟩ 2).b.length ≤ 140737488355328 by omega)
  have hl1 := Lib.hid (Nat.le_trans (OSt.fixed_mono _ _ _) hl2.out)
  clear hln
  have hl3 := Lib.hid (show l.length ≤ 140737488355328 by omega)
  cases hk : kright l
  · rw [hk] at HR
    replace HR := Lib.hid HR
    have e2 := Lib.hid (he.out.trans (if_pos hk))
    clear hk
    go_enter Try.func39, Try.ntmps39
    go_wp2_with fail
    refine (HR.out _).mono ?_
    rintro en w1 ⟨rfl, rfl⟩
    go_wp2
    go_ret2
    rw [e2.out]
    exact ⟨rfl, H⟩
  · rw [hk] at HR
    replace HR := Lib.hid HR
    have e2 := Lib.hid (he.out.trans (if_neg (by simp [hk])))
    clear hk
    go_enter Try.func39, Try.ntmps39
    go_wp2_with fail
    refine (HR.out _).mono ?_
    rintro en w1 ⟨rfl, rfl⟩
    go_wp2_with fail
    refine (out_int 0 2 (by omega) (by decide) (by decide) HO hl1.out).mono ?_
    rintro en w1 ⟨rfl, HA⟩
    go_wp2_with fail
    refine (puttext_calls l hl3.out HA hl2.out).mono ?_
    rintro en w2 ⟨rfl, HB⟩
    go_wp2_with fail
    refine (out_text HB).mono ?_
    rintro en w3 ⟨rfl, HC⟩
    go_wp2
    go_ret2
    rw [e2.out]
    exact ⟨rfl, HC.t⟩
set_option maxHeartbeats 1000000 in
theorem keydec_calls (l : List UInt8) (hl : l.length ≤ 140737488355328) (H : Hd F w) : Calls Try.prog 15 #[.string (toS l)] w fun en w' => en = .returned (.tuple #[.string (toS (keyDec l).1), .int .i64 (keyDec l).2]) ∧ Hd F w' := by
  have he : keyDec l = if (keyS l).e = 0 then (keyD l, 0) else ([], (keyS l).e) := rfl
  have hs : keyS l = (if (keyD l).isEmpty then (keyI l).textS.fail 4 else (keyI l).textS).close := rfl
  have hd : keyD l = (keyI l).textB.d := rfl
  have hi : keyI l = if ISt.intV ⟨[], l, 0⟩ 2 = 0 then ISt.intS ⟨[], l, 0⟩ 2 else (ISt.intS ⟨[], l, 0⟩ 2).fail 7 := rfl
  have HN := in_new l H hl
  have HI := fun g w1 H => in_int (F := F) (w := w1) (g := g) (i := ⟨[], l, 0⟩) 2 (by decide) (by decide) H
  generalize keyDec l = R at he ⊢
  generalize keyS l = S at he hs
  generalize keyD l = D at he hs hd
  generalize keyI l = I at hs hd hi
  generalize ISt.intV ⟨[], l, 0⟩ 2 = n at hi HI
  generalize ISt.intS ⟨[], l, 0⟩ 2 = j at hi HI
  replace he := Lib.hid he
  replace hs := Lib.hid hs
  replace hd := Lib.hid hd
  replace hi := Lib.hid hi
  replace HN := Lib.hid HN
  replace HI := Lib.hid HI
  go_enter Try.func15, Try.ntmps15
  go_wp2_with fail
  refine HN.out.mono ?_
  rintro en w1 ⟨gx, rfl, HA⟩
  go_wp2_with fail
  refine (HI.out gx _ HA).mono ?_
  rintro en w2 ⟨rfl, HB⟩
  by_cases q1 : n = 0
  case' pos =>
    have b1 : (n != 0) = false := by simp [q1]
    have e1 := hi.out
    rw [if_pos q1] at e1
    rw [← e1] at HB
    have HC := HB
    clear q1 e1 HB
  case' neg =>
    have b1 : (n != 0) = true := bne_iff_ne.2 q1
    have e1 := hi.out
    rw [if_neg q1] at e1
    replace e1 := Lib.hid e1
    clear q1
    go_wp2_with fail
    refine (in_fail 7 HB).mono ?_
    rintro en w4 ⟨rfl, HC⟩
    rw [← e1.out] at HC
    clear e1 HB
  all_goals
    clear hi
    have HT := text_calls HC
    rw [← hd.out] at HT
    replace HT := Lib.hid HT
    go_wp2_with fail
    refine HT.out.mono ?_
    rintro en w5 ⟨rfl, HD⟩
    clear HT
    cases q2 : D.isEmpty
    case' false =>
      have hE : (toS D).toList.isEmpty = false := by rw [toS_list]; exact q2
      have e2 := hs.out
      rw [q2, if_neg (by decide)] at e2
      replace e2 := Lib.hid e2
      have HE := HD
      clear q2 HD
    case' true =>
      have hE : (toS D).toList.isEmpty = true := by rw [toS_list]; exact q2
      have e2 := hs.out
      rw [q2, if_pos rfl] at e2
      replace e2 := Lib.hid e2
      clear q2
      go_wp2_with fail
      refine (in_fail 4 HD).mono ?_
      rintro en w6 ⟨rfl, HE⟩
      clear HD
  all_goals
    have HCl := in_close HE
    rw [← e2.out] at HCl
    replace HCl := Lib.hid HCl
    go_wp2_with fail
    refine HCl.out.mono ?_
    rintro en w7 ⟨rfl, HG⟩
    clear HCl
    by_cases q3 : S.e = 0
    · have b3 : (S.e != 0) = false := by simp [q3]
      have e3 := Lib.hid (he.out.trans (if_pos q3))
      clear q3
      go_wp2
      go_ret2
      rw [e3.out]
      exact ⟨rfl, HG.t⟩
    · have b3 : (S.e != 0) = true := bne_iff_ne.2 q3
      have e3 := Lib.hid (he.out.trans (if_neg q3))
      clear q3
      go_wp2
      go_ret2
      rw [e3.out]
      exact ⟨rfl, HG.t⟩
set_option maxRecDepth 100000 in
set_option maxHeartbeats 2000000 in
theorem valenc_calls (x : ValH) (hz : x.szd) (hr : ∀ w', Hd F w' → Rows KTop 2 w' x.A x.ls) (H : Hd F w) (hl : ((⟨[], 0⟩ : OSt).val x.v).b.length ≤ 140737488355328) :
    Calls Try.prog 41 #[.agg x.cells] w fun en w' => en = .returned (.tuple #[.string (toS (valEnc x.v).1), .int .i64 (valEnc x.v).2]) ∧ Hd F w' := by
  have he : valEnc x.v = if x.v.check ≠ 0 then ([], x.v.check) else ((⟨[], 0⟩ : OSt).val x.v).text := rfl
  have HC := fun w1 H => vchk_calls (F := Cel w.heap.size x.cells 37 :: F) (w := w1) x hz (fun w' h => hr w' h.t) H
  generalize valEnc x.v = R at he ⊢
  generalize x.v.check = c at he HC
  have hv : (⟨[], 0⟩ : OSt).val x.v = ((((((((⟨[], 0⟩ : OSt).int 0 2).int x.producer 8).int x.epoch 2).int x.timeout 4).int x.state 1).topics (x.ls.map TopicH.t)).int x.updated 8).int x.started 8 := rfl
  generalize (⟨[], 0⟩ : OSt).val x.v = S at he hv hl
  rw [hv] at hl
  have l7 := Lib.hid (Nat.le_trans (OSt.int_mono _ _ _) hl)
  have l6 := Lib.hid (Nat.le_trans (OSt.int_mono _ _ _) l7.out)
  have l5 := Lib.hid (Nat.le_trans (OSt.topics_mono _ _) l6.out)
  have l4 := Lib.hid (Nat.le_trans (OSt.int_mono _ _ _) l5.out)
  have l3 := Lib.hid (Nat.le_trans (OSt.int_mono _ _ _) l4.out)
  have l2 := Lib.hid (Nat.le_trans (OSt.int_mono _ _ _) l3.out)
  have l1 := Lib.hid (Nat.le_trans (OSt.int_mono _ _ _) l2.out)
  replace hl := Lib.hid hl
  replace hv := Lib.hid hv
  have z1 := Lib.hid hz.producer
  have z2 := Lib.hid hz.epoch
  have z3 := Lib.hid hz.timeout
  have z4 := Lib.hid hz.state
  have z5 := Lib.hid hz.updated
  have z6 := Lib.hid hz.started
  have z7 := Lib.hid hz.many
  have z8 := Lib.hid hz.tops
  clear hz
  obtain ⟨p, e, t, s, ls, u, st, A, n⟩ := x
  unfold ValH.cells at *
  simp only at *
  have HA := H.alloc #[.int .i64 p, .int .i64 e, .int .i64 t, .int .i64 s, .slice A ls.length n, .int .i64 u, .int .i64 st] 37
  replace he := Lib.hid he
  replace HC := Lib.hid HC
  replace hr := Lib.hid hr
  have ca := HA.c
  go_enter Try.func41, Try.ntmps41
  go_wp2_with fail
  refine (HC.out _ HA).mono ?_
  rintro en w1 ⟨rfl, HB⟩
  by_cases q : c = 0
  case neg =>
    have b0 : (c != 0) = true := bne_iff_ne.2 q
    have e2 := Lib.hid (he.out.trans (if_pos q))
    clear q
    go_wp2
    go_ret2
    rw [e2.out]
    exact ⟨rfl, HB.t⟩
  have b0 : (c != 0) = false := by simp [q]
  have e2 := Lib.hid (he.out.trans (if_neg (by simp [q])))
  clear q he
  have HD := (HB.alloc #[.slice none 0 0, .int .i64 0] 71).outnew
  go_wp2_with fail
  refine (out_int 0 2 (by omega) (by decide) (by decide) HD l1.out).mono ?_
  rintro en w2 ⟨rfl, H1⟩
  have c1 := H1.t.c
  go_wp2_with fail
  refine (out_int p 8 (by omega) z1.out.1 z1.out.2 H1 l2.out).mono ?_
  rintro en w3 ⟨rfl, H2⟩
  have c2 := H2.t.c
  go_wp2_with fail
  refine (out_int e 2 (by omega) z2.out.1 z2.out.2 H2 l3.out).mono ?_
  rintro en w4 ⟨rfl, H3⟩
  have c3 := H3.t.c
  go_wp2_with fail
  refine (out_int t 4 (by omega) z3.out.1 z3.out.2 H3 l4.out).mono ?_
  rintro en w5 ⟨rfl, H4⟩
  have c4 := H4.t.c
  go_wp2_with fail
  refine (out_int s 1 (by omega) z4.out.1 z4.out.2 H4 l5.out).mono ?_
  rintro en w6 ⟨rfl, H5⟩
  have c5 := H5.t.c
  go_wp2_with fail
  refine (puttopics_calls ls A n z7.out z8.out (fun o' w' h => hr.out w' h.t.t) H5 l6.out).mono ?_
  rintro en w7 ⟨rfl, H6⟩
  have c6 := H6.t.c
  go_wp2_with fail
  refine (out_int u 8 (by omega) z5.out.1 z5.out.2 H6 l7.out).mono ?_
  rintro en w8 ⟨rfl, H7⟩
  have c7 := H7.t.c
  go_wp2_with fail
  refine (out_int st 8 (by omega) z6.out.1 z6.out.2 H7 hl.out).mono ?_
  rintro en w9 ⟨rfl, H8⟩
  rw [← hv.out] at H8
  go_wp2_with fail
  refine (out_text H8).mono ?_
  rintro en w10 ⟨rfl, H9⟩
  go_wp2
  go_ret2
  rw [e2.out]
  exact ⟨rfl, H9.t.t⟩
end
end Go.Proofs.Ytflgfbffglmmeaa
