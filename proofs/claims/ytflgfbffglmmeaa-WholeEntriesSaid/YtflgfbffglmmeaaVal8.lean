/-
  Values, read.
-/
import Derived.Test.YtflgfbffglmmeaaVal7
namespace Go.Proofs.Ytflgfbffglmmeaa
open Go.RowKit
set_option linter.unusedVariables false
set_option linter.unusedSimpArgs false
def nbd (n : Int) : Prop := -9223372036854775808 ≤ n ∧ n ≤ 9223372036854775807
theorem pgo_len : ∀ (n : Nat) (acc : List Int) (i : ISt), (pgo n acc i).1.length = acc.length + n
  | 0, _, _ => rfl
  | n + 1, acc, i => by rw [pgo, pgo_len n]; simp; omega
theorem pgo_bd : ∀ (n : Nat) (acc : List Int) (i : ISt), (∀ x ∈ acc, nbd x) → ∀ x ∈ (pgo n acc i).1, nbd x
  | 0, _, _, h => h
  | n + 1, acc, i, h => by
    rw [pgo]
    refine pgo_bd n _ _ (fun x hx => ?_)
    rcases List.mem_append.1 hx with hx | hx
    · exact h x hx
    · obtain rfl := List.mem_singleton.1 hx
      exact intV_bd i 4 (by decide)
theorem topic_szd (i : ISt) (h : i.all.length ≤ 1000000000) : i.topic.1.szd := by
  have h1 := textB_len_le i
  have h2 := cntV_le i.textS 4 4 (by decide)
  rw [all_textS] at h2
  refine ⟨?_, ?_, ?_⟩
  · show i.textB.d.length ≤ _; omega
  · show (pgo (i.textS.cntV 4 4) [] (i.textS.cntS 4 4)).1.length ≤ _
    rw [pgo_len]; simp; omega
  · exact pgo_bd _ _ _ (fun x hx => by cases hx)
theorem tgo_szd : ∀ (n : Nat) (acc : List Topic) (i : ISt), i.all.length ≤ 1000000000 → (∀ t ∈ acc, t.szd) → (∀ t ∈ (tgo n acc i).1, t.szd) ∧ (tgo n acc i).1.length ≤ acc.length + n
  | 0, acc, i, _, h => ⟨h, Nat.le_refl _⟩
  | n + 1, acc, i, hi, h => by
    rw [tgo]
    by_cases q : i.topic.2.e = 0
    · rw [if_pos q]
      have := tgo_szd n (acc ++ [i.topic.1]) i.topic.2 (by rw [all_topic]; exact hi) (fun t ht => by
        rcases List.mem_append.1 ht with ht | ht
        · exact h t ht
        · obtain rfl := List.mem_singleton.1 ht
          exact topic_szd i hi)
      refine ⟨this.1, Nat.le_trans this.2 (by simp; omega)⟩
    · rw [if_neg q]; exact ⟨fun t ht => absurd ht (List.not_mem_nil), by simp⟩
theorem topics_szd (i : ISt) (hi : i.all.length ≤ 1000000000) : (∀ t ∈ i.topics.1, t.szd) ∧ i.topics.1.length ≤ 1000000000 := by
  have h2 := cntV_le i 4 6 (by decide)
  obtain ⟨a, b⟩ := tgo_szd (i.cntV 4 6) [] (i.cntS 4 6) (by rw [all_cntS]; exact hi) (fun t ht => by cases ht)
  exact ⟨a, Nat.le_trans b (by simp; omega)⟩
theorem all_va (i : ISt) : i.va.all = i.all := by unfold ISt.va; split; exact all_intS _ _; rw [all_fail, all_intS]
theorem all_vb (i : ISt) : i.vb.all = i.all := by unfold ISt.vb; rw [all_intS, all_intS, all_intS, all_intS, all_va]
def vH0 : ValH := ⟨0, 0, 0, 0, [], 0, 0, none, 0⟩
def val7 : Array Value := #[.int .i64 0, .int .i64 0, .int .i64 0, .int .i64 0, .slice none 0 0, .int .i64 0, .int .i64 0]
section
variable {F : List Asn} {w : World} {g : Nat} {o : OSt} {i : ISt}
/-- What a value's reading leaves. -/
def ValPost (l : List UInt8) (F : List Asn) (en : Ending) (w' : World) : Prop :=
  ∃ x : ValH, x.v = (valDec l).1 ∧ x.szd ∧ en = .returned (.tuple #[.agg x.cells, .int .i64 (valDec l).2]) ∧ Hd (Ro (fun w => Rows KTop 2 w x.A x.ls) :: F) w'
theorem vH0_szd : vH0.szd := ⟨⟨by decide, by decide⟩, ⟨by decide, by decide⟩, ⟨by decide, by decide⟩, ⟨by decide, by decide⟩, ⟨by decide, by decide⟩, ⟨by decide, by decide⟩, Nat.zero_le _, fun h hh => absurd hh (List.not_mem_nil)⟩
set_option maxRecDepth 100000 in
set_option maxHeartbeats 4000000 in
theorem valdec_calls (l : List UInt8) (hl : l.length ≤ 1000000000) (H : Hd F w) : Calls Try.prog 17 #[.string (toS l)] w (ValPost l F) := by
  have hP : ∀ en w', (∃ x : ValH, x.v = (valDec l).1 ∧ x.szd ∧ en = .returned (.tuple #[.agg x.cells, .int .i64 (valDec l).2]) ∧ Hd (Ro (fun w => Rows KTop 2 w x.A x.ls) :: F) w') → ValPost l F en w' := fun _ _ h => h
  have hd : valDec l = if valE l = 0 then (ISt.valV ⟨[], l, 0⟩, 0) else (vzero, valE l) := rfl
  have hE : valE l = if (valS l).e = 0 then (ISt.valV ⟨[], l, 0⟩).check else (valS l).e := rfl
  have hS : valS l = (((ISt.vc ⟨[], l, 0⟩).intS 8).intS 8).close := rfl
  have hV : ISt.valV ⟨[], l, 0⟩ = ⟨(ISt.va ⟨[], l, 0⟩).intV 8, ((ISt.va ⟨[], l, 0⟩).intS 8).intV 2, (((ISt.va ⟨[], l, 0⟩).intS 8).intS 2).intV 4, ((((ISt.va ⟨[], l, 0⟩).intS 8).intS 2).intS 4).intV 1, (ISt.vb ⟨[], l, 0⟩).topics.1, (ISt.vc ⟨[], l, 0⟩).intV 8, ((ISt.vc ⟨[], l, 0⟩).intS 8).intV 8⟩ := rfl
  have hva : ISt.va ⟨[], l, 0⟩ = if ISt.intV ⟨[], l, 0⟩ 2 = 0 then ISt.intS ⟨[], l, 0⟩ 2 else (ISt.intS ⟨[], l, 0⟩ 2).fail 7 := rfl
  have hvb : ISt.vb ⟨[], l, 0⟩ = ((((ISt.va ⟨[], l, 0⟩).intS 8).intS 2).intS 4).intS 1 := rfl
  have hvc : ISt.vc ⟨[], l, 0⟩ = (ISt.vb ⟨[], l, 0⟩).topics.2 := rfl
  have hba : (ISt.vb ⟨[], l, 0⟩).all.length ≤ 1000000000 := by rw [all_vb]; simpa [ISt.all] using hl
  have hsz := topics_szd _ hba
  have HZ := H.alloc val7 37
  have HN := in_new l HZ (by omega)
  have HI := fun g w1 H => in_int (F := Cel w.heap.size val7 37 :: F) (w := w1) (g := g) (i := ⟨[], l, 0⟩) 2 (by decide) (by decide) H
  generalize hPP : ValPost l F = PP at hP ⊢
  clear hPP
  generalize valDec l = D at hd hP
  generalize valE l = E at hd hE
  generalize valS l = S at hE hS
  generalize ISt.valV ⟨[], l, 0⟩ = V at hd hE hV
  generalize ISt.vc ⟨[], l, 0⟩ = vc at hS hV hvc
  generalize ISt.vb ⟨[], l, 0⟩ = vb at hV hvb hvc hba hsz
  generalize ISt.va ⟨[], l, 0⟩ = va at hV hva hvb
  generalize ISt.intV ⟨[], l, 0⟩ 2 = n0 at hva HI
  generalize ISt.intS ⟨[], l, 0⟩ 2 = i0 at hva HI
  have bd1 := Lib.hid (intV_bd va 8 (by decide))
  have bd2 := Lib.hid (intV_bd (va.intS 8) 2 (by decide))
  have bd3 := Lib.hid (intV_bd ((va.intS 8).intS 2) 4 (by decide))
  have bd4 := Lib.hid (intV_bd (((va.intS 8).intS 2).intS 4) 1 (by decide))
  have bd5 := Lib.hid (intV_bd vc 8 (by decide))
  have bd6 := Lib.hid (intV_bd (vc.intS 8) 8 (by decide))
  replace hP := Lib.hid hP
  replace hd := Lib.hid hd
  replace hE := Lib.hid hE
  replace hS := Lib.hid hS
  replace hV := Lib.hid hV
  replace hva := Lib.hid hva
  replace hvb := Lib.hid hvb
  replace hvc := Lib.hid hvc
  replace hba := Lib.hid hba
  replace hsz := Lib.hid hsz
  replace HN := Lib.hid HN
  replace HI := Lib.hid HI
  unfold val7 at *
  go_enter Try.func17, Try.ntmps17
  go_wp2_with fail
  refine HN.out.mono ?_
  rintro en w1 ⟨gx, rfl, HA⟩
  go_wp2_with fail
  refine (HI.out gx _ HA).mono ?_
  rintro en w2 ⟨rfl, HB⟩
  by_cases q1 : n0 = 0
  case' pos =>
    have b1 : (n0 != 0) = false := by simp [q1]
    have e1 := hva.out
    rw [if_pos q1] at e1
    rw [← e1] at HB
    have HC := HB
    clear q1 e1 HB
  case' neg =>
    have b1 : (n0 != 0) = true := bne_iff_ne.2 q1
    have e1 := hva.out
    rw [if_neg q1] at e1
    replace e1 := Lib.hid e1
    clear q1
    go_wp2_with fail
    refine (in_fail 7 HB).mono ?_
    rintro en w4 ⟨rfl, HC⟩
    rw [← e1.out] at HC
    clear e1 HB
  all_goals
    clear hva
    go_wp2_with fail
    refine (in_int 8 (by decide) (by decide) HC).mono ?_
    rintro en w5 ⟨rfl, H1⟩
    go_wp2_with fail
    refine (in_int 2 (by decide) (by decide) H1).mono ?_
    rintro en w6 ⟨rfl, H2⟩
    go_wp2_with fail
    refine (in_int 4 (by decide) (by decide) H2).mono ?_
    rintro en w7 ⟨rfl, H3⟩
    go_wp2_with fail
    have HI1 := in_int 1 (by decide) (by decide) H3
    rw [show (((va.intS 8).intS 2).intS 4).intS 1 = vb from hvb.out.symm] at HI1
    replace HI1 := Lib.hid HI1
    refine HI1.out.mono ?_
    rintro en w8 ⟨rfl, H4⟩
    clear HI1
    generalize va.intV 8 = p at hV bd1
    generalize (va.intS 8).intV 2 = e at hV bd2
    generalize ((va.intS 8).intS 2).intV 4 = t at hV bd3
    generalize (((va.intS 8).intS 2).intS 4).intV 1 = s at hV bd4
    have H5 := (H4.alloc #[.int .i64 p, .int .i64 e, .int .i64 t, .int .i64 s, .slice none 0 0, .int .i64 0, .int .i64 0] 37).f2
    have HT := topics_calls hba.out H5
    rw [← hvc.out] at HT
    replace HT := Lib.hid HT
    go_wp2_with fail
    refine HT.out.mono ?_
    rintro en w9 ⟨hs, A, c, hmap, rfl, H6⟩
    clear HT
    replace hmap := Lib.hid hmap
    have z6 := H6.t.t.z
    have c6 := H6.t.t.c
    have H7 := ((H6.pick 2 rfl rfl).set 4 (.slice A hs.length c)).f2
    go_wp2_with fail
    refine (in_int 8 (by decide) (by decide) H7).mono ?_
    rintro en w10 ⟨rfl, H8⟩
    have z8 := H8.t.z
    have c8 := H8.t.c
    generalize vc.intV 8 = u at hV bd5
    have H9 := (H8.f2.set 5 (.int .i64 u)).f2
    go_wp2_with fail
    refine (in_int 8 (by decide) (by decide) H9).mono ?_
    rintro en w11 ⟨rfl, H10⟩
    have z10 := H10.t.z
    have c10 := H10.t.c
    generalize (vc.intS 8).intV 8 = st at hV bd6
    have H11 := (H10.f2.set 6 (.int .i64 st)).f2
    have HCl := in_close H11
    rw [← hS.out] at HCl
    replace HCl := Lib.hid HCl
    go_wp2_with fail
    refine HCl.out.mono ?_
    rintro en w12 ⟨rfl, H12⟩
    clear HCl
    have hxv := Lib.hid (show ValH.v ⟨p, e, t, s, hs, u, st, A, c⟩ = V by unfold ValH.v; simp only; rw [hmap.out, hV.out])
    have hxs : ValH.szd ⟨p, e, t, s, hs, u, st, A, c⟩ := ⟨bd1.out, bd2.out, bd3.out, bd4.out, bd5.out, bd6.out, by have := hsz.out.2; rw [← hmap.out, List.length_map] at this; exact this, fun h hh => hsz.out.1 _ (by rw [← hmap.out]; exact List.mem_map.2 ⟨h, hh, rfl⟩)⟩
    replace hxs := Lib.hid hxs
    have c12 := H12.t.c
    simp at c12
    by_cases q2 : S.e = 0
    · have b2 : (S.e == 0) = true := beq_iff_eq.2 q2
      have e2 := Lib.hid (hE.out.trans (if_pos q2))
      clear q2
      have HK := vchk_calls ⟨p, e, t, s, hs, u, st, A, c⟩ hxs.out (fun w' h => h.t.t.ro) H12
      rw [hxv.out] at HK
      rw [← e2.out] at HK
      unfold ValH.cells at HK
      replace HK := Lib.hid HK
      go_wp2_with fail
      refine HK.out.mono ?_
      rintro en w13 ⟨rfl, H13⟩
      clear HK
      have c13 := H13.t.c
      simp at c13
      have H14 := H13.pick 3 rfl rfl
      have zr := H14.z
      have cr := H14.c
      by_cases q3 : E = 0
      · have b3 : (E != 0) = false := by simp [q3]
        have hd2 := Lib.hid (hd.out.trans (if_pos q3))
        clear q3
        go_wp2
        have HY := (((((((H14.set 0 (.int .i64 p)).set 1 (.int .i64 e)).set 2 (.int .i64 t)).set 3 (.int .i64 s)).set 4 (.slice A hs.length c)).set 5 (.int .i64 u)).set 6 (.int .i64 st))
        have tt := HY.c
        refine bodyPost_ret (v := .tuple #[.agg (ValH.cells ⟨p, e, t, s, hs, u, st, A, c⟩), .int .i64 0]) (by simp [ValH.cells, results, Try.results17, go_sem, tt]) rfl (hP.out _ _ ⟨⟨p, e, t, s, hs, u, st, A, c⟩, by rw [hxv.out, hd2.out], hxs.out, by rw [hd2.out], ?_⟩)
        exact HY.t.t.t
      · have b3 : (E != 0) = true := bne_iff_ne.2 q3
        have hd2 := Lib.hid (hd.out.trans (if_neg q3))
        clear q3
        go_wp2
        have HY := (((((((H14.set 0 (.int .i64 0)).set 1 (.int .i64 0)).set 2 (.int .i64 0)).set 3 (.int .i64 0)).set 4 (.slice none 0 0)).set 5 (.int .i64 0)).set 6 (.int .i64 0))
        have tt := HY.c
        refine bodyPost_ret (v := .tuple #[.agg vH0.cells, .int .i64 E]) (by simp [vH0, ValH.cells, results, Try.results17, go_sem, tt]) rfl (hP.out _ _ ⟨vH0, by rw [hd2.out]; rfl, vH0_szd, by rw [hd2.out], ?_⟩)
        exact HY.t.t.t.t.ro_mk (fun _ => Rows.nil)
    · have b2 : (S.e == 0) = false := beq_eq_false_iff_ne.2 q2
      have b3 : (S.e != 0) = true := bne_iff_ne.2 q2
      have e2 := Lib.hid (hE.out.trans (if_neg q2))
      have hd2 := Lib.hid (show D = (vzero, S.e) by rw [hd.out, e2.out, if_neg q2])
      clear q2
      have H14 := H12.pick 3 rfl rfl
      have zr := H14.z
      have cr := H14.c
      go_wp2
      have HY := (((((((H14.set 0 (.int .i64 0)).set 1 (.int .i64 0)).set 2 (.int .i64 0)).set 3 (.int .i64 0)).set 4 (.slice none 0 0)).set 5 (.int .i64 0)).set 6 (.int .i64 0))
      have tt := HY.c
      refine bodyPost_ret (v := .tuple #[.agg vH0.cells, .int .i64 S.e]) (by simp [vH0, ValH.cells, results, Try.results17, go_sem, tt]) rfl (hP.out _ _ ⟨vH0, by rw [hd2.out]; rfl, vH0_szd, by rw [hd2.out], ?_⟩)
      exact HY.t.t.t.t.ro_mk (fun _ => Rows.nil)
end
end Go.Proofs.Ytflgfbffglmmeaa
