/-
  Topics, read.
-/
import Derived.Test.YtflgfbffglmmeaaVal6
import Derived.Deep.RegionLaw
namespace Go.Proofs.Ytflgfbffglmmeaa
open Go.RowKit
set_option linter.unusedVariables false
set_option linter.unusedSimpArgs false
theorem elems_mem {α : Type} {K : World → α → List Value → Prop} {sz : Nat} {w : World} (f : α → List Value) (hl : ∀ t, (f t).length = sz) : ∀ ts : List α, (∀ t ∈ ts, K w t (f t)) → Elems K sz w ts (ts.flatMap f) := by
  intro ts
  have key : ∀ (n : Nat) (ts : List α), ts.length = n → (∀ t ∈ ts, K w t (f t)) → Elems K sz w ts (ts.flatMap f) := by
    intro n
    induction n with
    | zero => intro ts h _; rw [List.eq_nil_of_length_eq_zero h]; exact Elems.nil
    | succ n ih =>
      intro ts h hk
      have hne : ts ≠ [] := by intro e; simp [e] at h
      have e := List.dropLast_concat_getLast hne
      rw [← e, List.flatMap_append]
      have := (ih ts.dropLast (by simp [h]) (fun t ht => hk t (by rw [← e]; exact List.mem_append_left _ ht))).snoc (hl (ts.getLast hne)) (hk (ts.getLast hne) (List.getLast_mem hne))
      simpa using this
  exact key _ ts rfl
def ncell (n : Int) : List Value := [.int .i64 n]
theorem info_int : (Try.prog.info? 3).map (fun i => (i.zero, i.size, i.bytes)) = some (some (.int .i64 0), 1, 8) := by kernel_rfl
theorem info_topic : (Try.prog.info? 190).map (fun i => (i.zero, i.size, i.bytes)) = some (some (.agg #[.string ⟨#[]⟩, .slice none 0 0]), 2, 40) := by kernel_rfl
theorem cntV_le (i : ISt) (size each : Nat) (he : 0 < each) : i.cntV size each * each ≤ i.all.length := by
  have h1 := all_len (all_intS i size)
  unfold ISt.cntV
  split
  · simp
  · split
    · simp
    · split
      · simp
      · rename_i h2 h3 h4
        have h5 : (i.intV size).toNat ≤ (i.intS size).r.length / each := by omega
        have h6 := Nat.mul_le_mul_right each h5
        have h7 := Nat.div_mul_le_self (i.intS size).r.length each
        omega
theorem all_cntS (i : ISt) (size each : Nat) : (i.cntS size each).all = i.all := by
  unfold ISt.cntS
  split
  · exact all_intS _ _
  · split
    · rw [all_fail, all_intS]
    · split
      · rw [all_fail, all_intS]
      · exact all_intS _ _
theorem all_pgo : ∀ (n : Nat) (acc : List Int) (i : ISt), (pgo n acc i).2.all = i.all
  | 0, _, _ => rfl
  | n + 1, acc, i => by rw [pgo, all_pgo n, all_intS]
theorem all_topic (i : ISt) : i.topic.2.all = i.all := by unfold ISt.topic; rw [all_pgo, all_cntS, all_textS]
section
variable {F : List Asn} {w : World} {g : Nat} {o : OSt} {i : ISt}
set_option maxRecDepth 100000 in
set_option maxHeartbeats 4000000 in
theorem topics_calls (hi : i.all.length ≤ 1000000000) (H : Hd (Inp g i :: F) w) :
    Calls Try.prog 79 #[.pointer (some ⟨g, 0, none⟩)] w fun en w' => ∃ hs A c, hs.map TopicH.t = i.topics.1 ∧ en = .returned (.slice A hs.length c) ∧ Hd (Inp g i.topics.2 :: Ro (fun w => Rows KTop 2 w A hs) :: F) w' := by
  have he : i.topics = tgo (i.cntV 4 6) [] (i.cntS 4 6) := rfl
  have hm := cntV_le i 4 6 (by decide)
  have ha := all_cntS i 4 6
  have HC := count_calls 4 6 (by decide) (by decide) (by decide) (by decide) H
  generalize i.topics = R at he ⊢
  generalize i.cntV 4 6 = m at he hm HC
  generalize i.cntS 4 6 = j at he ha HC
  have hjl : j.all.length ≤ 1000000000 := by rw [ha]; exact hi
  have hm2 : m ≤ 1000000000 := by omega
  clear ha hm hi
  replace he := Lib.hid he
  replace HC := Lib.hid HC
  replace hjl := Lib.hid hjl
  go_enter Try.func79, Try.ntmps79
  go_wp2_with fail
  refine HC.out.mono ?_
  rintro en w1 ⟨rfl, HA⟩
  go_wp2_with fail
  go_loopw [3, 7] (fun x y wr => ∃ (hs : List TopicH) (q : ISt) (A : Option Addr) (c : Nat), hs.length ≤ m ∧ x = .slice A hs.length c ∧ y = .int .i64 hs.length ∧ Hid (tgo (m - hs.length) (hs.map TopicH.t) q = R) ∧ Hid (q.all.length ≤ 1000000000) ∧ Hd (Inp g q :: Own 190 2 (.slice A hs.length c) hs.length (hs.flatMap TopicH.cells) :: Ro (fun w => ∀ h ∈ hs, Rows KNum 1 w h.A h.t.parts) :: F) wr) (fun _ y _ => m - (intOf y).toNat)
  case atStart => exact ⟨[], j, none, 0, Nat.zero_le _, rfl, rfl, Lib.hid he.out.symm, hjl, ((HA.ro_mk (P := fun w => ∀ h ∈ ([] : List TopicH), Rows KNum 1 w h.A h.t.parts) (fun _ h hh => by cases hh)).own_nil _ _).pick 2 rfl rfl⟩
  case round =>
    obtain ⟨hs, q, A, c, hk, rfl, rfl, HN, HQ, HW⟩ := hrel
    obtain ⟨wo, rfl⟩ : ∃ wo : World, wo = wr := ⟨_, rfl⟩
    by_cases hlt : hs.length < m
    · have hst : tgo (m - hs.length) (hs.map TopicH.t) q = if q.topic.2.e = 0 then tgo (m - (hs.length + 1)) (hs.map TopicH.t ++ [q.topic.1]) q.topic.2 else ([], q.topic.2) := by
        rw [show m - hs.length = (m - (hs.length + 1)) + 1 by omega]; rfl
      rw [hst] at HN
      clear hst
      have hqt : q.topic = (⟨q.textB.d, (pgo (q.textS.cntV 4 4) [] (q.textS.cntS 4 4)).1⟩, (pgo (q.textS.cntV 4 4) [] (q.textS.cntS 4 4)).2) := rfl
      have hqa := all_topic q
      have hmm := cntV_le q.textS 4 4 (by decide)
      rw [all_textS] at hmm
      have HQ2 := HQ.out
      have hm4 : q.textS.cntV 4 4 ≤ 1000000000 := by omega
      clear hmm HQ2
      go_wp2_with fail
      refine (text_calls HW).mono ?_
      rintro en w2 ⟨rfl, HX⟩
      generalize q.textB.d = nm at hqt
      generalize q.textS = q1 at hqt HX hm4
      have HY := (HX.alloc #[.string (toS nm), .slice none 0 0] 190).f2
      go_wp2_with fail
      refine (count_calls 4 4 (by decide) (by decide) (by decide) (by decide) HY).mono ?_
      rintro en w3 ⟨rfl, HZ⟩
      generalize q1.cntV 4 4 = m2 at hqt hm4
      generalize q1.cntS 4 4 = q2 at hqt HZ
      generalize q.topic = QT at hqt HN hqa
      replace hqt := Lib.hid hqt
      replace hqa := Lib.hid hqa
      go_wp2_with fail
      go_loopw [14] (fun y wr => ∃ (ps : List Int) (q3 : ISt) (PA : Option Addr) (pc : Nat), ps.length ≤ m2 ∧ y = .int .i64 ps.length ∧ Hid (pgo (m2 - ps.length) ps q3 = pgo m2 [] q2) ∧ Hd (Inp g q3 :: Cel w2.heap.size #[.string (toS nm), .slice PA ps.length pc] 190 :: Own 3 1 (.slice PA ps.length pc) ps.length (ps.flatMap ncell) :: Own 190 2 (.slice A hs.length c) hs.length (hs.flatMap TopicH.cells) :: Ro (fun w => ∀ h ∈ hs, Rows KNum 1 w h.A h.t.parts) :: F) wr) (fun y _ => m2 - (intOf y).toNat)
      case atStart => exact ⟨[], q2, none, 0, Nat.zero_le _, rfl, Lib.hid rfl, (HZ.own_nil _ _).b3⟩
      case round =>
        obtain ⟨ps, q3, PA, pc, hj, rfl, HP, HV⟩ := hrel
        by_cases hlj : ps.length < m2
        · have hst2 : pgo (m2 - ps.length) ps q3 = pgo (m2 - (ps.length + 1)) (ps ++ [q3.intV 4]) (q3.intS 4) := by
            rw [show m2 - ps.length = (m2 - (ps.length + 1)) + 1 by omega]; rfl
          rw [hst2] at HP
          clear hst2
          have cv := HV.t.c
          have zv := HV.t.z
          have hb1 : (ps.length + 1) * 8 ≤ 140737488355328 := by omega
          have hb2 : ps.length + 1 ≤ 140737488355328 := by omega
          go_wp2_with fail
          go_region_law ((first | ((go_simp; go_at_call 76; refine (in_int 4 (by decide) (by decide) HV.drew).mono ?_; rintro en w4 ⟨rfl, HB⟩; have cb0 := HB.t.c 0; have cb1 := HB.t.c 1; have zb1 := HB.t.z 1; have cb2 := (HB.allocO (.cells #[.int .i64 (q3.intV 4)] 3)).t.c 1)) | ((refine step_app rfl (.tmp 17) (.tmp 20) 66 3 (.int .i64 0) 1 8 rfl Try.underlying66 info_int rfl (by decide) PA ps.length pc _ (by simp [Act.eval, Act.put]) ((HB.pick 2 rfl rfl).allocO (.cells #[.int .i64 (q3.intV 4)] 3)).own ⟨w4.heap.size, 0, none⟩ 1 1 [.int .i64 (q3.intV 4)] (by simp [Act.eval, Act.put]) rfl (cell_arr _ _ _) (by intro u hu; simp at hu; rcases hu with rfl; rfl) hb1 hb2 ?_; intro PA' pc' w5 ho1 hg hn; have HD := own_grown ((HB.pick 2 rfl rfl).allocO (.cells #[.int .i64 (q3.intV 4)] 3)) ho1 hg hn; have zd := HD.t.t.z 1; have cd := HD.t.t.c 1; clear ho1 hg hn))))
          all_goals
            have HE := ((HD.pick 2 rfl rfl).set 1 (.slice PA' (ps.length + 1) pc')).pick 2 rfl rfl
            go_wp2
            go_roundw
            case rel => exact ⟨ps ++ [q3.intV 4], q3.intS 4, PA', pc', by rw [List.length_append]; exact hlj, by rw [List.length_append]; go_num, by rw [List.length_append]; exact HP, by rw [List.length_append, List.flatMap_append]; exact HE⟩
            case measure => simp [intOf]; omega
        · have hp2 := HP.out
          rw [show m2 - ps.length = 0 by omega] at hp2
          have hq3 : QT = (⟨nm, ps⟩, q3) := by rw [hqt.out, ← hp2]; rfl
          clear hp2 HP
          have hn2 := HN.out
          have ha2 := hqa.out
          rw [hq3] at hn2 ha2
          simp only at hn2 ha2
          replace hn2 := Lib.hid hn2
          replace ha2 := Lib.hid (show q3.all.length ≤ 1000000000 by rw [ha2]; exact HQ.out)
          clear hq3 hqt hqa
          have cv := HV.t.c
          have HO := (HV.pick 3 rfl rfl).allocO (.cells #[.string (toS nm), .slice PA ps.length pc] 190)
          have hown := HO.own
          have hb1 : (hs.length + 1) * 40 ≤ 140737488355328 := by omega
          have hb2 : hs.length + 1 ≤ 140737488355328 := by omega
          have K := fun w5 B' e' (ho : World.ownsRow w5 _ _ _ _ _ _) hg hn => own_grown (w' := w5) (v' := .slice B' (hs.length + 1) e') (n' := hs.length + 1) (xs' := hs.flatMap TopicH.cells ++ [.string (toS nm), .slice PA ps.length pc]) HO ho hg hn
          go_wp2_with (at_builtin; refine app_row rfl (.tmp 24) (.tmp 26) 35 190 (.agg #[.string ⟨#[]⟩, .slice none 0 0]) 2 40 rfl Try.underlying35 info_topic rfl (by decide) A hs.length c _ rfl hown ⟨wr.heap.size, 0, none⟩ 1 1 [.string (toS nm), .slice PA ps.length pc] rfl rfl (cell_arr _ _ _) (by intro u hu; simp at hu; rcases hu with rfl | rfl <;> rfl) hb1 hb2 ?_; intro B' e' w5 ho1 hg hn; have HK := K w5 B' e' ho1 hg hn; clear ho1 hg hn)
          go_wp2_with fail
          refine (in_err HK.f2).mono ?_
          rintro en w6 ⟨rfl, rfl⟩
          by_cases qe : q3.e = 0
          · have b3 : (q3.e != 0) = false := by simp [qe]
            have hn3 := hn2.out
            rw [if_pos qe] at hn3
            replace hn3 := Lib.hid hn3
            clear qe
            have HL := ((HK.pick 3 rfl rfl).own_ro.ro_imp (fun w' ho => rows_own (K := KNum) (by decide) ho (elems_flat ncell (fun _ => rfl) (fun _ => rfl) ps))).pick 4 rfl rfl
            have HM := HL.ro2.ro_imp (Q := fun w => ∀ h ∈ hs ++ [(⟨⟨nm, ps⟩, PA, pc⟩ : TopicH)], Rows KNum 1 w h.A h.t.parts) (fun w' ⟨k1, k2⟩ h hh => by
              rcases List.mem_append.1 hh with hh | hh
              · exact k1 h hh
              · obtain rfl := List.mem_singleton.1 hh
                exact k2)
            have HN2 := (HM.f2.pick 2 rfl rfl).pick 3 rfl rfl |>.t
            go_wp2
            go_roundw
            case rel => exact ⟨hs ++ [⟨⟨nm, ps⟩, PA, pc⟩], q3, B', e', by rw [List.length_append]; exact hlt, by rw [List.length_append]; rfl, by rw [List.length_append]; go_num, by rw [List.length_append, List.map_append]; exact hn3, ha2, by rw [List.length_append, List.flatMap_append]; exact HN2⟩
            case measure => simp [intOf]; omega
          · have b3 : (q3.e != 0) = true := bne_iff_ne.2 qe
            have hn3 := hn2.out
            rw [if_neg qe] at hn3
            replace hn3 := Lib.hid hn3
            clear qe
            go_wp2
            go_ret
            rw [← hn3.out]
            refine ⟨[], none, 0, rfl, rfl, ?_⟩
            exact ((((HK.t.d2.d2.d2).ro_mk (P := fun w => Rows KTop 2 w none []) (fun _ => Rows.nil)).f2))
    · have hn2 := HN.out
      rw [show m - hs.length = 0 by omega] at hn2
      have hn3 : (hs.map TopicH.t, q) = R := hn2
      replace hn3 := Lib.hid hn3
      clear hn2
      go_wp2
      go_ret
      rw [← hn3.out]
      refine ⟨hs, A, c, rfl, rfl, ?_⟩
      have HM := (HW.f2.own_ro.f3.ro2 : Hd (Ro _ :: Inp g q :: F) _)
      exact (HM.ro_imp (fun w' ⟨k1, k2⟩ => rows_own (K := KTop) (by decide) k2 (elems_mem TopicH.cells (fun _ => rfl) hs (fun t ht => ⟨rfl, k1 t ht⟩)))).f2
end
end Go.Proofs.Ytflgfbffglmmeaa
