/-
  How many things follow; topics and values, written; keys.
-/
import Derived.Test.YtflgfbffglmmeaaVal4
import Derived.Test.YtflgfbffglmmeaaValPure
namespace Go.Proofs.Ytflgfbffglmmeaa
open Go.RowKit
set_option linter.unusedVariables false
set_option linter.unusedSimpArgs false
theorem OSt.fold_mono {α : Type} (f : OSt → α → OSt) (hf : ∀ o x, o.b.length ≤ (f o x).b.length) : ∀ (l : List α) (o : OSt), o.b.length ≤ (l.foldl f o).b.length
  | [], o => Nat.le_refl _
  | x :: t, o => Nat.le_trans (hf o x) (OSt.fold_mono f hf t _)
theorem OSt.fold_upto {α : Type} (f : OSt → α → OSt) (hf : ∀ o x, o.b.length ≤ (f o x).b.length) (l : List α) (o : OSt) (k : Nat) : ((l.take k).foldl f o).b.length ≤ (l.foldl f o).b.length := by
  have := OSt.fold_mono f hf (l.drop k) ((l.take k).foldl f o)
  rwa [← List.foldl_append, List.take_append_drop] at this
theorem OSt.ints_mono (o : OSt) (l : List Int) : o.b.length ≤ (o.ints l).b.length := OSt.fold_mono _ (fun o n => OSt.int_mono o n 4) l o
theorem OSt.topic_mono (o : OSt) (t : Topic) : o.b.length ≤ (o.topic t).b.length := Nat.le_trans (OSt.fixed_mono _ _ _) (Nat.le_trans (OSt.int_mono _ _ _) (OSt.ints_mono _ _))
theorem OSt.topics_mono (o : OSt) (l : List Topic) : o.b.length ≤ (o.topics l).b.length := Nat.le_trans (OSt.int_mono _ _ _) (OSt.fold_mono _ OSt.topic_mono _ _)
section
variable {F : List Asn} {w : World} {g : Nat} {o : OSt} {i : ISt}
set_option maxRecDepth 100000 in
set_option maxHeartbeats 1000000 in
theorem count_calls (size each : Nat) (hs : 1 ≤ size) (hs2 : size ≤ 8) (he1 : 1 ≤ each) (he2 : each ≤ 1000) (H : Hd (Inp g i :: F) w) :
    Calls Try.prog 86 #[.pointer (some ⟨g, 0, none⟩), .int .i64 size, .int .i64 each] w fun en w' => en = .returned (.int .i64 (i.cntV size each)) ∧ Hd (Inp g (i.cntS size each) :: F) w' := by
  have hv : i.cntV size each = if (i.intS size).e ≠ 0 then 0 else if i.intV size < 0 then 0 else if ((i.intS size).r.length / each : Nat) < i.intV size then 0 else (i.intV size).toNat := rfl
  have hc : i.cntS size each = if (i.intS size).e ≠ 0 then i.intS size else if i.intV size < 0 then (i.intS size).fail 4 else if ((i.intS size).r.length / each : Nat) < i.intV size then (i.intS size).fail 1 else i.intS size := rfl
  have HI := in_int size hs hs2 H
  have hbd := intV_bd i size hs2
  generalize i.cntV size each = V at hv ⊢
  generalize i.cntS size each = S at hc ⊢
  generalize i.intV size = n at hv hc HI hbd
  generalize i.intS size = j at hv hc HI
  replace hv := Lib.hid hv
  replace hc := Lib.hid hc
  replace HI := Lib.hid HI
  go_enter Try.func86, Try.ntmps86
  go_wp2_with fail
  refine HI.out.mono ?_
  rintro en w1 ⟨rfl, HA⟩
  have c2 : w1.cell? ⟨g, 2, none⟩ = some (.int .i64 j.e) := cell_blk HA.inp 2
  have hl := HA.inl
  by_cases q0 : j.e = 0
  case neg =>
    have b0 : (j.e != 0) = true := bne_iff_ne.2 q0
    have hv2 := Lib.hid (hv.out.trans (if_pos q0))
    have hc2 := Lib.hid (hc.out.trans (if_pos q0))
    clear q0
    go_wp2
    go_ret
    rw [hv2.out, hc2.out]
    exact ⟨rfl, HA⟩
  have b0 : (j.e != 0) = false := by simp [q0]
  have hv2 := Lib.hid (hv.out.trans (if_neg (by simp [q0])))
  have hc2 := Lib.hid (hc.out.trans (if_neg (by simp [q0])))
  clear q0 hv hc
  by_cases q1 : n < 0
  · have b1 : decide (n < 0) = true := decide_eq_true q1
    have hv3 := Lib.hid (hv2.out.trans (if_pos q1))
    have hc3 := Lib.hid (hc2.out.trans (if_pos q1))
    clear q1
    go_wp2_with fail
    refine (in_fail 4 HA).mono ?_
    rintro en w2 ⟨rfl, HB⟩
    go_wp2
    go_ret
    rw [hv3.out, hc3.out]
    exact ⟨rfl, HB⟩
  have b1 : decide (n < 0) = false := decide_eq_false q1
  have hv3 := Lib.hid (hv2.out.trans (if_neg q1))
  have hc3 := Lib.hid (hc2.out.trans (if_neg q1))
  obtain ⟨m, rfl⟩ := Int.eq_ofNat_of_zero_le (show 0 ≤ n by omega)
  clear q1 hv2 hc2
  have b2 : decide (0 < each) = true := decide_eq_true (by omega)
  have hp1 : (1 : Int) ≤ (each : Int) := by omega
  have hd2 : ((j.r.length : Int) / (each : Int)) = ((j.r.length / each : Nat) : Int) := by simp
  have hd3 : j.r.length / each ≤ j.r.length := Nat.div_le_self _ _
  have hq1 : (0 : Int) ≤ (j.r.length : Int) / (each : Int) := by rw [hd2]; exact Int.natCast_nonneg _
  have hq2 : (j.r.length : Int) / (each : Int) ≤ 9223372036854775807 := by
    rw [hd2]
    have h5 : ((j.r.length / each : Nat) : Int) ≤ (j.r.length : Int) := Int.ofNat_le.2 hd3
    generalize ((j.r.length / each : Nat) : Int) = z at h5
    omega
  have hq3 : wrap64 ((j.r.length : Int) / (each : Int)) = (j.r.length : Int) / (each : Int) := IntWalk.wrap64_in _ ⟨by omega, hq2⟩
  by_cases q2 : ((j.r.length / each : Nat) : Int) < (m : Int)
  · have b3 : decide ((j.r.length : Int) / (each : Int) < (m : Int)) = true := by rw [hd2]; exact decide_eq_true q2
    have hv4 := Lib.hid (hv3.out.trans (if_pos q2))
    have hc4 := Lib.hid (hc3.out.trans (if_pos q2))
    clear q2 hd2
    go_wp2_with fail
    refine (in_left HA).mono ?_
    rintro en w2 ⟨rfl, HB⟩
    go_wp2_with fail
    refine (in_fail 1 HB).mono ?_
    rintro en w3 ⟨rfl, HC⟩
    go_wp2
    go_ret
    rw [hv4.out, hc4.out]
    exact ⟨rfl, HC⟩
  · have b3 : decide ((j.r.length : Int) / (each : Int) < (m : Int)) = false := by rw [hd2]; exact decide_eq_false q2
    have hv4 := Lib.hid (hv3.out.trans (if_neg q2))
    have hc4 := Lib.hid (hc3.out.trans (if_neg q2))
    clear q2 hd2
    go_wp2_with fail
    refine (in_left HA).mono ?_
    rintro en w2 ⟨rfl, HB⟩
    go_wp2
    go_ret
    rw [hv4.out, hc4.out]
    exact ⟨ret_int (by simp), HB⟩
set_option maxRecDepth 100000 in
set_option maxHeartbeats 2000000 in
theorem puttopics_calls (ls : List TopicH) (A : Option Addr) (c : Nat) (hl0 : ls.length ≤ 1000000000) (hb : ∀ h ∈ ls, h.t.szd) (hr : ∀ o' w', Hd (Out g o' :: F) w' → Rows KTop 2 w' A ls) (H : Hd (Out g o :: F) w) (hl : (o.topics (ls.map TopicH.t)).b.length ≤ 140737488355328) :
    Calls Try.prog 109 #[.pointer (some ⟨g, 0, none⟩), .slice A ls.length c] w fun en w' => en = .returned (.tuple #[]) ∧ Hd (Out g (o.topics (ls.map TopicH.t)) :: F) w' := by
  have he : o.topics (ls.map TopicH.t) = (ls.map TopicH.t).foldl OSt.topic (o.int ls.length 4) := by unfold OSt.topics; rw [List.length_map]
  have hnl : (ls.map TopicH.t).length = ls.length := List.length_map _
  have hng : ∀ k (hk : k < ls.length), ((ls.map TopicH.t).take (k + 1)).foldl OSt.topic (o.int ls.length 4) = (((ls.map TopicH.t).take k).foldl OSt.topic (o.int ls.length 4)).topic ls[k].t := by
    intro k hk
    rw [fold_succ OSt.topic _ _ k (by simpa using hk)]; simp
  generalize ls.map TopicH.t = ts at he hl hnl hng ⊢
  rw [he] at hl ⊢
  have hl1 := Lib.hid (Nat.le_trans (OSt.fold_mono _ OSt.topic_mono ts _) hl)
  have hup := Lib.hid (fun k => Nat.le_trans (OSt.fold_upto _ OSt.topic_mono ts (o.int ls.length 4) k) hl)
  have hn1 : (-9223372036854775808 : Int) ≤ (ls.length : Int) := by omega
  have hn2 : (ls.length : Int) ≤ 9223372036854775807 := by omega
  clear he
  replace hl := Lib.hid hl
  replace hr := Lib.hid hr
  replace hb := Lib.hid hb
  replace hnl := Lib.hid hnl
  replace hng := Lib.hid hng
  go_enter Try.func109, Try.ntmps109
  go_wp2_with fail
  refine (out_int ls.length 4 (by omega) hn1 hn2 H hl1.out).mono ?_
  rintro en w1 ⟨rfl, HA⟩
  go_wp2_with fail
  go_loopw [14] (fun y wr => ∃ k : Nat, k ≤ ls.length ∧ y = .int .i64 k ∧ Hd (Out g ((ts.take k).foldl OSt.topic (o.int ls.length 4)) :: F) wr) (fun y _ => ls.length - (intOf y).toNat)
  case atStart => exact ⟨0, Nat.zero_le _, rfl, by rw [List.take_zero, List.foldl_nil]; exact HA⟩
  case round =>
    obtain ⟨k, hk, rfl, HW⟩ := hrel
    obtain ⟨wo, rfl⟩ : ∃ wo : World, wo = wr := ⟨_, rfl⟩
    by_cases hlt : k < ls.length
    · obtain ⟨b, off, rfl, hc⟩ := (hr.out _ wo HW) (by intro h; simp [h] at hlt)
      obtain ⟨cs, _, hcs, hcc⟩ := hc k hlt
      have hcell0 : wo.cell? ⟨b, off + k * 2, none⟩ = some (.string (toS ls[k].t.name)) := by have := hcc 0 (.string (toS ls[k].t.name)) (by rw [hcs.1]; rfl); simpa using this
      have hcell1 : wo.cell? ⟨b, off + k * 2 + 1, none⟩ = some (.slice ls[k].A ls[k].t.parts.length ls[k].c) := hcc 1 (.slice ls[k].A ls[k].t.parts.length ls[k].c) (by rw [hcs.1]; rfl)
      clear hc hcc hcs
      have hbk := hb.out ls[k] (List.getElem_mem hlt)
      have hst := hng.out k hlt
      have hu1 := hup.out (k + 1)
      rw [hst] at hu1
      have hrp := Lib.hid (fun o' w' (h : Hd (Out g o' :: F) w') => (by obtain ⟨cs, h2⟩ := rows_get (hr.out o' w' h) k hlt; exact h2.2 : Rows KNum 1 w' ls[k].A ls[k].t.parts))
      generalize ls[k] = x at hcell0 hcell1 hbk hst hu1 hrp
      generalize (ts.take k).foldl OSt.topic (o.int ls.length 4) = q at HW hst hu1
      obtain ⟨⟨nm, ps⟩, PA, pc⟩ := x
      simp only at hcell0 hcell1 hst hu1 hrp
      replace hst := Lib.hid hst
      have hb1 := Lib.hid hbk.name
      have hb2 := hbk.parts
      have hb3 := Lib.hid hbk.nums
      simp only at hb2
      clear hbk
      have hq : q.topic ⟨nm, ps⟩ = ((q.fixed ⟨false, nm⟩ 2).int ps.length 4).ints ps := rfl
      rw [hq] at hu1 hst
      have u2 := Lib.hid (Nat.le_trans (OSt.ints_mono _ _) hu1)
      have u1 := Lib.hid (Nat.le_trans (OSt.int_mono _ _ _) u2.out)
      have u3 := Lib.hid (fun j => Nat.le_trans (OSt.fold_upto (fun o n => o.int n 4) (fun o n => OSt.int_mono o n 4) ps ((q.fixed ⟨false, nm⟩ 2).int ps.length 4) j) hu1)
      clear hu1 hq
      have hp1 : (-9223372036854775808 : Int) ≤ (ps.length : Int) := by omega
      have hp2 : (ps.length : Int) ≤ 9223372036854775807 := by omega
      have HZ := (HW.alloc #[.string (toS nm), .slice PA ps.length pc] 190).f2
      have cz := HZ.t.c
      go_wp2_with fail
      refine (puttext_calls nm hb1.out HZ u1.out).mono ?_
      rintro en w2 ⟨rfl, HB⟩
      have cb := HB.t.c
      go_wp2_with fail
      refine (out_int ps.length 4 (by omega) hp1 hp2 HB u2.out).mono ?_
      rintro en w3 ⟨rfl, HC⟩
      have cc := HC.t.c
      go_wp2_with fail
      go_loopw [30] (fun y wr => ∃ j : Nat, j ≤ ps.length ∧ y = .int .i64 j ∧ Hd (Out g ((ps.take j).foldl (fun o n => o.int n 4) ((q.fixed ⟨false, nm⟩ 2).int ps.length 4)) :: Cel wo.heap.size #[.string (toS nm), .slice PA ps.length pc] 190 :: F) wr) (fun y _ => ps.length - (intOf y).toNat)
      case atStart => exact ⟨0, Nat.zero_le _, rfl, by rw [List.take_zero, List.foldl_nil]; exact HC⟩
      case round =>
        obtain ⟨j, hj, rfl, HV⟩ := hrel
        by_cases hlj : j < ps.length
        · obtain ⟨b2, off2, rfl, hc⟩ := (hrp.out _ wr HV.d2) (by intro h; simp [h] at hlj)
          obtain ⟨cs, _, hcs, hcc⟩ := hc j hlj
          have hcell2 : wr.cell? ⟨b2, off2 + j, none⟩ = some (.int .i64 ps[j]) := by have := hcc 0 (.int .i64 ps[j]) (by rw [hcs]; rfl); simpa using this
          clear hc hcc hcs
          have hbj := hb3.out ps[j] (List.getElem_mem hlj)
          have hst2 := fold_succ (fun (o : OSt) n => o.int n 4) ps ((q.fixed ⟨false, nm⟩ 2).int ps.length 4) j hlj
          have hu2 := u3.out (j + 1)
          rw [hst2] at hu2
          generalize ps[j] = z at hcell2 hbj hst2 hu2
          generalize (ps.take j).foldl (fun (o : OSt) n => o.int n 4) ((q.fixed ⟨false, nm⟩ 2).int ps.length 4) = q2 at HV hst2 hu2
          replace hst2 := Lib.hid hst2
          replace hu2 := Lib.hid hu2
          go_wp2_with fail
          refine (out_int z 4 (by omega) hbj.1 hbj.2 HV hu2.out).mono ?_
          rintro en w4 ⟨rfl, HD⟩
          go_wp2
          go_roundw
          case rel => exact ⟨j + 1, hlj, by go_num, by rw [hst2.out]; exact HD⟩
          case measure => simp [intOf]; omega
        · obtain rfl : j = ps.length := by omega
          rw [List.take_length] at HV
          have HV2 : Hd (Out g ((ts.take (k + 1)).foldl OSt.topic (o.int ls.length 4)) :: F) wr := by rw [hst.out]; exact HV.d2
          clear HV
          go_wp2
          go_roundw
          case rel => exact ⟨k + 1, hlt, by go_num, HV2⟩
          case measure => simp [intOf]; omega
    · obtain rfl : k = ls.length := by omega
      rw [← hnl.out, List.take_length, hnl.out] at HW
      go_wp2
      (first | go_end0 | ((try simp only [Exit.inBlock, Exit.then]); refine bodyPost_ret (results_none rfl _ _ _) rfl ?_))
      exact ⟨rfl, HW⟩
end
end Go.Proofs.Ytflgfbffglmmeaa
