/-
  Headers of records, written and read.
-/
import Derived.Test.YtflgfbffglmmeaaHdr2
namespace Go.Proofs.Ytflgfbffglmmeaa
open Go.RowKit
set_option linter.unusedVariables false
set_option linter.unusedSimpArgs false
theorem OSt.hdr_mono (o : OSt) (h : Hdr) : o.b.length ≤ (o.hdr h).b.length := Nat.le_trans (OSt.varied_mono _ _) (OSt.varied_mono _ _)
theorem hdrs_mono : ∀ (l : List Hdr) (o : OSt), o.b.length ≤ (l.foldl OSt.hdr o).b.length
  | [], o => Nat.le_refl _
  | h :: t, o => Nat.le_trans (OSt.hdr_mono o h) (hdrs_mono t _)
theorem fold_succ {α β : Type} (f : β → α → β) (l : List α) (o : β) (k : Nat) (h : k < l.length) : (l.take (k + 1)).foldl f o = f ((l.take k).foldl f o) l[k] := by
  rw [List.take_succ_eq_append_getElem h, List.foldl_append]; rfl
theorem hdrs_upto (l : List Hdr) (o : OSt) (k : Nat) : ((l.take k).foldl OSt.hdr o).b.length ≤ (l.foldl OSt.hdr o).b.length := by
  have := hdrs_mono (l.drop k) ((l.take k).foldl OSt.hdr o)
  rwa [← List.foldl_append, List.take_append_drop] at this
def hcells (h : Hdr) : List Value := [.string (toS h.key), .bool h.value.nu, .string (toS h.value.d)]
theorem elems_flat {α : Type} {K : World → α → List Value → Prop} {sz : Nat} {w : World} (f : α → List Value) (hl : ∀ t, (f t).length = sz) (hk : ∀ t, K w t (f t)) : ∀ ts : List α, Elems K sz w ts (ts.flatMap f) := by
  intro ts
  have key : ∀ (n : Nat) (ts : List α), ts.length = n → Elems K sz w ts (ts.flatMap f) := by
    intro n
    induction n with
    | zero => intro ts h; rw [List.eq_nil_of_length_eq_zero h]; exact Elems.nil
    | succ n ih =>
      intro ts h
      have hne : ts ≠ [] := by intro e; simp [e] at h
      rw [← List.dropLast_concat_getLast hne, List.flatMap_append]
      have := (ih ts.dropLast (by simp [h])).snoc (hl (ts.getLast hne)) (hk (ts.getLast hne))
      simpa using this
  exact key _ ts rfl
theorem info_hdr : (Try.prog.info? 98).map (fun i => (i.zero, i.size, i.bytes)) = some (some (.agg #[.string ⟨#[]⟩, .bool false, .string ⟨#[]⟩]), 3, 40) := by kernel_rfl
theorem cell_arr (w : World) (cs : Array Value) (t : TypeId) : ∀ j u, cs.toList[j]? = some u → (w.alloc (.cells cs t)).cell? ((⟨w.heap.size, 0, none⟩ : Addr).add j) = some u := by
  intro j u h
  have ha : (⟨w.heap.size, 0, none⟩ : Addr).add j = ⟨w.heap.size, 0 + j, none⟩ := by unfold Addr.add; split <;> simp_all
  rw [ha, cell_blk (heap_alloc_new w _), Nat.zero_add]
  simpa using h
section
variable {F : List Asn} {w : World} {g : Nat} {o : OSt} {i : ISt}
set_option maxRecDepth 100000 in
set_option maxHeartbeats 1000000 in
theorem hwrite_calls (hs : List Hdr) (A : Option Addr) (c : Nat) (hl0 : hs.length ≤ 140737488355328) (hb : ∀ h ∈ hs, h.key.length ≤ 140737488355328 ∧ h.value.d.length ≤ 140737488355328) (hr : ∀ (o' : OSt) w', Hd (Out g o' :: F) w' → Rows KHdr 3 w' A hs) (H : Hd (Out g o :: F) w) (hl : (o.hdrs hs).b.length ≤ 140737488355328) :
    Calls Try.prog 193 #[.pointer (some ⟨g, 0, none⟩), .slice A hs.length c] w fun en w' => en = .returned (.tuple #[]) ∧ Hd (Out g (o.hdrs hs) :: F) w' := by
  have he : o.hdrs hs = hs.foldl OSt.hdr (o.pint hs.length) := rfl
  generalize o.hdrs hs = S at he hl ⊢
  have hl1 := Lib.hid (show (o.pint hs.length).b.length ≤ 140737488355328 from Nat.le_trans (hdrs_mono _ _) (he ▸ hl))
  have hup := Lib.hid (fun k => Nat.le_trans (hdrs_upto hs (o.pint hs.length) k) (he ▸ hl))
  have hn1 : (-9223372036854775808 : Int) ≤ (hs.length : Int) := by omega
  have hn2 : (hs.length : Int) ≤ 9223372036854775807 := by omega
  replace he := Lib.hid he
  replace hl := Lib.hid hl
  replace hr := Lib.hid hr
  replace hb := Lib.hid hb
  go_enter Try.func193, Try.ntmps193
  go_wp2_with fail
  refine (putint_calls hs.length hn1 hn2 H hl1.out).mono ?_
  rintro en w1 ⟨rfl, HA⟩
  go_wp2_with fail
  go_loopw [12] (fun y wr => ∃ k : Nat, k ≤ hs.length ∧ y = .int .i64 k ∧ Hd (Out g ((hs.take k).foldl OSt.hdr (o.pint hs.length)) :: F) wr) (fun y _ => hs.length - (intOf y).toNat)
  case atStart => exact ⟨0, Nat.zero_le _, rfl, by rw [List.take_zero, List.foldl_nil]; exact HA⟩
  case round =>
    obtain ⟨k, hk, rfl, HW⟩ := hrel
    by_cases hlt : k < hs.length
    · obtain ⟨b, ofs, rfl, hc⟩ := (hr.out _ wr HW) (by intro h; simp [h] at hlt)
      obtain ⟨cs, _, hcs, hcc⟩ := hc k hlt
      have hcell0 : wr.cell? ⟨b, ofs + k * 3, none⟩ = some (.string (toS hs[k].key)) := by have := hcc 0 (.string (toS hs[k].key)) (by rw [hcs]; rfl); simpa using this
      have hcell1 : wr.cell? ⟨b, ofs + k * 3 + 1, none⟩ = some (.bool hs[k].value.nu) := hcc 1 (.bool hs[k].value.nu) (by rw [hcs]; rfl)
      have hcell2 : wr.cell? ⟨b, ofs + k * 3 + 2, none⟩ = some (.string (toS hs[k].value.d)) := hcc 2 (.string (toS hs[k].value.d)) (by rw [hcs]; rfl)
      clear hc hcc hcs
      have hbk := Lib.hid (hb.out hs[k] (List.getElem_mem hlt))
      have hst := fold_succ OSt.hdr hs (o.pint hs.length) k hlt
      have hu1 := hup.out (k + 1)
      rw [hst] at hu1
      generalize hs[k] = x at hcell0 hcell1 hcell2 hbk hst hu1
      generalize (hs.take k).foldl OSt.hdr (o.pint hs.length) = q at HW hst hu1
      replace hst := Lib.hid hst
      have hu0 := Lib.hid (Nat.le_trans (OSt.varied_mono (q.varied ⟨false, x.key⟩) x.value) hu1)
      replace hu1 := Lib.hid hu1
      have HZ := (HW.alloc #[.string (toS x.key), .bool x.value.nu, .string (toS x.value.d)] 98).f2
      have cz := HZ.t.c
      go_wp2_with fail
      refine (putname_calls x.key hbk.out.1 HZ hu0.out).mono ?_
      rintro en w2 ⟨rfl, HB⟩
      clear cz
      have cz := HB.t.c
      go_wp2_with fail
      refine (putvaried_calls x.value hbk.out.2 HB hu1.out).mono ?_
      rintro en w3 ⟨rfl, HC⟩
      go_wp2
      go_roundw
      case rel => exact ⟨k + 1, hlt, by go_num, by rw [hst.out]; exact HC.d2⟩
      case measure => simp [intOf]; omega
    · obtain rfl : k = hs.length := by omega
      rw [List.take_length, ← he.out] at HW
      go_wp2
      (first | go_end0 | ((try simp only [Exit.inBlock, Exit.then]); refine bodyPost_ret (results_none rfl _ _ _) rfl ?_))
      exact ⟨rfl, HW⟩
set_option maxRecDepth 100000 in
set_option maxHeartbeats 2000000 in
theorem hread_calls (hi : i.d.length + i.r.length ≤ 1000000000) (H : Hd (Inp g i :: F) w) :
    Calls Try.prog 167 #[.pointer (some ⟨g, 0, none⟩)] w fun en w' => ∃ A c, en = .returned (.slice A i.hdrs.1.length c) ∧ Hd (Inp g i.hdrs.2 :: Ro (fun w => Rows KHdr 3 w A i.hdrs.1) :: F) w' := by
  have he : i.hdrs = if (i.varS 32).e ≠ 0 then ([], i.varS 32) else if i.varV 32 < 0 then ([], (i.varS 32).fail 4) else if ((i.varS 32).r.length / 2 : Nat) < i.varV 32 then ([], (i.varS 32).fail 1) else hgo (i.varV 32).toNat [] (i.varS 32) := rfl
  have hln := all_len (all_varS i 32)
  rw [← all_len (i := i) rfl] at hln
  have hv := varV32 i
  generalize i.hdrs = R at he ⊢
  have HV := vint_calls H
  generalize i.varV 32 = n at he HV hv
  generalize i.varS 32 = j at he HV hln
  replace he := Lib.hid he
  have hr1 : j.r.length ≤ 1000000000 := by omega
  clear hln
  replace HV := Lib.hid HV
  go_enter Try.func167, Try.ntmps167
  go_wp2_with fail
  refine HV.out.mono ?_
  rintro en w1 ⟨rfl, HA⟩
  go_wp2_with fail
  refine (in_err HA).mono ?_
  rintro en w2 ⟨rfl, rfl⟩
  by_cases q0 : j.e = 0
  case neg =>
    have b0 : (j.e != 0) = true := bne_iff_ne.2 q0
    have e2 := Lib.hid (he.out.trans (if_pos q0))
    clear q0
    go_wp2
    go_ret
    rw [e2.out]
    exact ⟨none, 0, rfl, (HA.ro_mk (fun _ => Rows.nil)).f2⟩
  have b0 : (j.e != 0) = false := by simp [q0]
  have e2 := Lib.hid (he.out.trans (if_neg (by simp [q0])))
  clear q0 he
  by_cases q1 : n < 0
  · have b1 : decide (n < 0) = true := decide_eq_true q1
    have e3 := Lib.hid (e2.out.trans (if_pos q1))
    clear q1
    go_wp2_with fail
    refine (in_fail 4 HA).mono ?_
    rintro en w2 ⟨rfl, HB⟩
    go_wp2
    go_ret
    rw [e3.out]
    exact ⟨none, 0, rfl, (HB.ro_mk (fun _ => Rows.nil)).f2⟩
  have b1 : decide (n < 0) = false := decide_eq_false q1
  have e3 := Lib.hid (e2.out.trans (if_neg q1))
  clear e2
  obtain ⟨m, rfl⟩ := Int.eq_ofNat_of_zero_le (show 0 ≤ n by omega)
  clear q1
  go_wp2_with fail
  refine (in_left HA).mono ?_
  rintro en w2 ⟨rfl, HB⟩
  have hd2 : ((j.r.length : Int) / 2) = ((j.r.length / 2 : Nat) : Int) := by omega
  by_cases q2 : ((j.r.length / 2 : Nat) : Int) < (m : Int)
  · have b2 : decide ((j.r.length : Int) / 2 < (m : Int)) = true := by simp; omega
    have e4 := Lib.hid (e3.out.trans (if_pos q2))
    clear q2 hd2
    go_wp2_with fail
    refine (in_fail 1 HB).mono ?_
    rintro en w3 ⟨rfl, HC⟩
    go_wp2
    go_ret
    rw [e4.out]
    exact ⟨none, 0, rfl, (HC.ro_mk (fun _ => Rows.nil)).f2⟩
  have b2 : decide ((j.r.length : Int) / 2 < (m : Int)) = false := by simp; omega
  have e4 := Lib.hid (e3.out.trans (if_neg q2))
  rw [Int.toNat_natCast] at e4
  have hm : m ≤ 1000000000 := by omega
  clear q2 hd2 e3
  go_wp2_with fail
  go_loopw [4, 26] (fun x y wr => ∃ (acc : List Hdr) (q : ISt) (A : Option Addr) (c : Nat), acc.length ≤ m ∧ x = .slice A acc.length c ∧ y = .int .i64 acc.length ∧ Hid (hgo (m - acc.length) acc q = R) ∧ Hd (Own 98 3 (.slice A acc.length c) acc.length (acc.flatMap hcells) :: Inp g q :: F) wr) (fun _ y _ => m - (intOf y).toNat)
  case atStart => exact ⟨[], j, none, 0, Nat.zero_le _, rfl, rfl, Lib.hid e4.out.symm, HB.own_nil _ _⟩
  case round =>
    obtain ⟨acc, q, A, c, hk, rfl, rfl, HN, HW⟩ := hrel
    by_cases hlt : acc.length < m
    · have hst : hgo (m - acc.length) acc q = if q.nameS.varBS.e = 0 then hgo (m - (acc.length + 1)) (acc ++ [⟨q.nameB.d, q.nameS.varB⟩]) q.nameS.varBS else ([], q.nameS.varBS) := by
        rw [show m - acc.length = (m - (acc.length + 1)) + 1 by omega]; rfl
      rw [hst] at HN
      clear hst
      go_wp2_with fail
      refine (name_calls HW.f2).mono ?_
      rintro en w3 ⟨rfl, HX⟩
      go_wp2_with fail
      refine (varied_calls' HX).mono ?_
      rintro en w4 ⟨rfl, HY⟩
      generalize q.nameB.d = kd at HN
      generalize q.nameS.varB = vb at HN
      generalize q.nameS.varBS = q2 at HN HY
      have HZ := HY.f2.allocO (.cells #[.string (toS kd), .bool vb.nu, .string (toS vb.d)] 98)
      have hown := HZ.own
      have hb1 : (acc.length + 1) * 40 ≤ 140737488355328 := by omega
      have hb2 : acc.length + 1 ≤ 140737488355328 := by omega
      have K := fun w5 A' c' (ho : World.ownsRow w5 _ _ _ _ _ _) hg hn => own_grown (w' := w5) (v' := .slice A' (acc.length + 1) c') (n' := acc.length + 1) (xs' := acc.flatMap hcells ++ [.string (toS kd), .bool vb.nu, .string (toS vb.d)]) HZ ho hg hn
      go_wp2_with (at_builtin; refine app_row rfl (.tmp 30) (.tmp 35) 89 98 (.agg #[.string ⟨#[]⟩, .bool false, .string ⟨#[]⟩]) 3 40 rfl Try.underlying89 info_hdr rfl (by decide) A acc.length c _ rfl hown ⟨w4.heap.size, 0, none⟩ 1 1 [.string (toS kd), .bool vb.nu, .string (toS vb.d)] rfl rfl (cell_arr _ _ _) (by intro u hu; simp at hu; rcases hu with rfl | rfl | rfl <;> rfl) hb1 hb2 ?_; intro A' c' w5 ho1 hg hn; have HK := K w5 A' c' ho1 hg hn; clear ho1 hg hn)
      go_wp2_with fail
      refine (in_err HK.f2).mono ?_
      rintro en w6 ⟨rfl, rfl⟩
      by_cases qe : q2.e = 0
      · have b3 : (q2.e != 0) = false := by simp [qe]
        have hn2 := HN.out
        rw [if_pos qe] at hn2
        replace hn2 := Lib.hid hn2
        clear qe
        go_wp2
        go_roundw
        case rel => exact ⟨acc ++ [⟨kd, vb⟩], q2, A', c', by rw [List.length_append]; exact hlt, by rw [List.length_append]; rfl, by rw [List.length_append]; go_num, by rw [List.length_append]; exact hn2, by rw [List.length_append, List.flatMap_append]; exact HK⟩
        case measure => simp [intOf]; omega
      · have b3 : (q2.e != 0) = true := bne_iff_ne.2 qe
        have hn2 := HN.out
        rw [if_neg qe] at hn2
        replace hn2 := Lib.hid hn2
        clear qe
        go_wp2
        go_ret
        rw [← hn2.out]
        exact ⟨none, 0, rfl, (HK.t.ro_mk (fun _ => Rows.nil)).f2⟩
    · have hn2 := HN.out
      rw [show m - acc.length = 0 by omega] at hn2
      have hn3 : (acc, q) = R := hn2
      replace hn3 := Lib.hid hn3
      clear hn2
      go_wp2
      go_ret
      rw [← hn3.out]
      exact ⟨A, c, rfl, (HW.own_ro.ro_imp (fun w' ho => rows_own (by decide) ho (elems_flat hcells (fun _ => rfl) (fun _ => rfl) acc))).f2⟩
end
end Go.Proofs.Ytflgfbffglmmeaa
