/-
  The law WholeFields: its walk.
-/
import Derived.Test.YtflgfbffglmmeaaFields
namespace Go.Proofs.Ytflgfbffglmmeaa
open Go.RowKit
set_option linter.unusedVariables false
set_option linter.unusedSimpArgs false

def wfB (b : Blob) : List UInt8 := (vint b.len ++ b.d) ++ (be b.len 2 ++ b.d)
def wfS (ns : List Int) (bs : List Blob) : List UInt8 := vint (-1) ++ (ns.flatMap vint ++ bs.flatMap wfB)
theorem vint_m1 : vint (-1) = [1] := by unfold vint; rw [show foldN (-1) = 1 from rfl, vput_lt (by decide)]; rfl
def okB (b : Blob) : Bool := decide (b.d.length ≤ 200) && b.right

theorem wfB_len (b : Blob) (h : b.d.length ≤ 200) : (wfB b).length ≤ 412 := by
  have hl := vint_len b.len (blen_bd b (by omega)).1 (blen_bd b (by omega)).2
  simp only [wfB, List.length_append, be_length]
  omega
theorem put0 (l m : List UInt8) : OSt.put ⟨l, 0⟩ m = ⟨l ++ m, 0⟩ := rfl
theorem fits_len (b : Blob) (h : b.d.length ≤ 32767) : fitsB b.len 2 = true ∧ fitsB b.len 4 = true := by
  rw [fits_2, fits_4]
  unfold Blob.len
  split <;> simp <;> omega
theorem varied0 (l : List UInt8) (b : Blob) (h : b.d.length ≤ 32767) (hr : b.right = true) : OSt.varied ⟨l, 0⟩ b = ⟨l ++ (vint b.len ++ b.d), 0⟩ := by
  unfold OSt.varied OSt.pint OSt.bw
  rw [(fits_len b h).2, hr, if_pos rfl, if_pos rfl, put0, put0, List.append_assoc]
theorem fixed0 (l : List UInt8) (b : Blob) (h : b.d.length ≤ 32767) (hr : b.right = true) : OSt.fixed ⟨l, 0⟩ b 2 = ⟨l ++ (be b.len 2 ++ b.d), 0⟩ := by
  unfold OSt.fixed OSt.int OSt.bw
  rw [(fits_len b h).1, hr, if_pos rfl, if_pos rfl, put0, put0, List.append_assoc]
theorem wfS_take (ns : List Int) (k : Nat) (h : k < ns.length) : (ns.take (k + 1)).flatMap vint = (ns.take k).flatMap vint ++ vint ns[k] := by
  rw [List.take_succ_eq_append_getElem h, List.flatMap_append]; simp
theorem wfB_take (bs : List Blob) (k : Nat) (h : k < bs.length) : (bs.take (k + 1)).flatMap wfB = (bs.take k).flatMap wfB ++ wfB bs[k] := by
  rw [List.take_succ_eq_append_getElem h, List.flatMap_append]; simp

set_option maxRecDepth 1000000 in
set_option maxHeartbeats 2000000 in
theorem fields_calls {w : World} {A1 A2 : Option Addr} {c1 c2 : Nat} (ns : List Int) (bs : List Blob) (end_ : Int) (he0 : 0 ≤ end_) (he1 : end_ < 65536) (hr : ∀ n ∈ ns, -9223372036854775808 ≤ n ∧ n ≤ 9223372036854775807)
    (h1 : Rows KInt 1 w A1 ns) (h2 : Rows KBlob 2 w A2 bs) (hl1 : (ns.length : Int) ≤ 140737488355328) (hl2 : (bs.length : Int) ≤ 140737488355328) (hsz : ∀ b ∈ bs, b.d.length ≤ 140737488355328)
    (hrt : ∀ ns bs, (∀ n ∈ ns, -9223372036854775808 ≤ n ∧ n ≤ 9223372036854775807) → bs.all okB = true → rdAll ns bs ⟨[], wfS ns bs, 0⟩ = (true, ⟨wfS ns bs, [], 0⟩))
    (hct : ∀ ns bs k, (∀ n ∈ ns, -9223372036854775808 ≤ n ∧ n ≤ 9223372036854775807) → bs.all okB = true → k < (wfS ns bs).length → (rdAll ns bs ⟨[], (wfS ns bs).take k, 0⟩).2.e = 1) :
    Calls Try.prog 5 #[.slice A1 ns.length c1, .slice A2 bs.length c2, .int .u16 end_] w fun en w' => en = .returned (.bool true) ∧ Below w.heap.size w w' := by
  have HA := (((Old.start w).alloc #[.slice A1 ns.length c1] 66).alloc #[.slice A2 bs.length c2] 67).alloc #[.slice none 0 0, .int .i64 0] 71
  simp only [World.size_alloc] at HA
  have HB := HA.outnew
  clear HA
  have HR := Lib.hid hr; clear hr
  have H1 := Lib.hid h1; clear h1
  have H2 := Lib.hid h2; clear h2
  have HSZ := Lib.hid hsz; clear hsz
  have HRT := Lib.hid hrt; clear hrt
  have HCT := Lib.hid hct; clear hct
  by_cases hbig : 40 < ns.length ∨ 40 < bs.length
  · have hcase : 40 < ns.length ∨ (ns.length ≤ 40 ∧ 40 < bs.length) := by omega
    clear hbig
    rcases hcase with hcase | ⟨hcase, hcase2⟩
    all_goals
      go_enter Try.func5, Try.ntmps5
      go_wp2_with fail
      refine (putlong_calls (-1) (by decide) (by decide) HB (by rw [vint_m1]; decide)).mono ?_
      rintro en w1 ⟨rfl, HC⟩
      go_wp2_with fail
      refine (out_len HC).mono ?_
      rintro en w1' ⟨rfl, rfl⟩
      rw [vint_m1] at HC ⊢
      rw [show (OSt.put ⟨[], 0⟩ [1]).b.length = 1 from rfl]
      have c3 : w1.cell? ⟨w.heap.size, 0, none⟩ = some (.slice A1 ns.length c1) := HC.t.t.c 0
      have c4 : w1.cell? ⟨w.heap.size + 1, 0, none⟩ = some (.slice A2 bs.length c2) := HC.t.c 0
      go_wp2
      go_ret
      exact ⟨rfl, HC.t.t.t.old⟩
  · have hn : ns.length ≤ 40 := by omega
    have hb : bs.length ≤ 40 := by omega
    clear hbig
    go_enter Try.func5, Try.ntmps5
    go_wp2_with fail
    refine (putlong_calls (-1) (by decide) (by decide) HB (by rw [vint_m1]; decide)).mono ?_
    rintro en w1 ⟨rfl, HC⟩
    go_wp2_with fail
    refine (out_len HC).mono ?_
    rintro en w1' ⟨rfl, rfl⟩
    rw [show (OSt.put ⟨[], 0⟩ (vint (-1))).b.length = 1 by rw [vint_m1]; rfl]
    rw [put0, List.nil_append] at HC
    have c3 : w1.cell? ⟨w.heap.size, 0, none⟩ = some (.slice A1 ns.length c1) := HC.t.t.c 0
    have c4 : w1.cell? ⟨w.heap.size + 1, 0, none⟩ = some (.slice A2 bs.length c2) := HC.t.c 0
    go_wp2_with fail
    go_loopw [31] (fun y wr => ∃ (k : Nat), k ≤ ns.length ∧ y = .int .i64 k ∧
      Hd [Out (w.heap.size + 2) ⟨vint (-1) ++ (ns.take k).flatMap vint, 0⟩, Cel (w.heap.size + 1) #[.slice A2 bs.length c2] 67, Cel w.heap.size #[.slice A1 ns.length c1] 66, Old w] wr) (fun y _ => ns.length - (intOf y).toNat)
    case atStart => exact ⟨0, Nat.zero_le _, rfl, by simpa using HC⟩
    case round =>
      obtain ⟨k, hk, rfl, HW⟩ := hrel
      by_cases hlt : k < ns.length
      · have hrw := (H1.out.below HW.t.t.t.old (fun _ _ h => h))
        obtain ⟨b, off, rfl, hc⟩ := hrw (by intro h; simp [h] at hlt)
        obtain ⟨cs, _, hcs, hcc⟩ := hc k hlt
        have hcell : wr.cell? ⟨b, off + k, none⟩ = some (.int .i64 ns[k]) := by have := hcc 0 (.int .i64 ns[k]) (by rw [hcs]; rfl); simpa using this
        clear hc hcc hcs
        have HT := Lib.hid (wfS_take ns k hlt)
        obtain ⟨hx1, hx2⟩ := HR.out ns[k] (List.getElem_mem hlt)
        have hlen : (vint (-1) ++ ((ns.take k).flatMap vint ++ vint ns[k])).length ≤ 140737488355328 := by
          have h1 := flat_len vint 10 (ns.take k) (fun x hx => vint_len x (HR.out x (List.mem_of_mem_take hx)).1 (HR.out x (List.mem_of_mem_take hx)).2)
          have h2 := vint_len ns[k] hx1 hx2
          have h3 := vint_len (-1) (by decide) (by decide)
          have h4 := List.length_take_le k ns
          simp only [List.length_append]
          omega
        generalize ns[k] = x at hcell HT hx1 hx2 hlen
        have HL := Lib.hid hlen; clear hlen
        go_wp2_with fail
        refine (putlong_calls x hx1 hx2 HW (by rw [put0, List.append_assoc]; exact HL.out)).mono ?_
        rintro en w2 ⟨rfl, HX⟩
        rw [put0, List.append_assoc, ← HT.out] at HX
        go_wp2
        go_roundw
        case rel => exact ⟨k + 1, hlt, by go_num, HX⟩
        case measure => simp [intOf]; omega
      · obtain rfl : k = ns.length := by omega
        rw [List.take_length] at HW
        have c4 : wr.cell? ⟨w.heap.size + 1, 0, none⟩ = some (.slice A2 bs.length c2) := HW.t.c 0
        go_wp2_with fail
        go_loopw [40] (fun y wr => ∃ (k : Nat), k ≤ bs.length ∧ y = .int .i64 k ∧ Hid ((bs.take k).all okB = true) ∧
          Hd [Out (w.heap.size + 2) ⟨vint (-1) ++ (ns.flatMap vint ++ (bs.take k).flatMap wfB), 0⟩, Cel (w.heap.size + 1) #[.slice A2 bs.length c2] 67, Cel w.heap.size #[.slice A1 ns.length c1] 66, Old w] wr) (fun y _ => bs.length - (intOf y).toNat)
        case atStart => exact ⟨0, Nat.zero_le _, rfl, Lib.hid rfl, by simpa using HW⟩
        case round =>
          obtain ⟨k, hk, rfl, HOK, HV⟩ := hrel
          by_cases hlt : k < bs.length
          · have hrw := (H2.out.below HV.t.t.t.old (fun _ _ h => h))
            obtain ⟨b, off, rfl, hc⟩ := hrw (by intro h; simp [h] at hlt)
            obtain ⟨cs, _, hcs, hcc⟩ := hc k hlt
            have hcell0 : wr.cell? ⟨b, off + k * 2, none⟩ = some (.bool bs[k].nu) := by have := hcc 0 (.bool bs[k].nu) (by rw [hcs]; rfl); simpa using this
            have hcell1 : wr.cell? ⟨b, off + k * 2 + 1, none⟩ = some (.string (toS bs[k].d)) := hcc 1 (.string (toS bs[k].d)) (by rw [hcs]; rfl)
            clear hc hcc hcs
            have HT := Lib.hid (wfB_take bs k hlt)
            have HA := Lib.hid (show (bs.take (k + 1)).all okB = ((bs.take k).all okB && okB bs[k]) by rw [List.take_succ_eq_append_getElem hlt, List.all_append]; simp)
            have hs0 := HSZ.out bs[k] (List.getElem_mem hlt)
            have HL : Hid (okB bs[k] = true → (vint (-1) ++ (ns.flatMap vint ++ ((bs.take k).flatMap wfB ++ wfB bs[k]))).length ≤ 140737488355328) := Lib.hid (by
              intro hok
              have hall : (bs.take (k + 1)).all okB = true := by rw [HA.out, HOK.out, hok]; rfl
              rw [← HT.out]
              have h1 := flat_len vint 10 ns (fun x hx => vint_len x (HR.out x hx).1 (HR.out x hx).2)
              have h2 := flat_len wfB 412 (bs.take (k + 1)) (fun x hx => wfB_len x (by have := List.all_eq_true.1 hall x hx; simp [okB] at this; exact this.1))
              have h3 := vint_len (-1) (by decide) (by decide)
              have h4 := List.length_take_le (k + 1) bs
              simp only [List.length_append]
              omega)
            generalize bs[k] = x at hcell0 hcell1 HT HA hs0 HL
            obtain ⟨nu, d⟩ := x
            have hsz2 : (toS d).size = d.length := toS_size d
            by_cases hlong : 200 < d.length
            · go_wp2
              go_ret
              exact ⟨rfl, HV.t.t.t.old.alloc HV.t.t.t.old.size _⟩
            · have hle : decide ((200 : Int) < (d.length : Int)) = false := by simp; omega
              cases nu
              · have hok : okB ⟨false, d⟩ = true := by simp [okB, Blob.right]; omega
                have hdl : d.length ≤ 32767 := by omega
                have hrt : Blob.right ⟨false, d⟩ = true := by simp [okB] at hok; exact hok.2
                have HO := Lib.hid hok
                have HDL := Lib.hid hdl
                have HRI := Lib.hid hrt
                clear hok hdl hrt
                have HX := (HV.alloc #[.bool false, .string (toS d)] 28).f2
                have HY0 := (varied0 (vint (-1) ++ (ns.flatMap vint ++ (bs.take k).flatMap wfB)) ⟨false, d⟩ HDL.out HRI.out)
                have HY1 := (fixed0 (vint (-1) ++ (ns.flatMap vint ++ (bs.take k).flatMap wfB) ++ (vint (Blob.len ⟨false, d⟩) ++ d)) ⟨false, d⟩ HDL.out HRI.out)
                have HY2 : (vint (-1) ++ (ns.flatMap vint ++ (bs.take k).flatMap wfB) ++ (vint (Blob.len ⟨false, d⟩) ++ d)) ++ (be (Blob.len ⟨false, d⟩) 2 ++ d) = vint (-1) ++ (ns.flatMap vint ++ (bs.take (k + 1)).flatMap wfB) := by
                  rw [HT.out]; simp only [wfB, List.append_assoc]
                have hlen2 := HL.out HO.out
                rw [← HT.out, ← HY2] at hlen2
                have HZ0 := Lib.hid HY0
                have HZ1 := Lib.hid HY1
                have HZ2 := Lib.hid HY2
                have HZ3 := Lib.hid hlen2
                clear HY0 HY1 HY2 hlen2
                go_wp2_with fail
                refine (putvaried_calls ⟨false, d⟩ hs0 HX (by rw [HZ0.out]; have := HZ3.out; rw [List.length_append] at this; simp only at this ⊢; omega)).mono ?_
                rintro en w2 ⟨rfl, HY⟩
                rw [HZ0.out] at HY
                have d0 : w2.cell? ⟨wr.heap.size, 0, none⟩ = some (.bool false) := HY.t.c 0
                have d1 : w2.cell? ⟨wr.heap.size, 1, none⟩ = some (.string (toS d)) := HY.t.c 1
                go_wp2_with fail
                refine (putfixed_calls ⟨false, d⟩ 2 (by omega) hs0 HY (by rw [HZ1.out]; exact HZ3.out)).mono ?_
                rintro en w3 ⟨rfl, HW3⟩
                rw [HZ1.out, HZ2.out] at HW3
                go_wp2
                go_roundw
                case rel => exact ⟨k + 1, hlt, by go_num, Lib.hid (by rw [HA.out, HOK.out, HO.out]; rfl), HW3.d2⟩
                case measure => simp [intOf]; omega
              · by_cases hok : okB ⟨true, d⟩ = true
                · have hE : (toS d).toList.isEmpty = true := by
                    rw [toS_list]
                    simp [okB, Blob.right] at hok
                    simp [hok.2]
                  have hdl : d.length ≤ 32767 := by omega
                  have hrt : Blob.right ⟨true, d⟩ = true := by simp [okB] at hok; exact hok.2
                  have HO := Lib.hid hok
                  have HDL := Lib.hid hdl
                  have HRI := Lib.hid hrt
                  clear hok hdl hrt
                  have HX := (HV.alloc #[.bool true, .string (toS d)] 28).f2
                  have HY0 := (varied0 (vint (-1) ++ (ns.flatMap vint ++ (bs.take k).flatMap wfB)) ⟨true, d⟩ HDL.out HRI.out)
                  have HY1 := (fixed0 (vint (-1) ++ (ns.flatMap vint ++ (bs.take k).flatMap wfB) ++ (vint (Blob.len ⟨true, d⟩) ++ d)) ⟨true, d⟩ HDL.out HRI.out)
                  have HY2 : (vint (-1) ++ (ns.flatMap vint ++ (bs.take k).flatMap wfB) ++ (vint (Blob.len ⟨true, d⟩) ++ d)) ++ (be (Blob.len ⟨true, d⟩) 2 ++ d) = vint (-1) ++ (ns.flatMap vint ++ (bs.take (k + 1)).flatMap wfB) := by
                    rw [HT.out]; simp only [wfB, List.append_assoc]
                  have hlen2 := HL.out HO.out
                  rw [← HT.out, ← HY2] at hlen2
                  have HZ0 := Lib.hid HY0
                  have HZ1 := Lib.hid HY1
                  have HZ2 := Lib.hid HY2
                  have HZ3 := Lib.hid hlen2
                  clear HY0 HY1 HY2 hlen2
                  go_wp2_with fail
                  refine (putvaried_calls ⟨true, d⟩ hs0 HX (by rw [HZ0.out]; have := HZ3.out; rw [List.length_append] at this; simp only at this ⊢; omega)).mono ?_
                  rintro en w2 ⟨rfl, HY⟩
                  rw [HZ0.out] at HY
                  have d0 : w2.cell? ⟨wr.heap.size, 0, none⟩ = some (.bool true) := HY.t.c 0
                  have d1 : w2.cell? ⟨wr.heap.size, 1, none⟩ = some (.string (toS d)) := HY.t.c 1
                  go_wp2_with fail
                  refine (putfixed_calls ⟨true, d⟩ 2 (by omega) hs0 HY (by rw [HZ1.out]; exact HZ3.out)).mono ?_
                  rintro en w3 ⟨rfl, HW3⟩
                  rw [HZ1.out, HZ2.out] at HW3
                  go_wp2
                  go_roundw
                  case rel => exact ⟨k + 1, hlt, by go_num, Lib.hid (by rw [HA.out, HOK.out, HO.out]; rfl), HW3.d2⟩
                  case measure => simp [intOf]; omega
                · have hE : (toS d).toList.isEmpty = false := by
                    rw [toS_list]
                    simp [okB, Blob.right] at hok
                    have := hok (by omega)
                    simpa using this
                  go_wp2
                  go_ret
                  exact ⟨rfl, HV.t.t.t.old.alloc HV.t.t.t.old.size _⟩
          · obtain rfl : k = bs.length := by omega
            rw [List.take_length] at HV HOK
            have HT1 : OSt.text ⟨wfS ns bs, 0⟩ = (wfS ns bs, 0) := rfl
            have HV2 : Hd [Out (w.heap.size + 2) ⟨wfS ns bs, 0⟩, Cel (w.heap.size + 1) #[.slice A2 bs.length c2] 67, Cel w.heap.size #[.slice A1 ns.length c1] 66, Old w] wr := HV
            clear HV
            have hrt := HRT.out ns bs HR.out HOK.out
            have hct := HCT.out ns bs (end_ % (wfS ns bs).length).toNat HR.out HOK.out
            have hpos : 0 < (wfS ns bs).length := by unfold wfS; rw [vint_m1]; simp
            have hlen : (wfS ns bs).length ≤ 140737488355328 := by
              have h1 := flat_len vint 10 ns (fun x hx => vint_len x (HR.out x hx).1 (HR.out x hx).2)
              have h2 := flat_len wfB 412 bs (fun x hx => wfB_len x (by have := List.all_eq_true.1 HOK.out x hx; simp [okB] at this; exact this.1))
              have h3 := vint_len (-1) (by decide) (by decide)
              simp only [wfS, List.length_append]
              omega
            have HRT2 := Lib.hid hrt
            have HCT2 := Lib.hid (hct (by have := Int.emod_lt_of_pos end_ (show (0 : Int) < (wfS ns bs).length by omega); have := Int.emod_nonneg end_ (show ((wfS ns bs).length : Int) ≠ 0 by omega); omega))
            clear hrt hct HOK
            have hem : (toS (wfS ns bs)).toList.isEmpty = false := by
              rw [toS_list]; cases hq : wfS ns bs with
              | nil => rw [hq] at hpos; simp at hpos
              | cons => rfl
            have hss : (toS (wfS ns bs)).size = (wfS ns bs).length := toS_size _
            generalize wfS ns bs = S at HT1 HV2 HRT2 HCT2 hpos hlen hem hss
            obtain ⟨m, hm⟩ : ∃ m : Nat, (m : Int) = end_ % (S.length : Int) := ⟨(end_ % (S.length : Int)).toNat, by have := Int.emod_nonneg end_ (show (S.length : Int) ≠ 0 by omega); omega⟩
            have hmlt : m < S.length := by have := Int.emod_lt_of_pos end_ (show (0 : Int) < S.length by omega); omega
            rw [← hm, Int.toNat_natCast] at HCT2
            have HM := Lib.hid hm
            clear hm
            have hcut : (toS S).extract 0 m = toS (S.take m) := by have := cut_str [] S m; simpa using this
            go_wp2_with fail
            refine (out_text HV2).mono ?_
            rintro en w2 ⟨rfl, HT⟩
            rw [HT1]
            go_wp2_with fail
            have hne : ¬ S = [] := by intro h; simp [h] at hpos
            have hwe : IntKind.i64.wrap end_ = end_ := by rw [IntKind.wrap_i64]; omega
            have htm : end_.tmod (S.length : Int) = (m : Int) := by rw [Int.tmod_eq_emod_of_nonneg he0]; exact HM.out.symm
            have hm0 : (0 : Int) ≤ (m : Int) := Int.natCast_nonneg _
            have hm1 : (m : Int) ≤ (S.length : Int) := by omega
            first | (go_region_with ((go_at_call 24; first | ((with_reducible refine (in_new S HT.drew hlen).mono ?_); rintro en w3 ⟨g1, rfl, HI⟩) | ((with_reducible refine (in_new (S.take m) HI (by rw [List.length_take]; omega)).mono ?_); rintro en w4 ⟨g2, rfl, HJ⟩)))) | fail
            have HK : Hd [Inp g1 ⟨[], S, 0⟩, Cel w.heap.size #[.slice A1 ns.length c1] 66, Cel (w.heap.size + 1) #[.slice A2 bs.length c2] 67, Inp g2 ⟨[], S.take m, 0⟩, Out (w.heap.size + 2) ⟨S, 0⟩, Old w] w4 := ((HJ.pick 3 rfl rfl).pick 4 rfl rfl).pick 3 rfl rfl
            have hr1 : ∀ w', Hd [Inp g2 ⟨[], S.take m, 0⟩, Out (w.heap.size + 2) ⟨S, 0⟩, Old w] w' → Rows KInt 1 w' A1 ns := fun w' h => H1.out.below h.t.t.old (fun _ _ h => h)
            have hr2 : ∀ w', Hd [Inp g2 ⟨[], S.take m, 0⟩, Out (w.heap.size + 2) ⟨S, 0⟩, Old w] w' → Rows KBlob 2 w' A2 bs := fun w' h => H2.out.below h.t.t.old (fun _ _ h => h)
            have HCL := read_calls ns bs hn hb HK hr1 hr2
            rw [HRT2.out] at HCL
            have HCL2 := Lib.hid HCL
            clear HCL hr1 hr2
            go_wp2_with fail
            refine HCL2.out.mono ?_
            rintro en w5 ⟨rfl, HL⟩
            have HN : Hd [Inp g2 ⟨[], S.take m, 0⟩, Cel w.heap.size #[.slice A1 ns.length c1] 66, Cel (w.heap.size + 1) #[.slice A2 bs.length c2] 67, Inp g1 ⟨S, [], 0⟩, Out (w.heap.size + 2) ⟨S, 0⟩, Old w] w5 := ((HL.pick 2 rfl rfl).pick 2 rfl rfl).pick 3 rfl rfl
            have hr1 : ∀ w', Hd [Inp g1 ⟨S, [], 0⟩, Out (w.heap.size + 2) ⟨S, 0⟩, Old w] w' → Rows KInt 1 w' A1 ns := fun w' h => H1.out.below h.t.t.old (fun _ _ h => h)
            have hr2 : ∀ w', Hd [Inp g1 ⟨S, [], 0⟩, Out (w.heap.size + 2) ⟨S, 0⟩, Old w] w' → Rows KBlob 2 w' A2 bs := fun w' h => H2.out.below h.t.t.old (fun _ _ h => h)
            have HCM := read_calls ns bs hn hb HN hr1 hr2
            generalize rdAll ns bs ⟨[], S.take m, 0⟩ = R at HCM HCT2
            have HCM2 := Lib.hid HCM
            clear HCM hr1 hr2
            go_wp2_with fail
            refine HCM2.out.mono ?_
            rintro en w6 ⟨rfl, HP⟩
            have HQ : Hd [Inp g1 ⟨S, [], 0⟩, Inp g2 R.2, Cel w.heap.size #[.slice A1 ns.length c1] 66, Cel (w.heap.size + 1) #[.slice A2 bs.length c2] 67, Out (w.heap.size + 2) ⟨S, 0⟩, Old w] w6 := HP.pick 3 rfl rfl
            have HCO := in_close HQ
            rw [show ISt.close ⟨S, [], 0⟩ = ⟨S, [], 0⟩ from rfl] at HCO
            have HCO2 := Lib.hid HCO
            clear HCO
            go_wp2_with fail
            refine HCO2.out.mono ?_
            rintro en w7 ⟨rfl, HU⟩
            have HU2 : Hd [Inp g2 R.2, Inp g1 ⟨S, [], 0⟩, Cel w.heap.size #[.slice A1 ns.length c1] 66, Cel (w.heap.size + 1) #[.slice A2 bs.length c2] 67, Out (w.heap.size + 2) ⟨S, 0⟩, Old w] w7 := HU.pick 1 rfl rfl
            have HCP := in_close HU2
            rw [show R.2.close.e = 1 by unfold ISt.close; split; exact HCT2.out; rw [ISt.fail_err _ _ (by rw [HCT2.out]; decide)]; exact HCT2.out] at HCP
            have HCP2 := Lib.hid HCP
            clear HCP
            go_wp2_with fail
            refine HCP2.out.mono ?_
            rintro en w8 ⟨rfl, HV8⟩
            go_wp2
            go_ret
            exact ⟨rfl, (HV8.t.t.t.t.t.old)⟩
end Go.Proofs.Ytflgfbffglmmeaa
