/-
  Records that end transactions: made, and told.
-/
import Derived.Test.YtflgfbffglmmeaaCtl
namespace Go.Proofs.Ytflgfbffglmmeaa
open Go.RowKit
set_option linter.unusedVariables false
set_option linter.unusedSimpArgs false
def Rec.cells (r : Rec) (A : Option Addr) (c : Nat) : Array Value := #[.int .i64 r.time, .int .i64 r.offset, .bool r.key.nu, .string (toS r.key.d), .bool r.value.nu, .string (toS r.value.d), .slice A r.headers.length c]
section
variable {F : List Asn} {w : World} {g : Nat} {o : OSt} {i : ISt}
theorem ckey_lt (k : Int) : (ckey k).1.length ≤ 140737488355328 := by
  unfold ckey
  split
  · rw [List.length_append, be_length, be_length]; decide
  · decide
set_option maxRecDepth 100000 in
set_option maxHeartbeats 400000 in
theorem crec_calls (kind epoch : Int) (h1 : -9223372036854775808 ≤ epoch) (h2 : epoch ≤ 9223372036854775807) (H : Hd F w) : Calls Try.prog 43 #[.int .i64 kind, .int .i64 epoch] w fun en w' => en = .returned (.tuple #[.agg ((crec kind epoch).1.cells none 0), .int .i64 (crec kind epoch).2]) ∧ Hd F w' := by
  have HA := H.alloc #[.int .i64 0, .int .i64 0, .bool false, .string (toS []), .bool false, .string (toS []), .slice none 0 0] 91
  have hr : crec kind epoch = if (ckey kind).2 ≠ 0 then (rzero, (ckey kind).2) else if (cval epoch).2 ≠ 0 then (rzero, (cval epoch).2) else (⟨0, 0, ⟨false, (ckey kind).1⟩, ⟨false, (cval epoch).1⟩, []⟩, 0) := rfl
  have HK := ckey_calls kind HA
  have HV := fun w1 H => cval_calls (F := Cel w.heap.size #[.int .i64 0, .int .i64 0, .bool false, .string (toS []), .bool false, .string (toS []), .slice none 0 0] 91 :: F) (w := w1) epoch h1 h2 H
  generalize crec kind epoch = R at hr ⊢
  generalize ckey kind = K at hr HK
  generalize cval epoch = V at hr HV
  obtain ⟨k, ke⟩ := K
  obtain ⟨x, xe⟩ := V
  simp only at hr HK HV
  replace hr := Lib.hid hr
  replace HK := Lib.hid HK
  replace HV := Lib.hid HV
  go_enter Try.func43, Try.ntmps43
  go_wp2_with fail
  refine HK.out.mono ?_
  rintro en w1 ⟨rfl, HB⟩
  have z := HB.z
  have c := HB.c
  by_cases hk : ke = 0
  case neg =>
    have b0 : (ke != 0) = true := bne_iff_ne.2 hk
    have hr2 := Lib.hid (hr.out.trans (if_pos hk))
    clear hk
    go_wp2
    have HQ := (((((((HB.set 0 (.int .i64 0)).set 1 (.int .i64 0)).set 2 (.bool false)).set 3 (.string ⟨#[]⟩)).set 4 (.bool false)).set 5 (.string ⟨#[]⟩)).set 6 (.slice none 0 0))
    have t := HQ.c
    rw [hr2.out]
    refine bodyPost_ret (v := .tuple #[.agg (rzero.cells none 0), .int .i64 ke]) (by simp [rzero, Rec.cells, results, Try.results43, go_sem, t]; rfl) rfl ⟨rfl, HQ.t⟩
  have b0 : (ke != 0) = false := by simp [hk]
  have hr2 := Lib.hid (hr.out.trans (if_neg (by simp [hk])))
  clear hk
  go_wp2_with fail
  refine (HV.out _ HB).mono ?_
  rintro en w2 ⟨rfl, HC⟩
  clear z c
  have z := HC.z
  have c := HC.c
  by_cases hx : xe = 0
  case neg =>
    have b1 : (xe != 0) = true := bne_iff_ne.2 hx
    have hr3 := Lib.hid (hr2.out.trans (if_pos hx))
    clear hx
    go_wp2
    have HQ := (((((((HC.set 0 (.int .i64 0)).set 1 (.int .i64 0)).set 2 (.bool false)).set 3 (.string ⟨#[]⟩)).set 4 (.bool false)).set 5 (.string ⟨#[]⟩)).set 6 (.slice none 0 0))
    have t := HQ.c
    rw [hr3.out]
    refine bodyPost_ret (v := .tuple #[.agg (rzero.cells none 0), .int .i64 xe]) (by simp [rzero, Rec.cells, results, Try.results43, go_sem, t]; rfl) rfl ⟨rfl, HQ.t⟩
  have b1 : (xe != 0) = false := by simp [hx]
  have hr3 := Lib.hid (hr2.out.trans (if_neg (by simp [hx])))
  clear hx
  go_wp2_with fail
  refine (bof_calls k HC).mono ?_
  rintro en w3 ⟨rfl, HD⟩
  go_wp2_with fail
  refine (bof_calls x HD).mono ?_
  rintro en w4 ⟨rfl, HE⟩
  clear z c
  have z := HE.z
  have c := HE.c
  go_wp2
  have HQ := (((((((HE.set 0 (.int .i64 0)).set 1 (.int .i64 0)).set 2 (.bool false)).set 3 (.string (toS k))).set 4 (.bool false)).set 5 (.string (toS x))).set 6 (.slice none 0 0))
  have t := HQ.c
  rw [hr3.out]
  refine bodyPost_ret (v := .tuple #[.agg (Rec.cells ⟨0, 0, ⟨false, k⟩, ⟨false, x⟩, []⟩ none 0), .int .i64 0]) (by simp [Rec.cells, results, Try.results43, go_sem, t]) rfl ⟨rfl, HQ.t⟩
set_option maxRecDepth 100000 in
set_option maxHeartbeats 400000 in
theorem cread_calls (r : Rec) (A : Option Addr) (c : Nat) (hk : r.key.d.length ≤ 140737488355328) (hv : r.value.d.length ≤ 140737488355328) (H : Hd F w) :
    Calls Try.prog 46 #[.agg (r.cells A c)] w fun en w' => en = .returned (.tuple #[.int .i64 (cread r).1, .int .i64 (cread r).2.1, .int .i64 (cread r).2.2]) ∧ Hd F w' := by
  obtain ⟨t, off, ⟨kn, kd⟩, ⟨vn, vd⟩, hs⟩ := r
  simp only at hk hv
  unfold Rec.cells
  simp only
  have HA := H.alloc #[.int .i64 t, .int .i64 off, .bool kn, .string (toS kd), .bool vn, .string (toS vd), .slice A hs.length c] 91
  cases kn
  case true =>
    rw [show cread ⟨t, off, ⟨true, kd⟩, ⟨vn, vd⟩, hs⟩ = (0, 0, 12) from if_pos (.inl rfl)]
    go_enter Try.func46, Try.ntmps46
    go_wp2
    go_ret3
    exact ⟨rfl, HA.t⟩
  cases vn
  case true =>
    rw [show cread ⟨t, off, ⟨false, kd⟩, ⟨true, vd⟩, hs⟩ = (0, 0, 12) from if_pos (.inr (.inl rfl))]
    go_enter Try.func46, Try.ntmps46
    go_wp2
    go_ret3
    exact ⟨rfl, HA.t⟩
  by_cases hl : hs = []
  case neg =>
    rw [show cread ⟨t, off, ⟨false, kd⟩, ⟨false, vd⟩, hs⟩ = (0, 0, 12) from if_pos (.inr (.inr (.inl hl)))]
    have hp := List.length_pos_iff.2 hl
    have b0 : decide ((0 : Int) < (hs.length : Int)) = true := by simp; omega
    clear hl
    go_enter Try.func46, Try.ntmps46
    go_wp2
    go_ret3
    exact ⟨rfl, HA.t⟩
  subst hl
  by_cases ho : off = 0
  case neg =>
    rw [show cread ⟨t, off, ⟨false, kd⟩, ⟨false, vd⟩, []⟩ = (0, 0, 12) from if_pos (.inr (.inr (.inr ho)))]
    have b1 : (off != 0) = true := bne_iff_ne.2 ho
    clear ho
    go_enter Try.func46, Try.ntmps46
    go_wp2
    go_ret3
    exact ⟨rfl, HA.t⟩
  subst ho
  have hr : cread ⟨t, 0, ⟨false, kd⟩, ⟨false, vd⟩, []⟩ = if (crk kd).2 ≠ 0 then (0, 0, (crk kd).2) else if (crv vd).2 ≠ 0 then (0, 0, (crv vd).2) else ((crk kd).1, (crv vd).1, 0) := by unfold cread; rw [if_neg (by simp)]
  have HK := crk_calls kd hk HA
  have HV := fun w1 H => crv_calls (F := Cel w.heap.size #[.int .i64 t, .int .i64 0, .bool false, .string (toS kd), .bool false, .string (toS vd), .slice A ([] : List Hdr).length c] 91 :: F) (w := w1) vd hv H
  generalize cread ⟨t, 0, ⟨false, kd⟩, ⟨false, vd⟩, []⟩ = R at hr ⊢
  generalize crk kd = K at hr HK
  generalize crv vd = V at hr HV
  obtain ⟨k, ke⟩ := K
  obtain ⟨x, xe⟩ := V
  simp only at hr HK HV
  replace hr := Lib.hid hr
  replace HK := Lib.hid HK
  replace HV := Lib.hid HV
  go_enter Try.func46, Try.ntmps46
  go_wp2_with fail
  refine HK.out.mono ?_
  rintro en w1 ⟨rfl, HB⟩
  have c := HB.c
  by_cases hk : ke = 0
  case neg =>
    have b0 : (ke != 0) = true := bne_iff_ne.2 hk
    have hr2 := Lib.hid (hr.out.trans (if_pos hk))
    clear hk
    go_wp2
    go_ret3
    rw [hr2.out]
    exact ⟨rfl, HB.t⟩
  have b0 : (ke != 0) = false := by simp [hk]
  have hr2 := Lib.hid (hr.out.trans (if_neg (by simp [hk])))
  clear hk
  go_wp2_with fail
  refine (HV.out _ HB).mono ?_
  rintro en w2 ⟨rfl, HC⟩
  by_cases hx : xe = 0
  case neg =>
    have b1 : (xe != 0) = true := bne_iff_ne.2 hx
    have hr3 := Lib.hid (hr2.out.trans (if_pos hx))
    clear hx
    go_wp2
    go_ret3
    rw [hr3.out]
    exact ⟨rfl, HC.t⟩
  have b1 : (xe != 0) = false := by simp [hx]
  have hr3 := Lib.hid (hr2.out.trans (if_neg (by simp [hx])))
  clear hx
  go_wp2
  go_ret3
  rw [hr3.out]
  exact ⟨rfl, HC.t⟩
end
end Go.Proofs.Ytflgfbffglmmeaa
