/-
  Which requests there are; which names there may be.
-/
import Derived.Test.YtflgfbffglmmeaaBlob
import Derived.Great.BuildSlice
import Derived.Deep.WholeRow
namespace Go.Proofs.Ytflgfbffglmmeaa
open Go.RowKit
set_option linter.unusedVariables false
set_option linter.unusedSimpArgs false

structure VRow where
  kind : Int
  name : List UInt8
  least : Int
  most : Int
def VRow.cells (r : VRow) : Array Value := #[.int .i64 r.kind, .string (toS r.name), .int .i64 r.least, .int .i64 r.most]
def vtab : List VRow := [⟨0, [112, 114, 111, 100, 117, 99, 101], 3, 4⟩, ⟨22, [98, 101, 103, 105, 110], 0, 1⟩, ⟨24, [97, 100, 100], 0, 0⟩, ⟨26, [101, 110, 100], 0, 0⟩, ⟨27, [109, 97, 114, 107], 0, 1⟩]
def vnone : VRow := ⟨0, [], 0, 0⟩
def vfind (kind : Int) : VRow × Bool :=
  if kind = 0 then (⟨0, [112, 114, 111, 100, 117, 99, 101], 3, 4⟩, true) else if kind = 22 then (⟨22, [98, 101, 103, 105, 110], 0, 1⟩, true) else if kind = 24 then (⟨24, [97, 100, 100], 0, 0⟩, true)
  else if kind = 26 then (⟨26, [101, 110, 100], 0, 0⟩, true) else if kind = 27 then (⟨27, [109, 97, 114, 107], 0, 1⟩, true) else (vnone, false)
def vcheck (kind version : Int) : Int := if (vfind kind).2 = false then 12 else if version < (vfind kind).1.least ∨ (vfind kind).1.most < version then 7 else 0
def vtabA : Array Value := #[.int .i64 0, .string (toS [112, 114, 111, 100, 117, 99, 101]), .int .i64 3, .int .i64 4, .int .i64 22, .string (toS [98, 101, 103, 105, 110]), .int .i64 0, .int .i64 1,
  .int .i64 24, .string (toS [97, 100, 100]), .int .i64 0, .int .i64 0, .int .i64 26, .string (toS [101, 110, 100]), .int .i64 0, .int .i64 0, .int .i64 27, .string (toS [109, 97, 114, 107]), .int .i64 0, .int .i64 1]
theorem vnot_next (kind : Int) (n : Nat) (x : Int) (hx : (vtab.map VRow.kind)[n]? = some x) (hne : ¬ kind = x) (h : ∀ j : Nat, (j : Int) < (n : Int) → (vtab.map VRow.kind)[j]? ≠ some kind) : ∀ j : Nat, (j : Int) < (n : Int) + 1 → (vtab.map VRow.kind)[j]? ≠ some kind := by
  intro j hj
  by_cases hjn : j = n
  · subst hjn
    rw [hx]
    intro e
    exact hne (Option.some.inj e).symm
  · exact h j (by omega)
section
variable {F : List Asn} {w : World}
set_option maxRecDepth 100000 in
set_option maxRecDepth 100000 in
set_option maxHeartbeats 400000 in
theorem vtable_calls (H : Hd F w) : Calls Try.prog 186 #[] w fun en w' => en = .returned (.agg vtabA) ∧ Hd F w' := by
  have hs := run_storeCells_new (P := Try.prog) w 275 #[Value.int .i64 0, .string ⟨#[]⟩, .int .i64 0, .int .i64 0, Value.int .i64 0, .string ⟨#[]⟩, .int .i64 0, .int .i64 0, Value.int .i64 0, .string ⟨#[]⟩, .int .i64 0, .int .i64 0, Value.int .i64 0, .string ⟨#[]⟩, .int .i64 0, .int .i64 0, Value.int .i64 0, .string ⟨#[]⟩, .int .i64 0, .int .i64 0] vtabA (by kernel_rfl) rfl (by kernel_rfl)
  go_enter Try.func186, Try.ntmps186
  go_wp2_with (refine wpList_buildTo rfl 275 _ rfl (some 6) rfl vtabA (by kernel_rfl) ?_)
  refine bodyPost_ret (v := .agg vtabA) (by simp [results, Try.results186]; rw [show Sem.run Try.prog (asAddr (.pointer (some ⟨w.heap.size, 0, none⟩))) (w.alloc (.cells vtabA 275)) = .ok ⟨w.heap.size, 0, none⟩ (w.alloc (.cells vtabA 275)) from rfl, Result.andThen_ok]; exact run_loadVar_new (P := Try.prog) w 275 vtabA 5 _ Try.underlying275 (by kernel_rfl)) rfl ⟨rfl, ?_⟩
  exact H.allocO _
set_option maxRecDepth 100000 in
set_option maxHeartbeats 400000 in
theorem vfind_calls (kind : Int) (H : Hd F w) : Calls Try.prog 149 #[.int .i64 kind] w fun en w' => en = .returned (.tuple #[.agg (vfind kind).1.cells, .bool (vfind kind).2]) ∧ Hd F w' := by
  have HA := H.alloc #[.int .i64 0, .string (toS []), .int .i64 0, .int .i64 0] 229
  have hcase : kind = 0 ∨ kind = 22 ∨ kind = 24 ∨ kind = 26 ∨ kind = 27 ∨ (kind ≠ 0 ∧ kind ≠ 22 ∧ kind ≠ 24 ∧ kind ≠ 26 ∧ kind ≠ 27) := by omega
  go_enter Try.func149, Try.ntmps149
  go_wp2_with fail
  refine (vtable_calls HA).mono ?_
  rintro en w1 ⟨rfl, HB⟩
  have c0 := HB.c 0
  have z0 := HB.z 0
  unfold vtabA
  go_wp2_with fail
  go_loopw [7] (fun y wr => ∃ (k : Int), 0 ≤ k ∧ k ≤ 5 ∧ y = .int .i64 k ∧ Hid (∀ j : Nat, (j : Int) < k → (vtab.map VRow.kind)[j]? ≠ some kind) ∧ Hd (Cel w.heap.size #[.int .i64 0, .string (toS []), .int .i64 0, .int .i64 0] 229 :: F) wr) (fun y _ => 5 - (intOf y).toNat)
  case atStart => exact ⟨0, by omega, by omega, rfl, Lib.hid (by intro j hj; omega), HB⟩
  case round =>
    obtain ⟨k, hk0, hk, rfl, HN, HW⟩ := hrel
    have c0 : wr.cell? ⟨w.heap.size, 0, none⟩ = some (.int .i64 0) := HW.c 0
    have c1 : wr.cell? ⟨w.heap.size, 1, none⟩ = some (.string (toS [])) := HW.c 1
    have c2 : wr.cell? ⟨w.heap.size, 2, none⟩ = some (.int .i64 0) := HW.c 2
    have c3 : wr.cell? ⟨w.heap.size, 3, none⟩ = some (.int .i64 0) := HW.c 3
    have z0 := HW.z 0
    have z1 := HW.z 1
    have z2 := HW.z 2
    have z3 := HW.z 3
    have hlt := blk_lt HW.blk
    have hty : (Try.prog.types[229]'(of_decide_eq_true (by kernel_rfl))).size = 4 := by kernel_rfl
    clear hcase
    have hk5 : k = 0 ∨ k = 1 ∨ k = 2 ∨ k = 3 ∨ k = 4 ∨ k = 5 := by omega
    rcases hk5 with rfl | rfl | rfl | rfl | rfl | rfl
    · have hex : (#[Value.int .i64 0, Value.string (toS [112, 114, 111, 100, 117, 99, 101]), Value.int .i64 3, Value.int .i64 4, Value.int .i64 22, Value.string (toS [98, 101, 103, 105, 110]), Value.int .i64 0, Value.int .i64 1, Value.int .i64 24, Value.string (toS [97, 100, 100]), Value.int .i64 0, Value.int .i64 0, Value.int .i64 26, Value.string (toS [101, 110, 100]), Value.int .i64 0, Value.int .i64 0, Value.int .i64 27, Value.string (toS [109, 97, 114, 107]), Value.int .i64 0, Value.int .i64 1]).extract (Int.toNat 0 * 4) (Int.toNat 0 * 4 + 4) = #[Value.int .i64 0, Value.string (toS [112, 114, 111, 100, 117, 99, 101]), Value.int .i64 3, Value.int .i64 4] := rfl
      have HE := Lib.hid hex
      clear hex
      by_cases h : kind = 0
      · subst h
        go_wp2
        rename_i hK
        refine hK _ _ ?_
        clear hK
        simp only [hty]
        rw [HE.out]
        go_wp2
        have HZ := ((((HW.set 0 (.int .i64 0)).set 1 (.string (toS [112, 114, 111, 100, 117, 99, 101]))).set 2 (.int .i64 3)).set 3 (.int .i64 4)).alloc #[.int .i64 0, .string (toS [112, 114, 111, 100, 117, 99, 101]), .int .i64 3, .int .i64 4] 229
        have e0 := HZ.t.c 0
        have e1 := HZ.t.c 1
        have e2 := HZ.t.c 2
        have e3 := HZ.t.c 3
        simp at e0 e1 e2 e3
        refine bodyPost_ret (v := .tuple #[.agg (vfind 0).1.cells, .bool (vfind 0).2]) (by simp [results, Try.results149, go_sem, e0, e1, e2, e3]; exact ⟨rfl, rfl⟩) rfl ⟨rfl, HZ.t.t⟩
      · have hb : ((0 : Int) == kind) = false := by simp; omega
        go_wp2
        rename_i hK
        refine hK _ _ ?_
        clear hK
        simp only [hty]
        rw [HE.out]
        go_wp2
        go_roundw
        case rel => exact ⟨1, by omega, by omega, by go_num, Lib.hid (vnot_next kind 0 0 rfl h HN.out), (HW.alloc #[.int .i64 0, .string (toS [112, 114, 111, 100, 117, 99, 101]), .int .i64 3, .int .i64 4] 229).t⟩
        case measure => simp [intOf]
    · have hex : (#[Value.int .i64 0, Value.string (toS [112, 114, 111, 100, 117, 99, 101]), Value.int .i64 3, Value.int .i64 4, Value.int .i64 22, Value.string (toS [98, 101, 103, 105, 110]), Value.int .i64 0, Value.int .i64 1, Value.int .i64 24, Value.string (toS [97, 100, 100]), Value.int .i64 0, Value.int .i64 0, Value.int .i64 26, Value.string (toS [101, 110, 100]), Value.int .i64 0, Value.int .i64 0, Value.int .i64 27, Value.string (toS [109, 97, 114, 107]), Value.int .i64 0, Value.int .i64 1]).extract (Int.toNat 1 * 4) (Int.toNat 1 * 4 + 4) = #[Value.int .i64 22, Value.string (toS [98, 101, 103, 105, 110]), Value.int .i64 0, Value.int .i64 1] := rfl
      have HE := Lib.hid hex
      clear hex
      by_cases h : kind = 22
      · subst h
        go_wp2
        rename_i hK
        refine hK _ _ ?_
        clear hK
        simp only [hty]
        rw [HE.out]
        go_wp2
        have HZ := ((((HW.set 0 (.int .i64 22)).set 1 (.string (toS [98, 101, 103, 105, 110]))).set 2 (.int .i64 0)).set 3 (.int .i64 1)).alloc #[.int .i64 22, .string (toS [98, 101, 103, 105, 110]), .int .i64 0, .int .i64 1] 229
        have e0 := HZ.t.c 0
        have e1 := HZ.t.c 1
        have e2 := HZ.t.c 2
        have e3 := HZ.t.c 3
        simp at e0 e1 e2 e3
        refine bodyPost_ret (v := .tuple #[.agg (vfind 22).1.cells, .bool (vfind 22).2]) (by simp [results, Try.results149, go_sem, e0, e1, e2, e3]; exact ⟨rfl, rfl⟩) rfl ⟨rfl, HZ.t.t⟩
      · have hb : ((22 : Int) == kind) = false := by simp; omega
        go_wp2
        rename_i hK
        refine hK _ _ ?_
        clear hK
        simp only [hty]
        rw [HE.out]
        go_wp2
        go_roundw
        case rel => exact ⟨2, by omega, by omega, by go_num, Lib.hid (vnot_next kind 1 22 rfl h HN.out), (HW.alloc #[.int .i64 22, .string (toS [98, 101, 103, 105, 110]), .int .i64 0, .int .i64 1] 229).t⟩
        case measure => simp [intOf]
    · have hex : (#[Value.int .i64 0, Value.string (toS [112, 114, 111, 100, 117, 99, 101]), Value.int .i64 3, Value.int .i64 4, Value.int .i64 22, Value.string (toS [98, 101, 103, 105, 110]), Value.int .i64 0, Value.int .i64 1, Value.int .i64 24, Value.string (toS [97, 100, 100]), Value.int .i64 0, Value.int .i64 0, Value.int .i64 26, Value.string (toS [101, 110, 100]), Value.int .i64 0, Value.int .i64 0, Value.int .i64 27, Value.string (toS [109, 97, 114, 107]), Value.int .i64 0, Value.int .i64 1]).extract (Int.toNat 2 * 4) (Int.toNat 2 * 4 + 4) = #[Value.int .i64 24, Value.string (toS [97, 100, 100]), Value.int .i64 0, Value.int .i64 0] := rfl
      have HE := Lib.hid hex
      clear hex
      by_cases h : kind = 24
      · subst h
        go_wp2
        rename_i hK
        refine hK _ _ ?_
        clear hK
        simp only [hty]
        rw [HE.out]
        go_wp2
        have HZ := ((((HW.set 0 (.int .i64 24)).set 1 (.string (toS [97, 100, 100]))).set 2 (.int .i64 0)).set 3 (.int .i64 0)).alloc #[.int .i64 24, .string (toS [97, 100, 100]), .int .i64 0, .int .i64 0] 229
        have e0 := HZ.t.c 0
        have e1 := HZ.t.c 1
        have e2 := HZ.t.c 2
        have e3 := HZ.t.c 3
        simp at e0 e1 e2 e3
        refine bodyPost_ret (v := .tuple #[.agg (vfind 24).1.cells, .bool (vfind 24).2]) (by simp [results, Try.results149, go_sem, e0, e1, e2, e3]; exact ⟨rfl, rfl⟩) rfl ⟨rfl, HZ.t.t⟩
      · have hb : ((24 : Int) == kind) = false := by simp; omega
        go_wp2
        rename_i hK
        refine hK _ _ ?_
        clear hK
        simp only [hty]
        rw [HE.out]
        go_wp2
        go_roundw
        case rel => exact ⟨3, by omega, by omega, by go_num, Lib.hid (vnot_next kind 2 24 rfl h HN.out), (HW.alloc #[.int .i64 24, .string (toS [97, 100, 100]), .int .i64 0, .int .i64 0] 229).t⟩
        case measure => simp [intOf]
    · have hex : (#[Value.int .i64 0, Value.string (toS [112, 114, 111, 100, 117, 99, 101]), Value.int .i64 3, Value.int .i64 4, Value.int .i64 22, Value.string (toS [98, 101, 103, 105, 110]), Value.int .i64 0, Value.int .i64 1, Value.int .i64 24, Value.string (toS [97, 100, 100]), Value.int .i64 0, Value.int .i64 0, Value.int .i64 26, Value.string (toS [101, 110, 100]), Value.int .i64 0, Value.int .i64 0, Value.int .i64 27, Value.string (toS [109, 97, 114, 107]), Value.int .i64 0, Value.int .i64 1]).extract (Int.toNat 3 * 4) (Int.toNat 3 * 4 + 4) = #[Value.int .i64 26, Value.string (toS [101, 110, 100]), Value.int .i64 0, Value.int .i64 0] := rfl
      have HE := Lib.hid hex
      clear hex
      by_cases h : kind = 26
      · subst h
        go_wp2
        rename_i hK
        refine hK _ _ ?_
        clear hK
        simp only [hty]
        rw [HE.out]
        go_wp2
        have HZ := ((((HW.set 0 (.int .i64 26)).set 1 (.string (toS [101, 110, 100]))).set 2 (.int .i64 0)).set 3 (.int .i64 0)).alloc #[.int .i64 26, .string (toS [101, 110, 100]), .int .i64 0, .int .i64 0] 229
        have e0 := HZ.t.c 0
        have e1 := HZ.t.c 1
        have e2 := HZ.t.c 2
        have e3 := HZ.t.c 3
        simp at e0 e1 e2 e3
        refine bodyPost_ret (v := .tuple #[.agg (vfind 26).1.cells, .bool (vfind 26).2]) (by simp [results, Try.results149, go_sem, e0, e1, e2, e3]; exact ⟨rfl, rfl⟩) rfl ⟨rfl, HZ.t.t⟩
      · have hb : ((26 : Int) == kind) = false := by simp; omega
        go_wp2
        rename_i hK
        refine hK _ _ ?_
        clear hK
        simp only [hty]
        rw [HE.out]
        go_wp2
        go_roundw
        case rel => exact ⟨4, by omega, by omega, by go_num, Lib.hid (vnot_next kind 3 26 rfl h HN.out), (HW.alloc #[.int .i64 26, .string (toS [101, 110, 100]), .int .i64 0, .int .i64 0] 229).t⟩
        case measure => simp [intOf]
    · have hex : (#[Value.int .i64 0, Value.string (toS [112, 114, 111, 100, 117, 99, 101]), Value.int .i64 3, Value.int .i64 4, Value.int .i64 22, Value.string (toS [98, 101, 103, 105, 110]), Value.int .i64 0, Value.int .i64 1, Value.int .i64 24, Value.string (toS [97, 100, 100]), Value.int .i64 0, Value.int .i64 0, Value.int .i64 26, Value.string (toS [101, 110, 100]), Value.int .i64 0, Value.int .i64 0, Value.int .i64 27, Value.string (toS [109, 97, 114, 107]), Value.int .i64 0, Value.int .i64 1]).extract (Int.toNat 4 * 4) (Int.toNat 4 * 4 + 4) = #[Value.int .i64 27, Value.string (toS [109, 97, 114, 107]), Value.int .i64 0, Value.int .i64 1] := rfl
      have HE := Lib.hid hex
      clear hex
      by_cases h : kind = 27
      · subst h
        go_wp2
        rename_i hK
        refine hK _ _ ?_
        clear hK
        simp only [hty]
        rw [HE.out]
        go_wp2
        have HZ := ((((HW.set 0 (.int .i64 27)).set 1 (.string (toS [109, 97, 114, 107]))).set 2 (.int .i64 0)).set 3 (.int .i64 1)).alloc #[.int .i64 27, .string (toS [109, 97, 114, 107]), .int .i64 0, .int .i64 1] 229
        have e0 := HZ.t.c 0
        have e1 := HZ.t.c 1
        have e2 := HZ.t.c 2
        have e3 := HZ.t.c 3
        simp at e0 e1 e2 e3
        refine bodyPost_ret (v := .tuple #[.agg (vfind 27).1.cells, .bool (vfind 27).2]) (by simp [results, Try.results149, go_sem, e0, e1, e2, e3]; exact ⟨rfl, rfl⟩) rfl ⟨rfl, HZ.t.t⟩
      · have hb : ((27 : Int) == kind) = false := by simp; omega
        go_wp2
        rename_i hK
        refine hK _ _ ?_
        clear hK
        simp only [hty]
        rw [HE.out]
        go_wp2
        go_roundw
        case rel => exact ⟨5, by omega, by omega, by go_num, Lib.hid (vnot_next kind 4 27 rfl h HN.out), (HW.alloc #[.int .i64 27, .string (toS [109, 97, 114, 107]), .int .i64 0, .int .i64 1] 229).t⟩
        case measure => simp [intOf]
    · have hn0 := HN.out 0 (by omega)
      have hn1 := HN.out 1 (by omega)
      have hn2 := HN.out 2 (by omega)
      have hn3 := HN.out 3 (by omega)
      have hn4 := HN.out 4 (by omega)
      simp [vtab] at hn0 hn1 hn2 hn3 hn4
      have hv : vfind kind = (vnone, false) := by unfold vfind; rw [if_neg (by omega), if_neg (by omega), if_neg (by omega), if_neg (by omega), if_neg (by omega)]
      have HV := Lib.hid hv
      clear hv hn0 hn1 hn2 hn3 hn4
      go_wp2
      have HZ := (((HW.set 0 (.int .i64 0)).set 1 (.string ⟨#[]⟩)).set 2 (.int .i64 0)).set 3 (.int .i64 0)
      have e0 := HZ.c 0
      have e1 := HZ.c 1
      have e2 := HZ.c 2
      have e3 := HZ.c 3
      simp at e0 e1 e2 e3
      rw [HV.out]
      refine bodyPost_ret (v := .tuple #[.agg vnone.cells, .bool false]) (by simp [results, Try.results149, go_sem, e0, e1, e2, e3]; rfl) rfl ⟨rfl, HZ.t⟩
set_option maxHeartbeats 400000 in
theorem vcheck_calls (kind version : Int) (H : Hd F w) : Calls Try.prog 117 #[.int .i64 kind, .int .i64 version] w fun en w' => en = .returned (.int .i64 (vcheck kind version)) ∧ Hd F w' := by
  have hv : vcheck kind version = if (vfind kind).2 = false then 12 else if version < (vfind kind).1.least ∨ (vfind kind).1.most < version then 7 else 0 := rfl
  have HF := vfind_calls kind H
  generalize vfind kind = R at hv HF
  obtain ⟨⟨kd, nm, a, b⟩, ok⟩ := R
  have HV := Lib.hid hv
  clear hv
  have HF2 := Lib.hid HF
  clear HF
  simp only at HV
  go_enter Try.func117, Try.ntmps117
  go_wp2_with fail
  refine HF2.out.mono ?_
  rintro en w1 ⟨rfl, HA⟩
  unfold VRow.cells
  have HB := HA.alloc #[.int .i64 kd, .string (toS nm), .int .i64 a, .int .i64 b] 229
  cases ok
  · go_wp2
    go_ret
    rw [HV.out]
    exact ⟨rfl, HB.t⟩
  · by_cases h1 : version < a
    · have t1 : decide (version < a) = true := decide_eq_true h1
      go_wp2_with fail
      go_ret
      rw [HV.out]
      exact ⟨ret_int (by simp [h1]), HB.t⟩
    · have t1 : decide (version < a) = false := decide_eq_false h1
      by_cases h2 : b < version
      · have t2 : decide (b < version) = true := decide_eq_true h2
        go_wp2_with fail
        go_ret
        rw [HV.out]
        exact ⟨ret_int (by simp [h2]), HB.t⟩
      · have t2 : decide (b < version) = false := decide_eq_false h2
        go_wp2_with fail
        go_ret
        rw [HV.out]
        exact ⟨ret_int (by simp [h1, h2]), HB.t⟩
def kright (l : List UInt8) : Bool := !l.isEmpty && decide (l.length ≤ 32767)
set_option maxHeartbeats 400000 in
theorem kright_calls (l : List UInt8) (w : World) : Calls Try.prog 107 #[.string (toS l)] w fun en w' => en = .returned (.bool (kright l)) ∧ w' = w := by
  have hs : (toS l).size = l.length := toS_size l
  cases he : l.isEmpty
  · have hE : (toS l).toList.isEmpty = false := by rw [toS_list]; exact he
    go_enter Try.func107, Try.ntmps107
    go_wp2
    go_ret
    exact ⟨ret_bool (by unfold kright; rw [he]; simp only [Bool.not_false, Bool.true_and]; exact decide_eq_decide.2 (by omega)), rfl⟩
  · have hE : (toS l).toList.isEmpty = true := by rw [toS_list]; exact he
    go_enter Try.func107, Try.ntmps107
    go_wp2
    go_ret
    exact ⟨ret_bool (by unfold kright; rw [he]; rfl), rfl⟩
end
end Go.Proofs.Ytflgfbffglmmeaa
