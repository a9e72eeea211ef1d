/-
  Headers of records, written and read; which records may be.
-/
import Derived.Test.YtflgfbffglmmeaaHdr
namespace Go.Proofs.Ytflgfbffglmmeaa
open Go.RowKit
set_option linter.unusedVariables false
set_option linter.unusedSimpArgs false
theorem right_val (b : Blob) : (b.right : Bool) = [b].all Blob.right := by simp
section
variable {F : List Asn} {w : World} {g : Nat} {o : OSt} {i : ISt}
set_option maxRecDepth 100000 in
set_option maxHeartbeats 1000000 in
theorem rright_calls (r : Rec) (A : Option Addr) (c : Nat) (h1 : -9223372036854775808 ≤ r.offset) (h2 : r.offset ≤ 9223372036854775807) (hl : r.headers.length ≤ 140737488355328) (hr : ∀ w', Hd F w' → Rows KHdr 3 w' A r.headers) (H : Hd F w) :
    Calls Try.prog 144 #[.agg (r.cells A c)] w fun en w' => en = .returned (.int .i64 r.right) ∧ Hd F w' := by
  have he : r.right = if r.offset < 0 ∨ fitsB r.offset 4 = false then 11 else if (r.key.right && r.value.right) = false then 4 else if r.headers.all (fun h => h.value.right) then 0 else 4 := rfl
  obtain ⟨t, off, key, value, hs⟩ := r
  simp only at h1 h2 hl hr he
  generalize Rec.right ⟨t, off, key, value, hs⟩ = R at he
  replace he := Lib.hid he
  replace hr := Lib.hid hr
  unfold Rec.cells
  simp only
  have HA := H.alloc #[.int .i64 t, .int .i64 off, .bool key.nu, .string (toS key.d), .bool value.nu, .string (toS value.d), .slice A hs.length c] 91
  have ca := HA.c
  by_cases q0 : off < 0
  · have t0 : decide (off < 0) = true := decide_eq_true q0
    have e2 := Lib.hid (he.out.trans (if_pos (.inl q0)))
    clear q0
    go_enter Try.func144, Try.ntmps144
    go_wp2
    go_ret
    rw [e2.out]
    exact ⟨rfl, HA.t⟩
  have t0 : decide (off < 0) = false := decide_eq_false q0
  have HF := fits_calls off 4 (w.alloc (.cells #[.int .i64 t, .int .i64 off, .bool key.nu, .string (toS key.d), .bool value.nu, .string (toS value.d), .slice A hs.length c] 91)) (by omega) h1 h2
  cases hf : fitsB off 4
  · have e2 := Lib.hid (he.out.trans (if_pos (.inr hf)))
    rw [hf] at HF
    replace HF := Lib.hid HF
    clear hf q0
    go_enter Try.func144, Try.ntmps144
    go_wp2_with fail
    refine HF.out.mono ?_
    rintro en w1 ⟨rfl, rfl⟩
    go_wp2
    go_ret
    rw [e2.out]
    exact ⟨rfl, HA.t⟩
  have e2 := Lib.hid (he.out.trans (if_neg (by rw [hf]; simp; omega)))
  rw [hf] at HF
  replace HF := Lib.hid HF
  clear hf q0
  have HB := HA.alloc #[.bool key.nu, .string (toS key.d), .bool value.nu, .string (toS value.d)] 28
  simp only [World.size_alloc] at HB
  have HR := rights_calls [key, value] (some ⟨w.heap.size + 1, 0, none⟩) 2 (by simp) (fun w' h => rows_blob2 h) HB
  rw [show [key, value].all Blob.right = (key.right && value.right) by simp] at HR
  cases hkv : (key.right && value.right)
  · have e3 := Lib.hid (e2.out.trans (if_pos hkv))
    rw [hkv] at HR
    replace HR := Lib.hid HR
    clear hkv
    go_enter Try.func144, Try.ntmps144
    go_wp2_with fail
    refine HF.out.mono ?_
    rintro en w1 ⟨rfl, rfl⟩
    go_wp2_with fail
    refine HR.out.mono ?_
    rintro en w2 ⟨rfl, HC⟩
    go_wp2
    go_ret
    rw [e3.out]
    exact ⟨rfl, HC.t.t⟩
  have e3 := Lib.hid (e2.out.trans (if_neg (by rw [hkv]; decide)))
  rw [hkv] at HR
  replace HR := Lib.hid HR
  clear hkv
  go_enter Try.func144, Try.ntmps144
  go_wp2_with fail
  refine HF.out.mono ?_
  rintro en w1 ⟨rfl, rfl⟩
  go_wp2_with fail
  refine HR.out.mono ?_
  rintro en w2 ⟨rfl, HC⟩
  clear ca
  have ca := HC.t.c
  go_wp2_with fail
  go_loopw [24] (fun y wr => ∃ k : Nat, k ≤ hs.length ∧ y = .int .i64 k ∧ Hid ((hs.take k).all (fun h => h.value.right) = true) ∧ Hd F wr) (fun y _ => hs.length - (intOf y).toNat)
  case atStart => exact ⟨0, Nat.zero_le _, rfl, Lib.hid rfl, HC.t.t⟩
  case round =>
    obtain ⟨k, hk, rfl, HN, HW⟩ := hrel
    by_cases hlt : k < hs.length
    · obtain ⟨b, ofs, rfl, hc⟩ := (hr.out wr HW) (by intro h; simp [h] at hlt)
      obtain ⟨cs, _, hcs, hcc⟩ := hc k hlt
      have hcell0 : wr.cell? ⟨b, ofs + k * 3, none⟩ = some (.string (toS hs[k].key)) := by have := hcc 0 (.string (toS hs[k].key)) (by rw [hcs]; rfl); simpa using this
      have hcell1 : wr.cell? ⟨b, ofs + k * 3 + 1, none⟩ = some (.bool hs[k].value.nu) := hcc 1 (.bool hs[k].value.nu) (by rw [hcs]; rfl)
      have hcell2 : wr.cell? ⟨b, ofs + k * 3 + 2, none⟩ = some (.string (toS hs[k].value.d)) := hcc 2 (.string (toS hs[k].value.d)) (by rw [hcs]; rfl)
      clear hc hcc hcs
      have HT := Lib.hid (all_take_succ (fun h : Hdr => h.value.right) hs k hlt)
      have HF2 := Lib.hid (all_false_at (fun h : Hdr => h.value.right) hs k hlt)
      generalize hs[k] = x at hcell0 hcell1 hcell2 HT HF2
      have HZ := (HW.alloc #[.string (toS x.key), .bool x.value.nu, .string (toS x.value.d)] 98)
      have cz := HZ.c
      have HY := HZ.alloc #[.bool x.value.nu, .string (toS x.value.d)] 28
      simp only [World.size_alloc] at HY
      have HB := rights_calls [x.value] (some ⟨wr.heap.size + 1, 0, none⟩) 1 (by simp) (fun w' h => rows_blob1 h) HY
      rw [← right_val] at HB
      cases hx : x.value.right
      · rw [hx] at HB
        replace HB := Lib.hid HB
        have HF3 := Lib.hid (e3.out.trans (if_neg (by rw [HF2.out hx]; decide)))
        clear hx
        go_wp2_with fail
        refine HB.out.mono ?_
        rintro en w3 ⟨rfl, HX⟩
        go_wp2
        go_ret
        rw [HF3.out]
        exact ⟨rfl, HX.t.t⟩
      · rw [hx] at HB
        replace HB := Lib.hid HB
        have HT2 := Lib.hid (show (hs.take (k + 1)).all (fun h => h.value.right) = true by rw [HT.out, HN.out, hx]; rfl)
        clear hx
        go_wp2_with fail
        refine HB.out.mono ?_
        rintro en w3 ⟨rfl, HX⟩
        go_wp2
        go_roundw
        case rel => exact ⟨k + 1, hlt, by go_num, HT2, HX.t.t⟩
        case measure => simp [intOf]; omega
    · obtain rfl : k = hs.length := by omega
      rw [List.take_length] at HN
      have e4 := Lib.hid (e3.out.trans (if_pos HN.out))
      go_wp2
      go_ret
      rw [e4.out]
      exact ⟨rfl, HW⟩
end
end Go.Proofs.Ytflgfbffglmmeaa
