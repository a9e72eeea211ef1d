/-
  Headers of records, written and read; which records may be.
-/
import Derived.Test.YtflgfbffglmmeaaCtl2
import Derived.Test.YtflgfbffglmmeaaOpenBlob
import Derived.Test.YtflgfbffglmmeaaTot
namespace Go.Proofs.Ytflgfbffglmmeaa
open Go.RowKit
set_option linter.unusedVariables false
set_option linter.unusedSimpArgs false
theorem rows_cel {α : Type} {K : World → α → List Value → Prop} {sz : Nat} {F : List Asn} {w : World} {b : Nat} {cs : Array Value} {t : TypeId} {ts : List α} (H : Hd (Cel b cs t :: F) w) (he : Elems K sz w ts cs.toList) : Rows K sz w (some ⟨b, 0, none⟩) ts := by
  intro _
  refine ⟨b, 0, rfl, fun i hi => ?_⟩
  obtain ⟨c, h1, h2, h3⟩ := he.2 i hi
  refine ⟨c, h1, h2, fun j u hu => ?_⟩
  rw [H.c, Nat.zero_add]
  have := h3 j u hu
  simpa using this
theorem rows_blob1 {F : List Asn} {w : World} {b : Nat} {t : TypeId} {x : Blob} (H : Hd (Cel b #[.bool x.nu, .string (toS x.d)] t :: F) w) : Rows KBlob 2 w (some ⟨b, 0, none⟩) [x] :=
  rows_cel H (Elems.nil.snoc (cs := [.bool x.nu, .string (toS x.d)]) rfl rfl)
theorem rows_blob2 {F : List Asn} {w : World} {b : Nat} {t : TypeId} {x y : Blob} (H : Hd (Cel b #[.bool x.nu, .string (toS x.d), .bool y.nu, .string (toS y.d)] t :: F) w) : Rows KBlob 2 w (some ⟨b, 0, none⟩) [x, y] :=
  rows_cel H ((Elems.nil.snoc (cs := [.bool x.nu, .string (toS x.d)]) (t := x) rfl rfl).snoc (cs := [.bool y.nu, .string (toS y.d)]) rfl rfl)
theorem all_take_succ {α : Type} (p : α → Bool) (l : List α) (k : Nat) (h : k < l.length) : (l.take (k + 1)).all p = ((l.take k).all p && p l[k]) := by
  rw [List.take_succ_eq_append_getElem h, List.all_append]; simp
theorem all_false_at {α : Type} (p : α → Bool) (l : List α) (k : Nat) (h : k < l.length) (hp : p l[k] = false) : l.all p = false := by
  cases hq : l.all p
  · rfl
  · have := List.all_eq_true.1 hq l[k] (List.getElem_mem h)
    rw [hp] at this; cases this
section
variable {F : List Asn} {w : World} {g : Nat} {o : OSt} {i : ISt}
set_option maxRecDepth 100000 in
set_option maxHeartbeats 400000 in
theorem rights_calls (bs : List Blob) (A : Option Addr) (c : Nat) (hl : bs.length ≤ 140737488355328) (hr : ∀ w', Hd F w' → Rows KBlob 2 w' A bs) (H : Hd F w) :
    Calls Try.prog 184 #[.slice A bs.length c] w fun en w' => en = .returned (.bool (bs.all Blob.right)) ∧ Hd F w' := by
  replace hr := Lib.hid hr
  go_enter Try.func184, Try.ntmps184
  go_wp2_with fail
  go_loopw [7] (fun y wr => ∃ k : Nat, k ≤ bs.length ∧ y = .int .i64 k ∧ Hid ((bs.take k).all Blob.right = true) ∧ Hd F wr) (fun y _ => bs.length - (intOf y).toNat)
  case atStart => exact ⟨0, Nat.zero_le _, rfl, Lib.hid rfl, H⟩
  case round =>
    obtain ⟨k, hk, rfl, HN, HW⟩ := hrel
    by_cases hlt : k < bs.length
    · obtain ⟨b, off, rfl, hc⟩ := (hr.out wr HW) (by intro h; simp [h] at hlt)
      obtain ⟨cs, _, hcs, hcc⟩ := hc k hlt
      have hcell0 : wr.cell? ⟨b, off + k * 2, none⟩ = some (.bool bs[k].nu) := by have := hcc 0 (.bool bs[k].nu) (by rw [hcs]; rfl); simpa using this
      have hcell1 : wr.cell? ⟨b, off + k * 2 + 1, none⟩ = some (.string (toS bs[k].d)) := hcc 1 (.string (toS bs[k].d)) (by rw [hcs]; rfl)
      clear hc hcc hcs
      have HT := Lib.hid (all_take_succ Blob.right bs k hlt)
      have HF := Lib.hid (all_false_at Blob.right bs k hlt)
      generalize bs[k] = x at hcell0 hcell1 HT HF
      have HZ := HW.alloc #[.bool x.nu, .string (toS x.d)] 28
      have cz := HZ.c
      have HB := bright_calls x HZ
      cases hx : x.right
      · rw [hx] at HB
        replace HB := Lib.hid HB
        have HF2 := Lib.hid (HF.out hx)
        clear hx
        go_wp2_with fail
        refine HB.out.mono ?_
        rintro en w2 ⟨rfl, HY⟩
        go_wp2
        go_ret
        rw [HF2.out]
        exact ⟨rfl, HY.t⟩
      · rw [hx] at HB
        replace HB := Lib.hid HB
        have HT2 := Lib.hid (show (bs.take (k + 1)).all Blob.right = true by rw [HT.out, HN.out, hx]; rfl)
        clear hx
        go_wp2_with fail
        refine HB.out.mono ?_
        rintro en w2 ⟨rfl, HY⟩
        go_wp2
        go_roundw
        case rel => exact ⟨k + 1, hlt, by go_num, HT2, HY.t⟩
        case measure => simp [intOf]; omega
    · obtain rfl : k = bs.length := by omega
      rw [List.take_length] at HN
      go_wp2
      go_ret
      rw [HN.out]
      exact ⟨rfl, HW⟩
end
end Go.Proofs.Ytflgfbffglmmeaa
