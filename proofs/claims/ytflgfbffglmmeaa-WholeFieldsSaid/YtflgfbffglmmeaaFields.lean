/-
  The law WholeFields: its walks.
-/
import Derived.Test.YtflgfbffglmmeaaOpenBlob
import Derived.Deep.RegionHeld3
namespace Go.Proofs.Ytflgfbffglmmeaa
open Go.RowKit
set_option linter.unusedVariables false
set_option linter.unusedSimpArgs false

def KInt (_ : World) (n : Int) (cs : List Value) : Prop := cs = [.int .i64 n]


def rdN : List Int → Bool → ISt → Bool × ISt
  | [], ok, i => (ok, i)
  | n :: t, ok, i => rdN t (decide (i.varV 64 = n) && ok) (i.varS 64)
def rdB : List Blob → Bool → ISt → Bool × ISt
  | [], ok, i => (ok, i)
  | b :: t, ok, i => rdB t (decide (i.varBS.fixB 2 = b) && (decide (i.varB = b) && ok)) (i.varBS.fixBS 2)
def rdAll (ns : List Int) (bs : List Blob) (i : ISt) : Bool × ISt :=
  rdB bs (rdN ns (decide (i.varV 64 = -1)) (i.varS 64)).1 (rdN ns (decide (i.varV 64 = -1)) (i.varS 64)).2

set_option maxHeartbeats 1000000 in
theorem read_calls {F : List Asn} {w : World} {g p3 p4 : Nat} {i : ISt} {A1 A2 : Option Addr} {c1 c2 : Nat} (ns : List Int) (bs : List Blob) (hn : ns.length ≤ 40) (hb : bs.length ≤ 40)
    (H : Hd (Inp g i :: Cel p3 #[.slice A1 ns.length c1] 66 :: Cel p4 #[.slice A2 bs.length c2] 67 :: F) w)
    (h1 : ∀ w', Hd F w' → Rows KInt 1 w' A1 ns) (h2 : ∀ w', Hd F w' → Rows KBlob 2 w' A2 bs) :
    Calls Try.prog 34 #[.pointer (some ⟨g, 0, none⟩), .pointer (some ⟨p3, 0, none⟩), .pointer (some ⟨p4, 0, none⟩)] w fun en w' => en = .returned (.bool (rdAll ns bs i).1) ∧
      Hd (Inp g (rdAll ns bs i).2 :: Cel p3 #[.slice A1 ns.length c1] 66 :: Cel p4 #[.slice A2 bs.length c2] 67 :: F) w' := by
  have H1 := Lib.hid h1; clear h1
  have H2 := Lib.hid h2; clear h2
  go_enter Try.func34, Try.ntmps34
  go_wp2_with fail
  refine (long_calls H).mono ?_
  rintro en w1 ⟨rfl, HA⟩
  have c3 : w1.cell? ⟨p3, 0, none⟩ = some (.slice A1 ns.length c1) := HA.t.c 0
  have hbe : ((i.varV 64 == -1) : Bool) = decide (i.varV 64 = -1) := rfl
  go_wp2_with fail
  go_loopw [5, 15] (fun x y wr => ∃ (k : Nat) (ok : Bool) (j : ISt), k ≤ ns.length ∧ x = .bool ok ∧ y = .int .i64 k ∧ Hid (rdN (ns.drop k) ok j = rdN ns (decide (i.varV 64 = -1)) (i.varS 64)) ∧
      Hd (Inp g j :: Cel p3 #[.slice A1 ns.length c1] 66 :: Cel p4 #[.slice A2 bs.length c2] 67 :: F) wr) (fun _ y _ => ns.length - (intOf y).toNat)
  case atStart => exact ⟨0, _, _, Nat.zero_le _, rfl, rfl, Lib.hid rfl, HA⟩
  case round =>
    obtain ⟨k, ok, j, hk, rfl, rfl, HR, HW⟩ := hrel
    by_cases hlt : k < ns.length
    · obtain ⟨b, off, rfl, hc⟩ := (H1.out wr HW.t.t.t) (by intro h; simp [h] at hlt)
      obtain ⟨cs, _, hcs, hcc⟩ := hc k hlt
      have hcell : wr.cell? ⟨b, off + k, none⟩ = some (.int .i64 ns[k]) := by have := hcc 0 (.int .i64 ns[k]) (by rw [hcs]; rfl); simpa using this
      clear hc hcc hcs
      have hdrop : ns.drop k = ns[k] :: ns.drop (k + 1) := List.drop_eq_getElem_cons hlt
      obtain ⟨x, hx⟩ : ∃ x, x = ns[k] := ⟨_, rfl⟩
      rw [← hx] at hcell hdrop
      have HD := Lib.hid hdrop; clear hdrop hx
      have HR2 : Hid (rdN (ns.drop (k + 1)) (decide (j.varV 64 = x) && ok) (j.varS 64) = rdN ns (decide (i.varV 64 = -1)) (i.varS 64)) := by
        have h := HR.out
        rw [HD.out] at h
        exact Lib.hid h
      by_cases hv : j.varV 64 = x
      · have hbe2 : ((j.varV 64 == x) : Bool) = true := beq_iff_eq.2 hv
        go_wp2_with fail
        refine (long_calls HW).mono ?_
        rintro en w2 ⟨rfl, HB⟩
        go_wp2
        go_roundw
        case rel => exact ⟨k + 1, ok, _, hlt, rfl, by go_num, by simpa [hv] using HR2, HB⟩
        case measure => simp [intOf]; omega
      · have hbe2 : ((j.varV 64 == x) : Bool) = false := beq_eq_false_iff_ne.2 hv
        go_wp2_with fail
        refine (long_calls HW).mono ?_
        rintro en w2 ⟨rfl, HB⟩
        go_wp2
        go_roundw
        case rel => exact ⟨k + 1, false, _, hlt, rfl, by go_num, by simpa [hv] using HR2, HB⟩
        case measure => simp [intOf]; omega
    · have c4 : wr.cell? ⟨p4, 0, none⟩ = some (.slice A2 bs.length c2) := HW.t.t.c 0
      have HR3 : Hid ((ok, j) = rdN ns (decide (i.varV 64 = -1)) (i.varS 64)) := by
        have h := HR.out
        rw [show ns.drop k = [] from List.drop_of_length_le (by omega)] at h
        exact Lib.hid h
      clear HR
      go_wp2_with fail
      go_loopw [5, 29] (fun x y wr => ∃ (k : Nat) (ok2 : Bool) (j2 : ISt), k ≤ bs.length ∧ x = .bool ok2 ∧ y = .int .i64 k ∧ Hid (rdB (bs.drop k) ok2 j2 = rdB bs ok j) ∧
          Hd (Inp g j2 :: Cel p3 #[.slice A1 ns.length c1] 66 :: Cel p4 #[.slice A2 bs.length c2] 67 :: F) wr) (fun _ y _ => bs.length - (intOf y).toNat)
      case atStart => exact ⟨0, _, _, Nat.zero_le _, rfl, rfl, Lib.hid rfl, HW⟩
      case round =>
        obtain ⟨k, ok2, j2, hk, rfl, rfl, HR, HV⟩ := hrel
        by_cases hlt : k < bs.length
        · obtain ⟨b, off, rfl, hc⟩ := (H2.out wr HV.t.t.t) (by intro h; simp [h] at hlt)
          obtain ⟨cs, _, hcs, hcc⟩ := hc k hlt
          have hcell0 : wr.cell? ⟨b, off + k * 2, none⟩ = some (.bool bs[k].nu) := by have := hcc 0 (.bool bs[k].nu) (by rw [hcs]; rfl); simpa using this
          have hcell1 : wr.cell? ⟨b, off + k * 2 + 1, none⟩ = some (.string (toS bs[k].d)) := hcc 1 (.string (toS bs[k].d)) (by rw [hcs]; rfl)
          clear hc hcc hcs
          have hdrop : bs.drop k = bs[k] :: bs.drop (k + 1) := List.drop_eq_getElem_cons hlt
          obtain ⟨x, hx⟩ : ∃ x, x = bs[k] := ⟨_, rfl⟩
          rw [← hx] at hcell0 hcell1 hdrop
          have HD := Lib.hid hdrop; clear hdrop hx
          have HZ := (HV.alloc #[.bool x.nu, .string (toS x.d)] 28).f2
          have hz0 := HZ.t.c 0
          have hz1 := HZ.t.c 1
          have heq := eq_blob j2.varB x
          have heq2 := eq_blob (j2.varBS.fixB 2) x
          have HR2 : Hid (rdB (bs.drop (k + 1)) (decide (j2.varBS.fixB 2 = x) && (decide (j2.varB = x) && ok2)) (j2.varBS.fixBS 2) = rdB bs ok j) := by
            have h := HR.out
            rw [HD.out] at h
            exact Lib.hid h
          obtain ⟨q1, hq1⟩ : ∃ q, q = decide (j2.varB = x) := ⟨_, rfl⟩
          obtain ⟨q2, hq2⟩ : ∃ q, q = decide (j2.varBS.fixB 2 = x) := ⟨_, rfl⟩
          rw [← hq1] at heq HR2
          rw [← hq2] at heq2 HR2
          clear hq1 hq2 HR
          cases q1
          · cases q2
            · go_wp2_with fail
              first | (go_region_with ((go_at_call 36; refine (varied_calls' HZ.drew).mono ?_; rintro en w2 ⟨rfl, HB⟩; have hy0 : w2.cell? ⟨wr.heap.size, 0, none⟩ = some (.bool x.nu) := HB.t.c 0; have hy1 : w2.cell? ⟨wr.heap.size, 1, none⟩ = some (.string (toS x.d)) := HB.t.c 1))) | fail
              all_goals
                go_wp2_with fail
                first | (go_region_with ((go_at_call 37; refine (fixed_calls' 2 (by decide) (by decide) HB.drew).mono ?_; rintro en w3 ⟨rfl, HC⟩; have hu0 : w3.cell? ⟨wr.heap.size, 0, none⟩ = some (.bool x.nu) := HC.t.c 0; have hu1 : w3.cell? ⟨wr.heap.size, 1, none⟩ = some (.string (toS x.d)) := HC.t.c 1))) | fail
                all_goals
                  go_wp2
                  go_roundw
                  case rel => exact ⟨k + 1, _, _, hlt, rfl, by go_num, HR2, HC.d2⟩
                  case measure => simp [intOf]; omega
            · go_wp2_with fail
              first | (go_region_with ((go_at_call 36; refine (varied_calls' HZ.drew).mono ?_; rintro en w2 ⟨rfl, HB⟩; have hy0 : w2.cell? ⟨wr.heap.size, 0, none⟩ = some (.bool x.nu) := HB.t.c 0; have hy1 : w2.cell? ⟨wr.heap.size, 1, none⟩ = some (.string (toS x.d)) := HB.t.c 1))) | fail
              all_goals
                go_wp2_with fail
                go_region_held3 (fun w' => w'.cell? ⟨wr.heap.size, 0, none⟩ = some (.bool x.nu) ∧ w'.cell? ⟨wr.heap.size, 1, none⟩ = some (.string (toS x.d))) (first | go_keep | exact ⟨by assumption, by assumption⟩) ((go_at_call 37; refine (fixed_calls' 2 (by decide) (by decide) HB.drew).mono ?_; rintro en w3 ⟨rfl, HC⟩; have hu0 : w3.cell? ⟨wr.heap.size, 0, none⟩ = some (.bool x.nu) := HC.t.c 0; have hu1 : w3.cell? ⟨wr.heap.size, 1, none⟩ = some (.string (toS x.d)) := HC.t.c 1))
                all_goals
                  go_wp2
                  go_roundw
                  case rel => exact ⟨k + 1, _, _, hlt, rfl, by go_num, HR2, HC.d2⟩
                  case measure => simp [intOf]; omega
          · cases q2
            · go_wp2_with fail
              go_region_held3 (fun w' => w'.cell? ⟨wr.heap.size, 0, none⟩ = some (.bool x.nu) ∧ w'.cell? ⟨wr.heap.size, 1, none⟩ = some (.string (toS x.d))) (first | go_keep | exact ⟨by assumption, by assumption⟩) ((go_at_call 36; refine (varied_calls' HZ.drew).mono ?_; rintro en w2 ⟨rfl, HB⟩; have hy0 : w2.cell? ⟨wr.heap.size, 0, none⟩ = some (.bool x.nu) := HB.t.c 0; have hy1 : w2.cell? ⟨wr.heap.size, 1, none⟩ = some (.string (toS x.d)) := HB.t.c 1))
              all_goals
                go_wp2_with fail
                first | (go_region_with ((go_at_call 37; refine (fixed_calls' 2 (by decide) (by decide) HB.drew).mono ?_; rintro en w3 ⟨rfl, HC⟩; have hu0 : w3.cell? ⟨wr.heap.size, 0, none⟩ = some (.bool x.nu) := HC.t.c 0; have hu1 : w3.cell? ⟨wr.heap.size, 1, none⟩ = some (.string (toS x.d)) := HC.t.c 1))) | fail
                all_goals
                  go_wp2
                  go_roundw
                  case rel => exact ⟨k + 1, _, _, hlt, rfl, by go_num, HR2, HC.d2⟩
                  case measure => simp [intOf]; omega
            · go_wp2_with fail
              go_region_held3 (fun w' => w'.cell? ⟨wr.heap.size, 0, none⟩ = some (.bool x.nu) ∧ w'.cell? ⟨wr.heap.size, 1, none⟩ = some (.string (toS x.d))) (first | go_keep | exact ⟨by assumption, by assumption⟩) ((go_at_call 36; refine (varied_calls' HZ.drew).mono ?_; rintro en w2 ⟨rfl, HB⟩; have hy0 : w2.cell? ⟨wr.heap.size, 0, none⟩ = some (.bool x.nu) := HB.t.c 0; have hy1 : w2.cell? ⟨wr.heap.size, 1, none⟩ = some (.string (toS x.d)) := HB.t.c 1))
              all_goals
                go_wp2_with fail
                go_region_held3 (fun w' => w'.cell? ⟨wr.heap.size, 0, none⟩ = some (.bool x.nu) ∧ w'.cell? ⟨wr.heap.size, 1, none⟩ = some (.string (toS x.d))) (first | go_keep | exact ⟨by assumption, by assumption⟩) ((go_at_call 37; refine (fixed_calls' 2 (by decide) (by decide) HB.drew).mono ?_; rintro en w3 ⟨rfl, HC⟩; have hu0 : w3.cell? ⟨wr.heap.size, 0, none⟩ = some (.bool x.nu) := HC.t.c 0; have hu1 : w3.cell? ⟨wr.heap.size, 1, none⟩ = some (.string (toS x.d)) := HC.t.c 1))
                all_goals
                  go_wp2
                  go_roundw
                  case rel => exact ⟨k + 1, _, _, hlt, rfl, by go_num, HR2, HC.d2⟩
                  case measure => simp [intOf]; omega
        · have HR4 : (ok2, j2) = rdB bs ok j := by
            have h := HR.out
            rw [show bs.drop k = [] from List.drop_of_length_le (by omega)] at h
            exact h
          have HR5 : rdAll ns bs i = (ok2, j2) := by
            rw [HR4]; unfold rdAll; rw [← HR3.out]
          have HR6 := Lib.hid HR5
          clear HR HR4 HR5
          go_wp2
          go_ret
          rw [HR6.out]
          exact ⟨rfl, HV⟩
end Go.Proofs.Ytflgfbffglmmeaa
