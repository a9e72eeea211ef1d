/-
  The law WholeEnds, walked.
-/
import Derived.Test.YtflgfbffglmmeaaEndsPure
import Derived.Test.YtflgfbffglmmeaaRecR
namespace Go.Proofs.Ytflgfbffglmmeaa
open Go.RowKit
set_option linter.unusedVariables false
set_option linter.unusedSimpArgs false
theorem cread_E (kind epoch time : Int) (h1 : kind = 0 ∨ kind = 1) (h2 : 0 ≤ epoch) (h3 : fitsB epoch 4 = true) : cread (endRec kind epoch time) = (kind, epoch, 0) := by
  have e1 := crk_full kind h1
  have e2 := crv_full epoch h2 h3
  unfold cread endRec
  rw [if_neg (by simp)]
  simp only
  rw [e1, e2]
  rfl
theorem cread_H (kind epoch time : Int) (key : List UInt8) : cread (endRecH kind epoch time key) = (0, 0, 12) := by
  unfold cread endRecH
  rw [if_pos (.inr (.inr (.inl (by simp))))]
theorem cread_K (epoch time : Int) (key : List UInt8) (h2 : 0 ≤ epoch) (h3 : fitsB epoch 4 = true) : ((cread (endRecK epoch time key)).2.2 = 0) ↔ (key = [0, 0, 0, 0] ∨ key = [0, 0, 0, 1]) := by
  have e2 := crv_full epoch h2 h3
  have e : cread (endRecK epoch time key) = if (crk key).2 ≠ 0 then (0, 0, (crk key).2) else ((crk key).1, epoch, 0) := by
    unfold cread endRecK
    rw [if_neg (by simp)]
    simp only
    rw [e2]
    rfl
  rw [e]
  constructor
  · intro h
    refine crk_key key ?_
    by_cases q : (crk key).2 = 0
    · exact q
    · rw [if_pos q] at h; exact h
  · intro h
    have : (crk key).2 = 0 := by rcases h with rfl | rfl <;> rfl
    rw [if_neg (by simp [this])]
section
variable {F : List Asn} {w : World}
set_option maxRecDepth 100000 in
theorem crec17 (H : Hd F w) : Calls Try.prog 43 #[.int .i64 1, .int .i64 7] w fun en w' => en = .returned (.tuple #[.agg #[.int .i64 0, .int .i64 0, .bool false, .string (toS [0, 0, 0, 1]), .bool false, .string (toS [0, 0, 0, 0, 0, 7]), .slice none 0 0], .int .i64 0]) ∧ Hd F w' := crec_calls 1 7 (by decide) (by decide) H
/-- The cells of the record that ends a transaction. -/
def ecells (time : Int) (k v : List UInt8) (A : Option Addr) (n c : Nat) : Array Value := #[.int .i64 time, .int .i64 0, .bool false, .string (toS k), .bool false, .string (toS v), .slice A n c]
theorem endE (kind epoch time : Int) (ht : i64' time) : (endRec kind epoch time).szd ∧ ((⟨[], 0⟩ : OSt).recd (endRec kind epoch time)).b.length ≤ 140737488355328 ∧ recEnc (endRec kind epoch time) = (wVar ⟨false, wRec (endRec kind epoch time)⟩, 0) ∧ recDec (wVar ⟨false, wRec (endRec kind epoch time)⟩) = (endRec kind epoch time, 0) ∧ (wVar ⟨false, wRec (endRec kind epoch time)⟩).length ≤ 1000000000 := by
  obtain ⟨a, b⟩ := endRec_vok kind epoch time ht
  refine vok_szd a b ?_ ?_ (by simp [endRec]) (by simp [endRec])
  · exact Nat.le_trans (Nat.le_of_eq (kl kind)) (by decide)
  · exact Nat.le_trans (Nat.le_of_eq (el epoch)) (by decide)
theorem endH (kind epoch time : Int) (key : List UInt8) (ht : i64' time) (hk : key.length ≤ 200) : (endRecH kind epoch time key).szd ∧ ((⟨[], 0⟩ : OSt).recd (endRecH kind epoch time key)).b.length ≤ 140737488355328 ∧ recEnc (endRecH kind epoch time key) = (wVar ⟨false, wRec (endRecH kind epoch time key)⟩, 0) ∧ recDec (wVar ⟨false, wRec (endRecH kind epoch time key)⟩) = (endRecH kind epoch time key, 0) ∧ (wVar ⟨false, wRec (endRecH kind epoch time key)⟩).length ≤ 1000000000 := by
  obtain ⟨a, b⟩ := endRecH_vok kind epoch time key ht hk
  refine vok_szd a b ?_ ?_ (by simp [endRecH]) ?_
  · exact Nat.le_trans (Nat.le_of_eq (kl kind)) (by decide)
  · exact Nat.le_trans (Nat.le_of_eq (el epoch)) (by decide)
  · intro x hx
    obtain rfl : x = ⟨key, ⟨false, []⟩⟩ := by simpa [endRecH] using hx
    exact ⟨by simp only; omega, by simp⟩
theorem encE (kind epoch time : Int) (ht : i64' time) (H : Hd F w) : Calls Try.prog 44 #[.agg (ecells time (be 0 2 ++ be kind 2) (be 0 2 ++ be epoch 4) none 0 0)] w fun en w' => en = .returned (.tuple #[.string (toS (wVar ⟨false, wRec (endRec kind epoch time)⟩)), .int .i64 0]) ∧ Hd F w' := by
  obtain ⟨a, b, c, _, _⟩ := endE kind epoch time ht
  have := renc_calls (endRec kind epoch time) none 0 a (fun w' _ => Rows.nil) H b
  rw [c] at this
  exact this
theorem decE (kind epoch time : Int) (ht : i64' time) (H : Hd F w) : Calls Try.prog 45 #[.string (toS (wVar ⟨false, wRec (endRec kind epoch time)⟩))] w fun en w' => ∃ A c, en = .returned (.tuple #[.agg (ecells time (be 0 2 ++ be kind 2) (be 0 2 ++ be epoch 4) A 0 c), .int .i64 0]) ∧ Hd F w' := by
  obtain ⟨_, _, _, c, d⟩ := endE kind epoch time ht
  have := rdec_calls (wVar ⟨false, wRec (endRec kind epoch time)⟩) d H
  rw [c] at this
  exact this.mono fun en w' ⟨A, c, h1, h2⟩ => ⟨A, c, h1, h2.t⟩
theorem readE (kind epoch time : Int) (A : Option Addr) (c : Nat) (h1 : kind = 0 ∨ kind = 1) (h2 : 0 ≤ epoch) (h3 : fitsB epoch 4 = true) (H : Hd F w) : Calls Try.prog 46 #[.agg (ecells time (be 0 2 ++ be kind 2) (be 0 2 ++ be epoch 4) A 0 c)] w fun en w' => en = .returned (.tuple #[.int .i64 kind, .int .i64 epoch, .int .i64 0]) ∧ Hd F w' := by
  have := cread_calls (endRec kind epoch time) A c (Nat.le_trans (Nat.le_of_eq (kl kind)) (by decide)) (Nat.le_trans (Nat.le_of_eq (el epoch)) (by decide)) H
  rw [cread_E kind epoch time h1 h2 h3] at this
  exact this
theorem encH (kind epoch time : Int) (key : List UInt8) (A : Option Addr) (c : Nat) (ht : i64' time) (hk : key.length ≤ 200) (hr : ∀ w', Hd F w' → Rows KHdr 3 w' A [⟨key, ⟨false, []⟩⟩]) (H : Hd F w) : Calls Try.prog 44 #[.agg (ecells time (be 0 2 ++ be kind 2) (be 0 2 ++ be epoch 4) A 1 c)] w fun en w' => en = .returned (.tuple #[.string (toS (wVar ⟨false, wRec (endRecH kind epoch time key)⟩)), .int .i64 0]) ∧ Hd F w' := by
  obtain ⟨a, b, d, _, _⟩ := endH kind epoch time key ht hk
  have := renc_calls (endRecH kind epoch time key) A c a hr H b
  rw [d] at this
  exact this
theorem decH (kind epoch time : Int) (key : List UInt8) (ht : i64' time) (hk : key.length ≤ 200) (H : Hd F w) : Calls Try.prog 45 #[.string (toS (wVar ⟨false, wRec (endRecH kind epoch time key)⟩))] w fun en w' => ∃ A c, en = .returned (.tuple #[.agg (ecells time (be 0 2 ++ be kind 2) (be 0 2 ++ be epoch 4) A 1 c), .int .i64 0]) ∧ Hd F w' := by
  obtain ⟨_, _, _, c, d⟩ := endH kind epoch time key ht hk
  have := rdec_calls (wVar ⟨false, wRec (endRecH kind epoch time key)⟩) d H
  rw [c] at this
  exact this.mono fun en w' ⟨A, c, h1, h2⟩ => ⟨A, c, h1, h2.t⟩
theorem readH (kind epoch time : Int) (key : List UInt8) (A : Option Addr) (c : Nat) (H : Hd F w) : Calls Try.prog 46 #[.agg (ecells time (be 0 2 ++ be kind 2) (be 0 2 ++ be epoch 4) A 1 c)] w fun en w' => en = .returned (.tuple #[.int .i64 0, .int .i64 0, .int .i64 12]) ∧ Hd F w' := by
  have := cread_calls (endRecH kind epoch time key) A c (Nat.le_trans (Nat.le_of_eq (kl kind)) (by decide)) (Nat.le_trans (Nat.le_of_eq (el epoch)) (by decide)) H
  rw [cread_H kind epoch time key] at this
  exact this
theorem readK (epoch time : Int) (key : List UInt8) (hk : key.length ≤ 200) (H : Hd F w) : Calls Try.prog 46 #[.agg (ecells time key (be 0 2 ++ be epoch 4) none 0 0)] w fun en w' => en = .returned (.tuple #[.int .i64 (cread (endRecK epoch time key)).1, .int .i64 (cread (endRecK epoch time key)).2.1, .int .i64 (cread (endRecK epoch time key)).2.2]) ∧ Hd F w' := 
  cread_calls (endRecK epoch time key) none 0 (by show key.length ≤ _; omega) (Nat.le_trans (Nat.le_of_eq (el epoch)) (by decide)) H
end
set_option maxRecDepth 100000 in
set_option maxHeartbeats 2000000 in
theorem ends_calls (kind epoch time : Int) (key : List UInt8) (a1 : i64' kind) (a2 : i64' epoch) (a3 : i64' time) (a4 : key.length ≤ 140737488355328) {w : World} :
    Calls Try.prog 7 #[.agg #[.int .i64 kind, .int .i64 epoch], .int .i64 time, .string (toS key)] w fun en w' => en = .returned (.bool true) ∧ Below w.heap.size w w' := by
  have HX := (Old.start w).alloc #[.int .i64 kind, .int .i64 epoch] 88
  have cx := HX.c
  replace a1 := Lib.hid a1
  replace a2 := Lib.hid a2
  replace a3 := Lib.hid a3
  have sk := toS_size key
  go_enter Try.func7, Try.ntmps7
  go_wp2_with fail
  go_quiet (fail)
  go_wp2_with fail
  refine (crec17 (HX.drewN _)).mono ?_
  rintro en w1 ⟨rfl, HA⟩
  have HB := HA.alloc #[.int .i64 0, .int .i64 0, .bool false, .string (toS [0, 0, 0, 1]), .bool false, .string (toS [0, 0, 0, 0, 0, 7]), .slice none 0 0] 91
  have hl1 : (toS [0, 0, 0, 1]).toList = [0, 0, 0, 1] := toS_list _
  have HR := crec_calls kind epoch a2.out.1 a2.out.2 HB
  by_cases q0 : (crec kind epoch).2 = 0
  case neg =>
    unfold Rec.cells at HR
    have b0 : ((crec kind epoch).2 != 0) = true := bne_iff_ne.2 q0
    generalize crec kind epoch = R at HR b0
    replace HR := Lib.hid HR
    clear q0
    go_wp2_with fail
    refine HR.out.mono ?_
    rintro en w2 ⟨rfl, HC⟩
    go_wp2
    go_ret
    exact ⟨rfl, HC.t.t.old.alloc HC.t.t.old.size _⟩
  obtain ⟨k0, ep0, ep4, er⟩ := crec_facts kind epoch q0
  have er2 : (crec kind epoch).1.cells none 0 = ecells 0 (be 0 2 ++ be kind 2) (be 0 2 ++ be epoch 4) none 0 0 := by rw [er]; rfl
  rw [q0, er2] at HR
  replace HR := Lib.hid HR
  replace k0 := Lib.hid k0
  replace ep0 := Lib.hid ep0
  replace ep4 := Lib.hid ep4
  clear q0 er er2
  go_wp2_with fail
  refine HR.out.mono ?_
  rintro en w2 ⟨rfl, HC⟩
  clear HR
  by_cases q1 : 200 < key.length
  · have b1 : decide ((200 : Int) < (key.length : Int)) = true := by simp; omega
    unfold ecells
    go_wp2
    go_ret
    exact ⟨rfl, HC.t.t.old.alloc HC.t.t.old.size _⟩
  have b1 : decide ((200 : Int) < (key.length : Int)) = false := by simp; omega
  have HD := HC.alloc (ecells time (be 0 2 ++ be kind 2) (be 0 2 ++ be epoch 4) none 0 0) 91
  have NE := encE kind epoch time a3.out HD
  unfold ecells at NE HD ⊢
  replace NE := Lib.hid NE
  go_wp2_with fail
  refine NE.out.mono ?_
  rintro en w3 ⟨rfl, HE⟩
  clear NE
  have ND := decE kind epoch time a3.out HE
  unfold ecells at ND
  replace ND := Lib.hid ND
  go_wp2_with fail
  refine ND.out.mono ?_
  rintro en w4 ⟨A, c, rfl, HG⟩
  clear ND
  have HH := HG.alloc (ecells time (be 0 2 ++ be kind 2) (be 0 2 ++ be epoch 4) A 0 c) 91
  have NR := readE kind epoch time A c k0.out ep0.out ep4.out HH
  unfold ecells at NR HH
  replace NR := Lib.hid NR
  go_wp2_with fail
  refine NR.out.mono ?_
  rintro en w5 ⟨rfl, HI⟩
  clear NR
  have cI := HI.c
  have zI := HI.z
  have HI2 := (HI.alloc #[.string (toS key), .bool false, .string ⟨#[]⟩] 98).f2
  have cI2 := HI2.c
  have zI2 := HI2.z
  have HJ := HI2.set 6 (.slice (some ⟨w5.heap.size, 0, none⟩) 1 1)
  have NE2 := encH kind epoch time key (some ⟨w5.heap.size, 0, none⟩) 1 a3.out (by omega) (fun w' h => rows_cel h.t (Elems.nil.snoc (K := KHdr) (cs := [.string (toS key), .bool false, .string ⟨#[]⟩]) (t := (⟨key, ⟨false, []⟩⟩ : Hdr)) rfl rfl)) HJ
  unfold ecells at NE2
  replace NE2 := Lib.hid NE2
  go_wp2_with fail
  refine NE2.out.mono ?_
  rintro en w6 ⟨rfl, HK⟩
  clear NE2
  have ND2 := decH kind epoch time key a3.out (by omega) HK
  unfold ecells at ND2
  replace ND2 := Lib.hid ND2
  go_wp2_with fail
  refine ND2.out.mono ?_
  rintro en w7 ⟨B, e, rfl, HL⟩
  clear ND2
  have HM := HL.alloc (ecells time (be 0 2 ++ be kind 2) (be 0 2 ++ be epoch 4) B 1 e) 91
  have NR2 := readH kind epoch time key B e HM
  unfold ecells at NR2 HM
  replace NR2 := Lib.hid NR2
  go_wp2_with fail
  refine NR2.out.mono ?_
  rintro en w8 ⟨rfl, HN⟩
  clear NR2
  have HP := HN.pick 3 rfl rfl
  have cP := HP.c
  have zP := HP.z
  have HP2 := HP.set 3 (.string (toS key))
  have NK := readK epoch time key (by omega) HP2
  unfold ecells at NK
  have hk := cread_K epoch time key ep0.out ep4.out
  generalize cread (endRecK epoch time key) = R at NK hk
  replace NK := Lib.hid NK
  go_wp2_with fail
  refine NK.out.mono ?_
  rintro en w9 ⟨rfl, HQ⟩
  clear NK
  generalize R.2.2 = z at hk
  have hkl : (toS key).toList = key := toS_list key
  by_cases p1 : key = [0, 0, 0, 0]
  · have d1 : (key == [0, 0, 0, 0]) = true := by simp [p1]
    have d2 : (z == 0) = true := by simp [hk.2 (.inl p1)]
    clear hk p1
    go_wp2
    go_ret
    exact ⟨rfl, HQ.t.t.t.t.t.t.old⟩
  have d1 : (key == [0, 0, 0, 0]) = false := by simp [p1]
  by_cases p2 : key = [0, 0, 0, 1]
  · have d3 : (key == [0, 0, 0, 1]) = true := by simp [p2]
    have d2 : (z == 0) = true := by simp [hk.2 (.inr p2)]
    clear hk p1 p2
    go_wp2
    go_ret
    exact ⟨rfl, HQ.t.t.t.t.t.t.old⟩
  have d3 : (key == [0, 0, 0, 1]) = false := by simp [p2]
  have d2 : (z == 0) = false := beq_eq_false_iff_ne.2 (fun e => (hk.1 e).elim p1 p2)
  clear hk p1 p2
  go_wp2
  go_ret
  exact ⟨rfl, HQ.t.t.t.t.t.t.old⟩
end Go.Proofs.Ytflgfbffglmmeaa
