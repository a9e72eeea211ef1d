/-
  Records that end transactions: what is read of them. No program in sight.
-/
import Derived.Test.YtflgfbffglmmeaaRecPure
import Derived.Test.YtflgfbffglmmeaaRecW
import Derived.Test.YtflgfbffglmmeaaInv
namespace Go.Proofs.Ytflgfbffglmmeaa
set_option linter.unusedVariables false
set_option linter.unusedSimpArgs false
theorem crk_full (kind : Int) (h : kind = 0 ∨ kind = 1) : crk (be 0 2 ++ be kind 2) = (kind, 0) := by
  rcases h with rfl | rfl <;> rfl
theorem crk_key (key : List UInt8) (h : (crk key).2 = 0) : key = [0, 0, 0, 0] ∨ key = [0, 0, 0, 1] := by
  have h1 : (crkS key).close.e = 0 := by
    by_cases q : (crkS key).close.e = 0
    · exact q
    · unfold crk at h; rw [if_neg q] at h; exact absurd h q
  obtain ⟨h2, h3⟩ := close_0 h1
  have hs : crkS key = if (ISt.verS ⟨[], key, 0⟩).intV 2 = 0 ∨ (ISt.verS ⟨[], key, 0⟩).intV 2 = 1 then (ISt.verS ⟨[], key, 0⟩).intS 2 else ((ISt.verS ⟨[], key, 0⟩).intS 2).fail 12 := rfl
  have hv : ISt.verS ⟨[], key, 0⟩ = if ISt.intV ⟨[], key, 0⟩ 2 = 0 then ISt.intS ⟨[], key, 0⟩ 2 else (ISt.intS ⟨[], key, 0⟩ 2).fail 7 := rfl
  generalize ISt.verS ⟨[], key, 0⟩ = a at hs hv
  by_cases q : a.intV 2 = 0 ∨ a.intV 2 = 1
  case neg => rw [hs, if_neg q] at h2; exact absurd h2 (fail_ne _ (by decide))
  rw [hs, if_pos q] at h2 h3
  obtain ⟨h4, h5, h6⟩ := intS_inv (by decide) h2
  by_cases q2 : ISt.intV ⟨[], key, 0⟩ 2 = 0
  case neg => rw [hv, if_neg q2] at h4; exact absurd h4 (fail_ne _ (by decide))
  rw [if_pos q2] at hv
  rw [hv] at h4 h6 h3 q
  obtain ⟨_, h7, h8⟩ := intS_inv (i := ⟨[], key, 0⟩) (by decide) h4
  rw [h3, List.append_nil] at h6
  rw [h6, q2] at h8
  simp only at h8
  rcases q with q | q
  · rw [q] at h8; exact .inl h8
  · rw [q] at h8; exact .inr h8
theorem crv_full (epoch : Int) (h0 : 0 ≤ epoch) (h : fitsB epoch 4 = true) : crv (be 0 2 ++ be epoch 4) = (epoch, 0) := by
  have e1 : ISt.verS ⟨[], be 0 2 ++ be epoch 4, 0⟩ = ⟨[] ++ be 0 2, be epoch 4 ++ [], 0⟩ := by
    unfold ISt.verS
    rw [int_full 0 2 (by decide) (by decide), if_pos rfl, List.append_nil]
    exact (reads_int 0 2).full _ _
  have e2 : crvS (be 0 2 ++ be epoch 4) = ⟨([] ++ be 0 2) ++ be epoch 4, [], 0⟩ := by
    unfold crvS
    simp only [e1]
    rw [int_full epoch 4 (by decide) h, if_neg (by omega)]
    exact (reads_int epoch 4).full _ _
  unfold crv
  rw [e2, e1, int_full epoch 4 (by decide) h]
  rfl
theorem crec_facts (kind epoch : Int) (h : (crec kind epoch).2 = 0) : (kind = 0 ∨ kind = 1) ∧ 0 ≤ epoch ∧ fitsB epoch 4 = true ∧ (crec kind epoch).1 = ⟨0, 0, ⟨false, be 0 2 ++ be kind 2⟩, ⟨false, be 0 2 ++ be epoch 4⟩, []⟩ := by
  by_cases h1 : kind = 0 ∨ kind = 1
  case neg =>
    have e : (ckey kind).2 = 12 := by unfold ckey; rw [if_neg h1]
    have e2 : crec kind epoch = (rzero, 12) := by unfold crec; rw [e]; rfl
    rw [e2] at h; cases h
  have e1 : ckey kind = (be 0 2 ++ be kind 2, 0) := if_pos h1
  by_cases h2 : epoch < 0
  · have e2 : cval epoch = ([], 11) := if_pos h2
    have e3 : crec kind epoch = (rzero, 11) := by unfold crec; rw [e1, e2]; rfl
    rw [e3] at h; cases h
  cases h3 : fitsB epoch 4
  · have e2 : cval epoch = ([], 11) := by unfold cval; rw [if_neg h2]; unfold OSt.int; rw [h3]; rfl
    have e3 : crec kind epoch = (rzero, 11) := by unfold crec; rw [e1, e2]; rfl
    rw [e3] at h; cases h
  have e2 : cval epoch = (be 0 2 ++ be epoch 4, 0) := by unfold cval; rw [if_neg h2]; unfold OSt.int; rw [h3]; rfl
  refine ⟨h1, by omega, rfl, ?_⟩
  unfold crec; rw [e1, e2]; rfl
theorem vput_len' (m : Nat) : ∀ n, n < 2 ^ (7 * (m + 1)) → (vput n).length ≤ m + 1 := by
  induction m with
  | zero => intro n h; rw [vput_lt (by simpa using h)]; simp
  | succ m ih =>
    intro n h
    by_cases hn : n < 128
    · rw [vput_lt hn]; simp
    · rw [vput_ge (by omega), List.length_cons]
      have := ih (n / 128) (by rw [show 7 * (m + 1 + 1) = 7 * (m + 1) + 7 by omega, Nat.pow_add] at h; omega)
      omega
theorem vint_len10 (n : Int) (h1 : -9223372036854775808 ≤ n) (h2 : n ≤ 9223372036854775807) : (vint n).length ≤ 10 := by
  have := fold64 n h1 h2
  exact vput_len' 9 _ (Nat.lt_trans this (by decide))
theorem fit4_len {n : Nat} (h : n ≤ 2147483647) : fitsB (n : Int) 4 = true := by rw [fits_4]; exact decide_eq_true (by omega)
theorem blen4 (b : Blob) (h : b.d.length ≤ 2147483647) : fitsB b.len 4 = true := by
  unfold Blob.len
  split
  · rfl
  · exact fit4_len h
theorem vok_of (b : Blob) (hr : b.right = true) (h : b.d.length ≤ 2147483647) : b.vok := ⟨hr, blen4 b h⟩
theorem vok_false {l : List UInt8} (h : l.length ≤ 2147483647) : Blob.vok ⟨false, l⟩ := vok_of ⟨false, l⟩ rfl h
theorem blen_i64 (b : Blob) (h : b.d.length ≤ 2147483647) : -9223372036854775808 ≤ b.len ∧ b.len ≤ 9223372036854775807 := by
  unfold Blob.len; split <;> omega
theorem wVar_len (b : Blob) (h : b.d.length ≤ 2147483647) : (wVar b).length ≤ 10 + b.d.length := by
  have := blen_i64 b h
  have := vint_len10 b.len this.1 this.2
  unfold wVar; rw [List.length_append]; omega
/-- The record that is told of; with a header; with another key. -/
def endRec (kind epoch time : Int) : Rec := ⟨time, 0, ⟨false, be 0 2 ++ be kind 2⟩, ⟨false, be 0 2 ++ be epoch 4⟩, []⟩
def endRecH (kind epoch time : Int) (key : List UInt8) : Rec := ⟨time, 0, ⟨false, be 0 2 ++ be kind 2⟩, ⟨false, be 0 2 ++ be epoch 4⟩, [⟨key, ⟨false, []⟩⟩]⟩
def endRecK (epoch time : Int) (key : List UInt8) : Rec := ⟨time, 0, ⟨false, key⟩, ⟨false, be 0 2 ++ be epoch 4⟩, []⟩
theorem kl (kind : Int) : (be 0 2 ++ be kind 2).length = 4 := by rw [List.length_append, be_length, be_length]
theorem el (epoch : Int) : (be 0 2 ++ be epoch 4).length = 6 := by rw [List.length_append, be_length, be_length]
theorem endRecH_vok (kind epoch time : Int) (key : List UInt8) (ht : i64' time) (hk : key.length ≤ 200) : (endRecH kind epoch time key).vok ∧ (wRec (endRecH kind epoch time key)).length ≤ 1000 := by
  refine ⟨⟨ht, Int.le_refl 0, rfl, vok_false (Nat.le_trans (Nat.le_of_eq (kl kind)) (by decide)), vok_false (Nat.le_trans (Nat.le_of_eq (el epoch)) (by decide)), fit4_len (n := 1) (by omega), ?_⟩, ?_⟩
  · intro h hh
    obtain rfl : h = ⟨key, ⟨false, []⟩⟩ := by simpa [endRecH] using hh
    exact ⟨vok_of ⟨false, key⟩ rfl (by simp only; omega), vok_of ⟨false, []⟩ rfl (by decide)⟩
  · have a1 := vint_len10 time ht.1 ht.2
    have a2 := vint_len10 0 (by decide) (by decide)
    have a3 := wVar_len ⟨false, be 0 2 ++ be kind 2⟩ (by rw [kl]; decide)
    have a4 := wVar_len ⟨false, be 0 2 ++ be epoch 4⟩ (by rw [el]; decide)
    have a5 := vint_len10 1 (by decide) (by decide)
    have a6 := wVar_len ⟨false, key⟩ (by simp only; omega)
    have a7 := wVar_len ⟨false, []⟩ (by decide)
    have b3 := kl kind
    have b4 := el epoch
    have e : wRec (endRecH kind epoch time key) = [0] ++ (vint time ++ (vint 0 ++ (wVar ⟨false, be 0 2 ++ be kind 2⟩ ++ (wVar ⟨false, be 0 2 ++ be epoch 4⟩ ++ (vint 1 ++ (wVar ⟨false, key⟩ ++ wVar ⟨false, []⟩)))))) := by
      simp [wRec, endRecH, wHdrs, wHdr]
    rw [e]
    simp only [List.length_append, List.length_cons, List.length_nil] at *
    omega
theorem endRec_vok (kind epoch time : Int) (ht : i64' time) : (endRec kind epoch time).vok ∧ (wRec (endRec kind epoch time)).length ≤ 1000 := by
  refine ⟨⟨ht, Int.le_refl 0, rfl, vok_false (Nat.le_trans (Nat.le_of_eq (kl kind)) (by decide)), vok_false (Nat.le_trans (Nat.le_of_eq (el epoch)) (by decide)), fit4_len (n := 0) (by omega), by simp [endRec]⟩, ?_⟩
  have a1 := vint_len10 time ht.1 ht.2
  have a2 := vint_len10 0 (by decide) (by decide)
  have a3 := wVar_len ⟨false, be 0 2 ++ be kind 2⟩ (by rw [kl]; decide)
  have a4 := wVar_len ⟨false, be 0 2 ++ be epoch 4⟩ (by rw [el]; decide)
  have b3 := kl kind
  have b4 := el epoch
  have e : wRec (endRec kind epoch time) = [0] ++ (vint time ++ (vint 0 ++ (wVar ⟨false, be 0 2 ++ be kind 2⟩ ++ (wVar ⟨false, be 0 2 ++ be epoch 4⟩ ++ vint 0)))) := by
    simp [wRec, endRec, wHdrs]
  rw [e]
  simp only [List.length_append, List.length_cons, List.length_nil] at *
  omega
/-- Of a record that may be, all that is asked of one that comes in. -/
theorem vok_szd {r : Rec} (h : r.vok) (hl : (wRec r).length ≤ 1000) (hk : r.key.d.length ≤ 1000) (hv : r.value.d.length ≤ 1000) (hm : r.headers.length ≤ 1000) (hh : ∀ x ∈ r.headers, x.key.length ≤ 1000 ∧ x.value.d.length ≤ 1000) : r.szd ∧ ((⟨[], 0⟩ : OSt).recd r).b.length ≤ 140737488355328 ∧ recEnc r = (wVar ⟨false, wRec r⟩, 0) ∧ recDec (wVar ⟨false, wRec r⟩) = (r, 0) ∧ (wVar ⟨false, wRec r⟩).length ≤ 1000000000 := by
  have hf : fitsB ((wRec r).length : Int) 4 = true := fit4_len (by omega)
  have hlv := wVar_len ⟨false, wRec r⟩ (by simp only; omega)
  simp only at hlv
  obtain ⟨a, b⟩ := rec_rt h hf
  refine ⟨⟨h.time, ⟨by have := h.off0; omega, ?_⟩, by omega, by omega, by omega, fun x hx => ⟨by have := hh x hx; omega, by have := hh x hx; omega⟩, by rw [body_ok h]; simp only; omega⟩, ?_, a, b, by omega⟩
  · have := h.off; rw [fits_4] at this; have := of_decide_eq_true this; omega
  · rw [recd_ok _ h hf, put0, List.nil_append]; simp only; omega
end Go.Proofs.Ytflgfbffglmmeaa
