/-
  Numbers of as many bytes as they need: what is written.
-/
import Derived.Test.YtflgfbffglmmeaaOut
namespace Go.Proofs.Ytflgfbffglmmeaa
open Go.RowKit
set_option linter.unusedVariables false
set_option linter.unusedSimpArgs false

/-- Seven bits a byte, the lowest first. -/
def vput (n : Nat) : List UInt8 := if n < 128 then [UInt8.ofNat n] else UInt8.ofNat (n % 128 + 128) :: vput (n / 128)
  termination_by n
  decreasing_by omega

def foldN (n : Int) : Nat := if n < 0 then (-(n + 1)).toNat * 2 + 1 else n.toNat * 2

theorem or128 (x : Int) (h0 : 0 ≤ x) (h : x < 256) : Go.bits .or .u8 x 128 = x % 128 + 128 := by
  have H : ∀ k : Fin 256, Go.bits .or .u8 (k.val : Int) 128 = (k.val : Int) % 128 + 128 := by decide +kernel
  have := H ⟨x.toNat, by omega⟩
  simpa [Int.toNat_of_nonneg h0] using this
theorem vput_lt {n : Nat} (h : n < 128) : vput n = [UInt8.ofNat n] := by rw [vput, if_pos h]
theorem vput_ge {n : Nat} (h : 128 ≤ n) : vput n = UInt8.ofNat (n % 128 + 128) :: vput (n / 128) := by rw [vput, if_neg (by omega)]

set_option maxHeartbeats 400000 in
theorem vput_calls {F : List Asn} {w : World} {g : Nat} {o : OSt} (n : Int) (h0 : 0 ≤ n) (hn : n ≤ 18446744073709551615) (H : Hd (Out g o :: F) w) (hl : (o.put (vput n.toNat)).b.length ≤ 140737488355328) :
    Calls Try.prog 96 #[.pointer (some ⟨g, 0, none⟩), .int .u64 n] w fun en w' => en = .returned (.tuple #[]) ∧ Hd (Out g (o.put (vput n.toNat)) :: F) w' := by
  go_enter Try.func96, Try.ntmps96
  go_wp2_with fail
  go_loopw [1] (fun x wr => ∃ (m : Int) (o' : OSt), x = .int .u64 m ∧ 0 ≤ m ∧ m ≤ 18446744073709551615 ∧ o'.put (vput m.toNat) = o.put (vput n.toNat) ∧ Hd (Out g o' :: F) wr) (fun x _ => (intOf x).toNat)
  case atStart => exact ⟨n, o, rfl, h0, hn, rfl, H⟩
  case round =>
    obtain ⟨m, o', rfl, hm0, hm, he, HH⟩ := hrel
    have He := Lib.hid he; clear he
    by_cases hlt : 128 ≤ m
    · go_wp2_with fail
      rw [or128 _ (by omega) (by omega)]
      have hv : vput m.toNat = UInt8.ofNat (m % 256 % 128 + 128).toNat :: vput (m / 128).toNat := by
        rw [vput_ge (by omega)]
        congr 2 <;> omega
      have hc : (o'.put [UInt8.ofNat (m % 256 % 128 + 128).toNat]).put (vput (m / 128).toNat) = o.put (vput n.toNat) := by
        rw [OSt.put_put, ← He.out, hv]; rfl
      refine (out_byte _ (by omega) (by omega) HH (Nat.le_trans (OSt.put_len _ _).1 (by rw [hc]; exact hl))).mono ?_
      rintro en w2 ⟨rfl, HK⟩
      have Hc := Lib.hid hc
      clear hv hc He HH
      go_wp2
      go_roundw
      case rel => exact ⟨_, _, rfl, by omega, by omega, Hc.out, HK⟩
      case measure => simp [intOf]; omega
    · go_wp2_with fail
      have hv : vput m.toNat = [UInt8.ofNat m.toNat] := vput_lt (by omega)
      rw [← He.out, hv] at hl
      refine (out_byte _ (by omega) (by omega) HH hl).mono ?_
      rintro en w2 ⟨rfl, HK⟩
      rw [← hv, He.out] at HK
      clear hv
      go_wp2
      (first | go_end0 | ((try simp only [Exit.inBlock, Exit.then]); refine bodyPost_ret (results_none rfl _ _ _) rfl ?_))
      exact ⟨rfl, HK⟩

/-! ### folding -/
theorem xor_ones (x : Nat) (h : x < 18446744073709551616) : x ^^^ 18446744073709551615 = 18446744073709551615 - x := by
  have e := congrArg BitVec.toNat (BitVec.xor_allOnes (x := BitVec.ofNat 64 x))
  rw [BitVec.toNat_xor, BitVec.toNat_not, BitVec.toNat_allOnes, BitVec.toNat_ofNat, Nat.mod_eq_of_lt (by exact h)] at e
  simpa using e
theorem fold_law (n : Int) (h1 : -9223372036854775808 ≤ n) (h2 : n ≤ 9223372036854775807) : Go.bits .xor .u64 (IntKind.u64.wrap (wrap64 (n * 2))) (IntKind.u64.wrap (n / 9223372036854775808)) = (foldN n : Int) := by
  rw [u64_xor _ _ (by rw [IntKind.wrap_u64]; omega) (by rw [IntKind.wrap_u64]; omega) (by rw [IntKind.wrap_u64]; omega) (by rw [IntKind.wrap_u64]; omega)]
  simp only [IntKind.wrap_u64]
  unfold foldN
  by_cases h : n < 0
  · rw [if_pos h, show (n / 9223372036854775808 % 18446744073709551616).toNat = 18446744073709551615 by omega, xor_ones _ (by omega)]
    unfold wrap64
    omega
  · rw [if_neg h, show (n / 9223372036854775808 % 18446744073709551616).toNat = 0 by omega, Nat.xor_zero]
    unfold wrap64
    omega
theorem foldN_lt (n : Int) (h1 : -9223372036854775808 ≤ n) (h2 : n ≤ 9223372036854775807) : (foldN n : Int) ≤ 18446744073709551615 := by
  unfold foldN; split <;> omega
set_option maxHeartbeats 400000 in
theorem fold_calls (n : Int) (w : World) (h1 : -9223372036854775808 ≤ n) (h2 : n ≤ 9223372036854775807) :
    Calls Try.prog 97 #[.int .i64 n] w fun en w' => en = .returned (.int .u64 (foldN n)) ∧ w = w' := by
  have hf := fold_law n h1 h2
  go_enter Try.func97, Try.ntmps97
  go_wp2
  go_ret
  exact ⟨rfl, rfl⟩

/-- A number as bytes. -/
def vint (n : Int) : List UInt8 := vput (foldN n)
set_option maxHeartbeats 400000 in
theorem putlong_calls {F : List Asn} {w : World} {g : Nat} {o : OSt} (n : Int) (h1 : -9223372036854775808 ≤ n) (h2 : n ≤ 9223372036854775807) (H : Hd (Out g o :: F) w) (hl : (o.put (vint n)).b.length ≤ 140737488355328) :
    Calls Try.prog 29 #[.pointer (some ⟨g, 0, none⟩), .int .i64 n] w fun en w' => en = .returned (.tuple #[]) ∧ Hd (Out g (o.put (vint n)) :: F) w' := by
  have hl2 := foldN_lt n h1 h2
  go_enter Try.func29, Try.ntmps29
  go_wp2_with fail
  refine (fold_calls n _ h1 h2).mono ?_
  rintro en w' ⟨rfl, rfl⟩
  go_wp2_with fail
  refine (vput_calls (foldN n) (by omega) hl2 H (by rw [Int.toNat_natCast]; exact hl)).mono ?_
  rintro en w' ⟨rfl, HH⟩
  rw [Int.toNat_natCast] at HH
  go_wp2
  (first | go_end0 | ((try simp only [Exit.inBlock, Exit.then]); refine bodyPost_ret (results_none rfl _ _ _) rfl ?_))
  exact ⟨rfl, HH⟩

def OSt.pint (o : OSt) (n : Int) : OSt := if fitsB n 4 then o.put (vint n) else o.fail 11
theorem OSt.pint_mono (o : OSt) (n : Int) : o.b.length ≤ (o.pint n).b.length := by
  unfold OSt.pint
  split
  · exact (OSt.put_len _ _).1
  · rw [OSt.fail_b]; exact Nat.le_refl _
set_option maxHeartbeats 400000 in
theorem putint_calls {F : List Asn} {w : World} {g : Nat} {o : OSt} (n : Int) (h1 : -9223372036854775808 ≤ n) (h2 : n ≤ 9223372036854775807) (H : Hd (Out g o :: F) w) (hl : (o.pint n).b.length ≤ 140737488355328) :
    Calls Try.prog 98 #[.pointer (some ⟨g, 0, none⟩), .int .i64 n] w fun en w' => en = .returned (.tuple #[]) ∧ Hd (Out g (o.pint n) :: F) w' := by
  have hl2 := foldN_lt n h1 h2
  have hF := (fits_calls n 4 w (by omega) h1 h2)
  by_cases hf : fitsB n 4 = true
  · rw [show o.pint n = o.put (vint n) from if_pos hf] at hl ⊢
    rw [hf] at hF
    have HF := Lib.hid hF; clear hF
    go_enter Try.func98, Try.ntmps98
    go_wp2_with fail
    refine HF.out.mono ?_
    rintro en w' ⟨rfl, rfl⟩
    go_wp2_with fail
    refine (fold_calls n _ h1 h2).mono ?_
    rintro en w' ⟨rfl, rfl⟩
    go_wp2_with fail
    refine (vput_calls (foldN n) (by omega) hl2 H (by rw [Int.toNat_natCast]; exact hl)).mono ?_
    rintro en w' ⟨rfl, HH⟩
    rw [Int.toNat_natCast] at HH
    go_wp2
    (first | go_end0 | ((try simp only [Exit.inBlock, Exit.then]); refine bodyPost_ret (results_none rfl _ _ _) rfl ?_))
    exact ⟨rfl, HH⟩
  · rw [show o.pint n = o.fail 11 from if_neg hf]
    rw [show fitsB n 4 = false by simpa using hf] at hF
    have HF := Lib.hid hF; clear hF
    go_enter Try.func98, Try.ntmps98
    go_wp2_with fail
    refine HF.out.mono ?_
    rintro en w' ⟨rfl, rfl⟩
    go_wp2_with fail
    refine (out_fail 11 H).mono ?_
    rintro en w' ⟨rfl, HH⟩
    go_wp2
    (first | go_end0 | ((try simp only [Exit.inBlock, Exit.then]); refine bodyPost_ret (results_none rfl _ _ _) rfl ?_))
    exact ⟨rfl, HH⟩
theorem vput_len : ∀ (k n : Nat), n < 128 ^ (k + 1) → (vput n).length ≤ k + 1
  | 0, n, h => by rw [vput_lt (by simpa using h)]; simp
  | k + 1, n, h => by
    by_cases hn : n < 128
    · rw [vput_lt hn]; simp
    · rw [vput_ge (by omega), List.length_cons]
      have := vput_len k (n / 128) (by rw [Nat.pow_succ] at h; omega)
      omega
theorem vint_len (n : Int) (h1 : -9223372036854775808 ≤ n) (h2 : n ≤ 9223372036854775807) : (vint n).length ≤ 10 := by
  refine vput_len 9 _ ?_
  have h := foldN_lt n h1 h2
  have e : 128 ^ (9 + 1) = 1180591620717411303424 := by decide
  omega
theorem flat_len {α : Type} (f : α → List UInt8) (c : Nat) : ∀ l : List α, (∀ x ∈ l, (f x).length ≤ c) → (l.flatMap f).length ≤ c * l.length
  | [], _ => by simp
  | x :: l, h => by
    rw [List.flatMap_cons, List.length_append, List.length_cons, Nat.mul_add, Nat.mul_one]
    have := h x (by simp)
    have := flat_len f c l (fun y hy => h y (by simp [hy]))
    omega
end Go.Proofs.Ytflgfbffglmmeaa
