/-
  Bytes and texts behind their lengths: what is written, and what is read.
-/
import Derived.Test.YtflgfbffglmmeaaVarIn
namespace Go.Proofs.Ytflgfbffglmmeaa
open Go.RowKit
set_option linter.unusedVariables false
set_option linter.unusedSimpArgs false

/-! ### numbers that were folded -/
def backN (n : Nat) : Int := if n % 2 = 1 then -((n / 2 : Nat) : Int) - 1 else ((n / 2 : Nat) : Int)
theorem back_fold (n : Int) : backN (foldN n) = n := by
  unfold backN foldN
  split <;> split <;> omega
theorem back_law (n : Nat) (h : n < 18446744073709551616) : Go.bits .xor .i64 ((n / 2 : Nat) : Int) (-((n % 2 : Nat) : Int)) = backN n := by
  unfold Go.bits
  show IntKind.i64.wrap ((BitVec.ofInt 64 ((n / 2 : Nat) : Int) ^^^ BitVec.ofInt 64 (-((n % 2 : Nat) : Int))).toNat : Int) = _
  rw [BitVec.ofInt_natCast, IntKind.wrap_i64]
  unfold backN
  by_cases h2 : n % 2 = 1
  · rw [if_pos h2, h2, show BitVec.ofInt 64 (-((1 : Nat) : Int)) = BitVec.allOnes 64 from rfl, BitVec.xor_allOnes, BitVec.toNat_not, BitVec.toNat_ofNat]
    omega
  · rw [if_neg h2, show n % 2 = 0 by omega, show BitVec.ofInt 64 (-((0 : Nat) : Int)) = 0#64 from rfl, BitVec.xor_zero, BitVec.toNat_ofNat]
    omega
theorem ugo_lt (bits : Nat) (hb : bits ≤ 64) : ∀ (l : List UInt8) (sh n : Nat) (d : List UInt8), n < 2 ^ sh → (ugo bits l sh n d).1 < 2 ^ bits := by
  intro l
  induction l with
  | nil => intro sh n d _; exact Nat.two_pow_pos _
  | cons c t ih =>
    intro sh n d hn
    by_cases hbad : bits ≤ sh ∨ bits < sh + 7 ∧ 2 ^ (bits - sh) ≤ c.toNat % 128
    · rw [ugo_bad hbad]; exact Nat.two_pow_pos _
    · by_cases hbig : 128 ≤ c.toNat
      · rw [ugo_more hbad hbig]; exact ih _ _ _ (next_lt _ _ _ hn (by omega))
      · by_cases hz : c.toNat = 0 ∧ 0 < sh
        · rw [ugo_zero hbad hz.1 hz.2]; exact Nat.two_pow_pos _
        · rw [ugo_last hbad (by omega) hz]
          show n + c.toNat % 128 * 2 ^ sh < 2 ^ bits
          have hsh : sh ≤ bits := by
            rcases Nat.lt_or_ge sh bits with h | h
            · omega
            · exact absurd (.inl h) hbad
          have e : 2 ^ bits = 2 ^ (bits - sh) * 2 ^ sh := by rw [← Nat.pow_add]; congr 1; omega
          have hm : c.toNat % 128 < 2 ^ (bits - sh) := by
            by_cases h7 : bits < sh + 7
            · rcases Nat.lt_or_ge (c.toNat % 128) (2 ^ (bits - sh)) with h | h
              · exact h
              · exact absurd (.inr ⟨h7, h⟩) hbad
            · have : 2 ^ 7 ≤ 2 ^ (bits - sh) := Nat.pow_le_pow_right (by decide) (by omega)
              omega
          have : (c.toNat % 128 + 1) * 2 ^ sh ≤ 2 ^ (bits - sh) * 2 ^ sh := Nat.mul_le_mul_right _ hm
          rw [Nat.add_mul] at this
          omega
theorem uget_lt (bits : Nat) (hb : bits ≤ 64) (i : ISt) : (i.uget bits).1 < 2 ^ bits := by
  unfold ISt.uget
  split
  · exact Nat.two_pow_pos _
  · exact ugo_lt bits hb _ _ _ _ (by decide)
def ISt.varV (i : ISt) (bits : Nat) : Int := backN (i.uget bits).1
def ISt.varS (i : ISt) (bits : Nat) : ISt := (i.uget bits).2
theorem backN_bd (n b : Nat) (h : n < 2 ^ (b + 1)) : -(2 ^ b : Int) ≤ backN n ∧ backN n < 2 ^ b := by
  rw [Nat.pow_succ] at h
  have e : ((2 : Int) ^ b) = ((2 ^ b : Nat) : Int) := by rw [Int.natCast_pow]; rfl
  rw [e]
  generalize 2 ^ b = q at h
  unfold backN
  split <;> omega
theorem varV32 (i : ISt) : -2147483648 ≤ i.varV 32 ∧ i.varV 32 < 2147483648 := backN_bd _ 31 (uget_lt 32 (by decide) i)
theorem varV64 (i : ISt) : -9223372036854775808 ≤ i.varV 64 ∧ i.varV 64 < 9223372036854775808 := backN_bd _ 63 (uget_lt 64 (by decide) i)

set_option maxHeartbeats 400000 in
theorem back_calls (n : Nat) (w : World) (h : (n : Int) < 18446744073709551616) :
    Calls Try.prog 102 #[.int .u64 n] w fun en w' => en = .returned (.int .i64 (backN n)) ∧ w = w' := by
  have hb := back_law n (by omega)
  have h1 : Go.bits .and .u64 (n : Int) 1 = ((n % 2 : Nat) : Int) := by
    rw [u64_and _ _ (by omega) h (by decide) (by decide)]
    show (((n &&& 1 : Nat)) : Int) = _
    rw [nat_mask1]
  have h2 : wrap64 (-wrap64 ((n % 2 : Nat) : Int)) = -((n % 2 : Nat) : Int) := by unfold wrap64; omega
  have Hb := Lib.hid hb; clear hb
  have H1 := Lib.hid h1; clear h1
  have H2 := Lib.hid h2; clear h2
  go_enter Try.func102, Try.ntmps102
  go_wp2
  go_ret
  exact ⟨ret_int (by rw [H1.out, H2.out, ← Hb.out]; rfl), rfl⟩
section
variable {F : List Asn} {w : World} {g : Nat} {i : ISt}
set_option maxHeartbeats 400000 in
theorem long_calls (H : Hd (Inp g i :: F) w) : Calls Try.prog 35 #[.pointer (some ⟨g, 0, none⟩)] w fun en w' => en = .returned (.int .i64 (i.varV 64)) ∧ Hd (Inp g (i.varS 64) :: F) w' := by
  have hl := uget_lt 64 (by decide) i
  have hl2 : ((i.uget 64).1 : Int) < 18446744073709551616 := Int.ofNat_lt.2 hl
  clear hl
  go_enter Try.func35, Try.ntmps35
  go_wp2_with fail
  refine (unsigned_calls 64 (.inr rfl) H).mono ?_
  rintro en w1 ⟨rfl, HH⟩
  go_wp2_with fail
  refine (back_calls _ _ hl2).mono ?_
  rintro en w1 ⟨rfl, rfl⟩
  go_wp2
  go_ret
  exact ⟨rfl, HH⟩
set_option maxHeartbeats 400000 in
theorem vint_calls (H : Hd (Inp g i :: F) w) : Calls Try.prog 105 #[.pointer (some ⟨g, 0, none⟩)] w fun en w' => en = .returned (.int .i64 (i.varV 32)) ∧ Hd (Inp g (i.varS 32) :: F) w' := by
  have hl := uget_lt 32 (by decide) i
  have hl2 : ((i.uget 32).1 : Int) < 18446744073709551616 := Int.ofNat_lt.2 (Nat.lt_trans hl (by decide))
  clear hl
  go_enter Try.func105, Try.ntmps105
  go_wp2_with fail
  refine (unsigned_calls 32 (.inl rfl) H).mono ?_
  rintro en w1 ⟨rfl, HH⟩
  go_wp2_with fail
  refine (back_calls _ _ hl2).mono ?_
  rintro en w1 ⟨rfl, rfl⟩
  go_wp2
  go_ret
  exact ⟨rfl, HH⟩
end

/-! ### blobs -/
structure Blob where
  nu : Bool
  d : List UInt8
  deriving DecidableEq
def Blob.len (b : Blob) : Int := if b.nu then -1 else b.d.length
def Blob.right (b : Blob) : Bool := !b.nu || b.d.isEmpty
theorem Blob.ext_iff' (a b : Blob) : a = b ↔ a.nu = b.nu ∧ a.d = b.d := by cases a; cases b; simp
theorem eq_blob (a b : Blob) (w : World) : (binOp .eql 28 (.agg #[.bool a.nu, .string (toS a.d)]) (.agg #[.bool b.nu, .string (toS b.d)])).run Try.prog w = .ok (.bool (decide (a = b))) w := by
  have h28 := Try.underlying28
  have h1 := toS_list a.d
  have h2 := toS_list b.d
  go_simp
  by_cases h : a = b
  · rw [if_pos ((Blob.ext_iff' a b).1 h).1, if_pos ((Blob.ext_iff' a b).1 h).2]; simp [h]
  · by_cases hn : a.nu = b.nu
    · rw [if_pos hn, if_neg (fun hd => h ((Blob.ext_iff' a b).2 ⟨hn, hd⟩))]; simp [h]
    · rw [if_neg hn]; simp [h]
theorem blen_bd (b : Blob) (h : b.d.length ≤ 140737488355328) : -9223372036854775808 ≤ b.len ∧ b.len ≤ 9223372036854775807 := by
  unfold Blob.len; split <;> omega
section
variable {F : List Asn} {w : World} {g : Nat}
set_option maxHeartbeats 400000 in
theorem blength_calls (b : Blob) (H : Hd F w) : Calls Try.prog 99 #[.agg #[.bool b.nu, .string (toS b.d)]] w fun en w' => en = .returned (.int .i64 b.len) ∧ Hd F w' := by
  have hs := toS_size b.d
  obtain ⟨nu, d⟩ := b
  cases nu
  · rw [show Blob.len ⟨false, d⟩ = (d.length : Int) from rfl]
    go_enter Try.func99, Try.ntmps99
    go_wp2
    go_ret
    exact ⟨rfl, H.allocO _⟩
  · go_enter Try.func99, Try.ntmps99
    go_wp2
    go_ret
    exact ⟨rfl, H.allocO _⟩
set_option maxHeartbeats 400000 in
theorem bright_calls (b : Blob) (H : Hd F w) : Calls Try.prog 81 #[.agg #[.bool b.nu, .string (toS b.d)]] w fun en w' => en = .returned (.bool b.right) ∧ Hd F w' := by
  have hs : (toS b.d).toList.isEmpty = b.d.isEmpty := by rw [toS_list]
  obtain ⟨nu, d⟩ := b
  cases nu
  · rw [show Blob.right ⟨false, d⟩ = true from rfl]
    go_enter Try.func81, Try.ntmps81
    go_wp2
    go_ret
    exact ⟨rfl, H.allocO _⟩
  · rw [show Blob.right ⟨true, d⟩ = d.isEmpty from rfl]
    have hs2 : (toS d).toList.isEmpty = d.isEmpty := hs
    clear hs
    go_enter Try.func81, Try.ntmps81
    go_wp2
    go_ret
    exact ⟨rfl, H.allocO _⟩
end

def OSt.bw (o : OSt) (b : Blob) : OSt := if b.right then o.put b.d else o.fail 4
theorem OSt.bw_mono (o : OSt) (b : Blob) : o.b.length ≤ (o.bw b).b.length := by
  unfold OSt.bw
  split
  · exact (OSt.put_len _ _).1
  · rw [OSt.fail_b]; exact Nat.le_refl _
def OSt.fixed (o : OSt) (b : Blob) (size : Nat) : OSt := (o.int b.len size).bw b
def OSt.varied (o : OSt) (b : Blob) : OSt := (o.pint b.len).bw b
theorem OSt.fixed_mono (o : OSt) (b : Blob) (size : Nat) : o.b.length ≤ (o.fixed b size).b.length := Nat.le_trans (OSt.int_mono _ _ _) (OSt.bw_mono _ _)
theorem OSt.varied_mono (o : OSt) (b : Blob) : o.b.length ≤ (o.varied b).b.length := Nat.le_trans (OSt.pint_mono _ _) (OSt.bw_mono _ _)
section
variable {F : List Asn} {w : World} {g : Nat} {o : OSt}
set_option maxHeartbeats 400000 in
theorem bwrite_calls (b : Blob) (H : Hd (Out g o :: F) w) (hl : (o.bw b).b.length ≤ 140737488355328) :
    Calls Try.prog 100 #[.pointer (some ⟨g, 0, none⟩), .agg #[.bool b.nu, .string (toS b.d)]] w fun en w' => en = .returned (.tuple #[]) ∧ Hd (Out g (o.bw b) :: F) w' := by
  have K := (H.alloc #[.bool b.nu, .string (toS b.d)] 28).f2
  have HB := bright_calls (F := Out g o :: Cel w.heap.size #[.bool b.nu, .string (toS b.d)] 28 :: F) b (w := w.alloc (.cells #[.bool b.nu, .string (toS b.d)] 28)) K
  by_cases hr : b.right = true
  · rw [hr] at HB
    rw [show o.bw b = o.put b.d from if_pos hr] at hl ⊢
    have HB2 := Lib.hid HB; clear HB hr
    go_enter Try.func100, Try.ntmps100
    go_wp2_with fail
    refine HB2.out.mono ?_
    rintro en w1 ⟨rfl, H1⟩
    have c1 : w1.cell? ⟨w.heap.size, 1, none⟩ = some (.string (toS b.d)) := H1.t.c 1
    go_wp2_with fail
    refine (out_put _ H1 (by rw [toL_toS]; exact hl)).mono ?_
    rintro en w2 ⟨rfl, H2⟩
    rw [toL_toS] at H2
    go_wp2
    (first | go_end0 | ((try simp only [Exit.inBlock, Exit.then]); refine bodyPost_ret (results_none rfl _ _ _) rfl ?_))
    exact ⟨rfl, H2.d2⟩
  · have hr' : b.right = false := by simpa using hr
    rw [hr'] at HB
    rw [show o.bw b = o.fail 4 from if_neg hr]
    have HB2 := Lib.hid HB; clear HB hr hr'
    go_enter Try.func100, Try.ntmps100
    go_wp2_with fail
    refine HB2.out.mono ?_
    rintro en w1 ⟨rfl, H1⟩
    go_wp2_with fail
    refine (out_fail 4 H1).mono ?_
    rintro en w2 ⟨rfl, H2⟩
    go_wp2
    (first | go_end0 | ((try simp only [Exit.inBlock, Exit.then]); refine bodyPost_ret (results_none rfl _ _ _) rfl ?_))
    exact ⟨rfl, H2.d2⟩
set_option maxHeartbeats 400000 in
theorem putfixed_calls (b : Blob) (size : Nat) (hs : size = 1 ∨ size = 2 ∨ size = 4 ∨ size = 8) (hb : b.d.length ≤ 140737488355328) (H : Hd (Out g o :: F) w) (hl : (o.fixed b size).b.length ≤ 140737488355328) :
    Calls Try.prog 32 #[.pointer (some ⟨g, 0, none⟩), .agg #[.bool b.nu, .string (toS b.d)], .int .i64 size] w fun en w' => en = .returned (.tuple #[]) ∧ Hd (Out g (o.fixed b size) :: F) w' := by
  obtain ⟨hb1, hb2⟩ := blen_bd b hb
  have K := (H.alloc #[.bool b.nu, .string (toS b.d)] 28).f2
  go_enter Try.func32, Try.ntmps32
  go_wp2_with fail
  refine (blength_calls b K).mono ?_
  rintro en w1 ⟨rfl, H1⟩
  go_wp2_with fail
  refine (out_int b.len size hs hb1 hb2 H1 (Nat.le_trans (OSt.bw_mono _ _) hl)).mono ?_
  rintro en w2 ⟨rfl, H2⟩
  have c0 : w2.cell? ⟨w.heap.size, 0, none⟩ = some (.bool b.nu) := H2.t.c 0
  have c1 : w2.cell? ⟨w.heap.size, 1, none⟩ = some (.string (toS b.d)) := H2.t.c 1
  go_wp2_with fail
  refine (bwrite_calls b H2 hl).mono ?_
  rintro en w3 ⟨rfl, H3⟩
  go_wp2
  (first | go_end0 | ((try simp only [Exit.inBlock, Exit.then]); refine bodyPost_ret (results_none rfl _ _ _) rfl ?_))
  exact ⟨rfl, H3.d2⟩
set_option maxHeartbeats 400000 in
theorem putvaried_calls (b : Blob) (hb : b.d.length ≤ 140737488355328) (H : Hd (Out g o :: F) w) (hl : (o.varied b).b.length ≤ 140737488355328) :
    Calls Try.prog 31 #[.pointer (some ⟨g, 0, none⟩), .agg #[.bool b.nu, .string (toS b.d)]] w fun en w' => en = .returned (.tuple #[]) ∧ Hd (Out g (o.varied b) :: F) w' := by
  obtain ⟨hb1, hb2⟩ := blen_bd b hb
  have K := (H.alloc #[.bool b.nu, .string (toS b.d)] 28).f2
  go_enter Try.func31, Try.ntmps31
  go_wp2_with fail
  refine (blength_calls b K).mono ?_
  rintro en w1 ⟨rfl, H1⟩
  go_wp2_with fail
  refine (putint_calls b.len hb1 hb2 H1 (Nat.le_trans (OSt.bw_mono _ _) hl)).mono ?_
  rintro en w2 ⟨rfl, H2⟩
  have c0 : w2.cell? ⟨w.heap.size, 0, none⟩ = some (.bool b.nu) := H2.t.c 0
  have c1 : w2.cell? ⟨w.heap.size, 1, none⟩ = some (.string (toS b.d)) := H2.t.c 1
  go_wp2_with fail
  refine (bwrite_calls b H2 hl).mono ?_
  rintro en w3 ⟨rfl, H3⟩
  go_wp2
  (first | go_end0 | ((try simp only [Exit.inBlock, Exit.then]); refine bodyPost_ret (results_none rfl _ _ _) rfl ?_))
  exact ⟨rfl, H3.d2⟩
set_option maxHeartbeats 400000 in
theorem bof_calls (d : List UInt8) (H : Hd F w) : Calls Try.prog 113 #[.string (toS d)] w fun en w' => en = .returned (.agg #[.bool false, .string (toS d)]) ∧ Hd F w' := by
  go_enter Try.func113, Try.ntmps113
  go_wp2
  refine bodyPost_ret (v := .agg #[.bool false, .string (toS d)]) (by simp [results, Try.results113, go_sem]) rfl ⟨rfl, ?_⟩
  exact H.allocO _
end

section
variable {F : List Asn} {w : World} {g : Nat} {o : OSt} {i : ISt}
set_option maxHeartbeats 400000 in
theorem bnone_calls (H : Hd F w) : Calls Try.prog 150 #[] w fun en w' => en = .returned (.agg #[.bool true, .string (toS [])]) ∧ Hd F w' := by
  go_enter Try.func150, Try.ntmps150
  go_wp2
  refine bodyPost_ret (v := .agg #[.bool true, .string (toS [])]) (by simp [results, Try.results150, go_sem]; rfl) rfl ⟨rfl, ?_⟩
  exact H.allocO _
set_option maxHeartbeats 400000 in
theorem puttext_calls (d : List UInt8) (hb : d.length ≤ 140737488355328) (H : Hd (Out g o :: F) w) (hl : (o.fixed ⟨false, d⟩ 2).b.length ≤ 140737488355328) :
    Calls Try.prog 108 #[.pointer (some ⟨g, 0, none⟩), .string (toS d)] w fun en w' => en = .returned (.tuple #[]) ∧ Hd (Out g (o.fixed ⟨false, d⟩ 2) :: F) w' := by
  go_enter Try.func108, Try.ntmps108
  go_wp2_with fail
  refine (bof_calls d H).mono ?_
  rintro en w1 ⟨rfl, H1⟩
  go_wp2_with fail
  refine (putfixed_calls ⟨false, d⟩ 2 (by omega) hb H1 hl).mono ?_
  rintro en w2 ⟨rfl, H2⟩
  go_wp2
  (first | go_end0 | ((try simp only [Exit.inBlock, Exit.then]); refine bodyPost_ret (results_none rfl _ _ _) rfl ?_))
  exact ⟨rfl, H2⟩
set_option maxHeartbeats 400000 in
theorem putname_calls (d : List UInt8) (hb : d.length ≤ 140737488355328) (H : Hd (Out g o :: F) w) (hl : (o.varied ⟨false, d⟩).b.length ≤ 140737488355328) :
    Calls Try.prog 160 #[.pointer (some ⟨g, 0, none⟩), .string (toS d)] w fun en w' => en = .returned (.tuple #[]) ∧ Hd (Out g (o.varied ⟨false, d⟩) :: F) w' := by
  go_enter Try.func160, Try.ntmps160
  go_wp2_with fail
  refine (bof_calls d H).mono ?_
  rintro en w1 ⟨rfl, H1⟩
  go_wp2_with fail
  refine (putvaried_calls ⟨false, d⟩ hb H1 hl).mono ?_
  rintro en w2 ⟨rfl, H2⟩
  go_wp2
  (first | go_end0 | ((try simp only [Exit.inBlock, Exit.then]); refine bodyPost_ret (results_none rfl _ _ _) rfl ?_))
  exact ⟨rfl, H2⟩

/-- The bytes of which the length is known. -/
def ISt.bV (i : ISt) (n : Int) : Blob := if i.e ≠ 0 then ⟨false, []⟩ else if n = -1 then ⟨true, []⟩ else ⟨false, i.takeV n⟩
def ISt.bS (i : ISt) (n : Int) : ISt := if i.e ≠ 0 then i else if n = -1 then i else i.takeS n
set_option maxHeartbeats 400000 in
theorem bread_calls (n : Int) (h1 : -9223372036854775808 ≤ n) (h2 : n ≤ 9223372036854775807) (H : Hd (Inp g i :: F) w) :
    Calls Try.prog 104 #[.pointer (some ⟨g, 0, none⟩), .int .i64 n] w fun en w' => en = .returned (.agg #[.bool (i.bV n).nu, .string (toS (i.bV n).d)]) ∧ Hd (Inp g (i.bS n) :: F) w' := by
  have K := (H.alloc #[.bool false, .string (toS [])] 28).f2
  have HE := in_err K
  by_cases he : i.e = 0
  · have hb : (i.e != 0) = false := by simp [he]
    by_cases hn : n = -1
    · rw [show i.bV n = ⟨true, []⟩ by simp [ISt.bV, he, hn], show i.bS n = i by simp [ISt.bS, he, hn]]
      subst hn
      have HE2 := Lib.hid HE; clear HE
      go_enter Try.func104, Try.ntmps104
      go_wp2_with fail
      refine HE2.out.mono ?_
      rintro en w1 ⟨rfl, rfl⟩
      go_wp2_with fail
      refine (bnone_calls K).mono ?_
      rintro en w1 ⟨rfl, H1⟩
      have c0 : w1.cell? ⟨w.heap.size, 0, none⟩ = some (.bool false) := H1.t.c 0
      have c1 : w1.cell? ⟨w.heap.size, 1, none⟩ = some (.string (toS [])) := H1.t.c 1
      have z0 := H1.t.z 0
      have z1 := H1.t.z 1
      go_wp2
      refine bodyPost_ret (v := .agg #[.bool true, .string (toS [])]) (by simp [results, Try.results104, go_sem, c0, c1]) rfl ⟨rfl, ?_⟩
      exact ((H1.f2.set 0 _).set 1 _).t
    · have hbn : (n == -1) = false := by simp [hn]
      rw [show i.bV n = ⟨false, i.takeV n⟩ by simp [ISt.bV, he, hn], show i.bS n = i.takeS n by simp [ISt.bS, he, hn]]
      have HE2 := Lib.hid HE; clear HE hn
      go_enter Try.func104, Try.ntmps104
      go_wp2_with fail
      refine HE2.out.mono ?_
      rintro en w1 ⟨rfl, rfl⟩
      go_wp2_with fail
      refine (in_take n h1 h2 K).mono ?_
      rintro en w1 ⟨rfl, H1⟩
      go_wp2_with fail
      refine (bof_calls _ H1).mono ?_
      rintro en w2 ⟨rfl, H2⟩
      have c0 : w2.cell? ⟨w.heap.size, 0, none⟩ = some (.bool false) := H2.t.c 0
      have c1 : w2.cell? ⟨w.heap.size, 1, none⟩ = some (.string (toS [])) := H2.t.c 1
      have z0 := H2.t.z 0
      have z1 := H2.t.z 1
      go_wp2
      refine bodyPost_ret (v := .agg #[.bool false, .string (toS (i.takeV n))]) (by simp [results, Try.results104, go_sem, c0, c1]) rfl ⟨rfl, ?_⟩
      exact ((H2.f2.set 0 _).set 1 _).t
  · have hb : (i.e != 0) = true := bne_iff_ne.2 he
    rw [show i.bV n = ⟨false, []⟩ by simp [ISt.bV, he], show i.bS n = i by simp [ISt.bS, he]]
    have HE2 := Lib.hid HE; clear HE
    go_enter Try.func104, Try.ntmps104
    go_wp2_with fail
    refine HE2.out.mono ?_
    rintro en w1 ⟨rfl, rfl⟩
    go_wp2
    refine bodyPost_ret (v := .agg #[.bool false, .string (toS [])]) (by simp [results, Try.results104, go_sem]; rfl) rfl ⟨rfl, ?_⟩
    exact H.allocO _
set_option maxHeartbeats 400000 in
theorem varied_calls (H : Hd (Inp g i :: F) w) :
    Calls Try.prog 36 #[.pointer (some ⟨g, 0, none⟩)] w fun en w' => en = .returned (.agg #[.bool ((i.varS 32).bV (i.varV 32)).nu, .string (toS ((i.varS 32).bV (i.varV 32)).d)]) ∧ Hd (Inp g ((i.varS 32).bS (i.varV 32)) :: F) w' := by
  have K := (H.alloc #[.bool false, .string (toS [])] 28).f2
  have hv := varV32 i
  go_enter Try.func36, Try.ntmps36
  go_wp2_with fail
  refine (vint_calls K).mono ?_
  rintro en w1 ⟨rfl, H1⟩
  go_wp2_with fail
  refine (bread_calls _ (by omega) (by omega) H1).mono ?_
  rintro en w2 ⟨rfl, H2⟩
  have c0 : w2.cell? ⟨w.heap.size, 0, none⟩ = some (.bool false) := H2.t.c 0
  have c1 : w2.cell? ⟨w.heap.size, 1, none⟩ = some (.string (toS [])) := H2.t.c 1
  have z0 := H2.t.z 0
  have z1 := H2.t.z 1
  go_wp2
  refine bodyPost_ret (v := .agg #[.bool ((i.varS 32).bV (i.varV 32)).nu, .string (toS ((i.varS 32).bV (i.varV 32)).d)]) (by simp [results, Try.results36, go_sem, c0, c1]) rfl ⟨rfl, ?_⟩
  exact ((H2.f2.set 0 _).set 1 _).t
end

theorem intV_bd (i : ISt) (size : Nat) (h : size ≤ 8) : -9223372036854775808 ≤ i.intV size ∧ i.intV size ≤ 9223372036854775807 := by
  unfold ISt.intV
  have hl := takeV_len i size
  cases ht : i.takeV size with
  | nil => exact ⟨by decide, by decide⟩
  | cons c t =>
    rw [ht] at hl
    have h7 : t.length ≤ 7 := by simp at hl; omega
    have := sval_bd c t
    have h2 : (256 : Int) ^ t.length ≤ 72057594037927936 := by
      have h0 : (256 : Nat) ^ t.length ≤ 72057594037927936 := Nat.le_trans (Nat.pow_le_pow_right (by decide) h7) (by decide)
      have h1 := Int.ofNat_le.2 h0
      rw [Int.natCast_pow] at h1
      exact h1
    generalize (256 : Int) ^ t.length = q at this h2
    omega
section
variable {F : List Asn} {w : World} {g : Nat} {o : OSt} {i : ISt}
set_option maxHeartbeats 400000 in
theorem fixed_calls (size : Nat) (hs : 1 ≤ size) (hs2 : size ≤ 8) (H : Hd (Inp g i :: F) w) :
    Calls Try.prog 37 #[.pointer (some ⟨g, 0, none⟩), .int .i64 size] w fun en w' => en = .returned (.agg #[.bool ((i.intS size).bV (i.intV size)).nu, .string (toS ((i.intS size).bV (i.intV size)).d)]) ∧ Hd (Inp g ((i.intS size).bS (i.intV size)) :: F) w' := by
  have K := (H.alloc #[.bool false, .string (toS [])] 28).f2
  have hv := intV_bd i size hs2
  go_enter Try.func37, Try.ntmps37
  go_wp2_with fail
  refine (in_int size hs hs2 K).mono ?_
  rintro en w1 ⟨rfl, H1⟩
  go_wp2_with fail
  refine (bread_calls _ (by omega) (by omega) H1).mono ?_
  rintro en w2 ⟨rfl, H2⟩
  have c0 : w2.cell? ⟨w.heap.size, 0, none⟩ = some (.bool false) := H2.t.c 0
  have c1 : w2.cell? ⟨w.heap.size, 1, none⟩ = some (.string (toS [])) := H2.t.c 1
  have z0 := H2.t.z 0
  have z1 := H2.t.z 1
  go_wp2
  refine bodyPost_ret (v := .agg #[.bool ((i.intS size).bV (i.intV size)).nu, .string (toS ((i.intS size).bV (i.intV size)).d)]) (by simp [results, Try.results37, go_sem, c0, c1]) rfl ⟨rfl, ?_⟩
  exact ((H2.f2.set 0 _).set 1 _).t
def ISt.must (i : ISt) (b : Blob) : ISt := if b.nu then i.fail 4 else i
set_option maxHeartbeats 400000 in
theorem must_calls (b : Blob) (H : Hd (Inp g i :: F) w) :
    Calls Try.prog 154 #[.pointer (some ⟨g, 0, none⟩), .agg #[.bool b.nu, .string (toS b.d)]] w fun en w' => en = .returned (.string (toS b.d)) ∧ Hd (Inp g (i.must b) :: F) w' := by
  have K := (H.alloc #[.bool b.nu, .string (toS b.d)] 28).f2
  obtain ⟨nu, d⟩ := b
  cases nu
  · rw [show i.must ⟨false, d⟩ = i from rfl]
    go_enter Try.func154, Try.ntmps154
    go_wp2
    go_ret
    exact ⟨rfl, K.d2⟩
  · rw [show i.must ⟨true, d⟩ = i.fail 4 from rfl]
    go_enter Try.func154, Try.ntmps154
    go_wp2_with fail
    refine (in_fail 4 K).mono ?_
    rintro en w1 ⟨rfl, H1⟩
    have c1 : w1.cell? ⟨w.heap.size, 1, none⟩ = some (.string (toS d)) := H1.t.c 1
    go_wp2
    go_ret
    exact ⟨rfl, H1.d2⟩
def ISt.varB (i : ISt) : Blob := (i.varS 32).bV (i.varV 32)
def ISt.varBS (i : ISt) : ISt := (i.varS 32).bS (i.varV 32)
def ISt.fixB (i : ISt) (size : Nat) : Blob := (i.intS size).bV (i.intV size)
def ISt.fixBS (i : ISt) (size : Nat) : ISt := (i.intS size).bS (i.intV size)
theorem varied_calls' (H : Hd (Inp g i :: F) w) :
    Calls Try.prog 36 #[.pointer (some ⟨g, 0, none⟩)] w fun en w' => en = .returned (.agg #[.bool i.varB.nu, .string (toS i.varB.d)]) ∧ Hd (Inp g i.varBS :: F) w' := varied_calls H
theorem fixed_calls' (size : Nat) (hs : 1 ≤ size) (hs2 : size ≤ 8) (H : Hd (Inp g i :: F) w) :
    Calls Try.prog 37 #[.pointer (some ⟨g, 0, none⟩), .int .i64 size] w fun en w' => en = .returned (.agg #[.bool (i.fixB size).nu, .string (toS (i.fixB size).d)]) ∧ Hd (Inp g (i.fixBS size) :: F) w' := fixed_calls size hs hs2 H
def ISt.nameB (i : ISt) : Blob := i.varB
def ISt.nameS (i : ISt) : ISt := i.varBS.must i.varB
set_option maxHeartbeats 400000 in
theorem name_calls (H : Hd (Inp g i :: F) w) :
    Calls Try.prog 166 #[.pointer (some ⟨g, 0, none⟩)] w fun en w' => en = .returned (.string (toS i.nameB.d)) ∧ Hd (Inp g i.nameS :: F) w' := by
  go_enter Try.func166, Try.ntmps166
  go_wp2_with fail
  refine (varied_calls H).mono ?_
  rintro en w1 ⟨rfl, H1⟩
  go_wp2_with fail
  refine (must_calls _ H1).mono ?_
  rintro en w2 ⟨rfl, H2⟩
  go_wp2
  go_ret
  exact ⟨rfl, H2⟩
def ISt.textB (i : ISt) : Blob := i.fixB 2
def ISt.textS (i : ISt) : ISt := (i.fixBS 2).must i.textB
set_option maxHeartbeats 400000 in
theorem text_calls (H : Hd (Inp g i :: F) w) :
    Calls Try.prog 78 #[.pointer (some ⟨g, 0, none⟩)] w fun en w' => en = .returned (.string (toS i.textB.d)) ∧ Hd (Inp g i.textS :: F) w' := by
  go_enter Try.func78, Try.ntmps78
  go_wp2_with fail
  refine (fixed_calls 2 (by decide) (by decide) H).mono ?_
  rintro en w1 ⟨rfl, H1⟩
  go_wp2_with fail
  refine (must_calls _ H1).mono ?_
  rintro en w2 ⟨rfl, H2⟩
  go_wp2
  go_ret
  exact ⟨rfl, H2⟩
end
end Go.Proofs.Ytflgfbffglmmeaa
