/-
  What the program's Input does, method by method.
-/
import Derived.Test.YtflgfbffglmmeaaLib
import Derived.Test.YtflgfbffglmmeaaProg
namespace Go.Proofs.Ytflgfbffglmmeaa
open Go.RowKit
set_option linter.unusedVariables false
set_option linter.unusedSimpArgs false

/-- An Input: what was read, what was not, and what went wrong. -/
structure ISt where
  d : List UInt8
  r : List UInt8
  e : Int
def ISt.cells (i : ISt) : Array Value := #[.string (toS (i.d ++ i.r)), .int .i64 i.d.length, .int .i64 i.e]
def Inp (g : Nat) (i : ISt) : Asn where
  ok w S := (∀ k, S k ↔ k = g) ∧ w.heap[g]? = some (.cells i.cells 167 (0, 0)) ∧ (i.d ++ i.r).length ≤ 140737488355328
  bound h k hk := by
    obtain rfl := (h.1 k).1 hk
    exact blk_lt h.2.1
  stable := by
    rintro w w' S ⟨he, hb, hl⟩ _ hs
    exact ⟨he, (hs g ((he g).2 rfl)).trans hb, hl⟩
section
variable {F : List Asn} {w w' : World} {g : Nat} {i : ISt}
theorem Hd.inp (H : Hd (Inp g i :: F) w) : w.heap[g]? = some (.cells i.cells 167 (0, 0)) := by
  obtain ⟨_, _, hb, _⟩ := H.h
  exact hb
theorem Hd.inl (H : Hd (Inp g i :: F) w) : i.d.length + i.r.length ≤ 140737488355328 := by
  obtain ⟨_, _, _, hl⟩ := H.h
  simpa using hl
theorem Hd.inset (H : Hd (Inp g i :: F) w) (j : ISt) (u : Value) (n : Nat) (hc : i.cells.setIfInBounds n u = j.cells) (hl : (j.d ++ j.r).length ≤ 140737488355328) : Hd (Inp g j :: F) (w.setCell ⟨g, n, none⟩ u) :=
  H.upd fun S ⟨he, hb, _⟩ => ⟨S, ⟨he, by simp [World.setCell, Array.getElem?_modify, hb, hc], hl⟩, Ext.setCell _ _ _, fun k _ hk => Below.heap_setCell _ _ _ _ (fun e => hk ((he k).2 e)), fun _ hk => .inl hk⟩
theorem Hd.inpnew {l : List UInt8} (H : Hd (Cel g #[.string (toS l), .int .i64 0, .int .i64 0] 167 :: F) w) (hl : l.length ≤ 140737488355328) : Hd (Inp g ⟨[], l, 0⟩ :: F) w :=
  H.imp fun S ⟨he, hb⟩ => ⟨S, ⟨he, hb, by simpa using hl⟩, fun _ h => h⟩
end

def ISt.fail (i : ISt) (e : Int) : ISt := if i.e = 0 then ⟨i.d, i.r, e⟩ else i
def ISt.takeS (i : ISt) (n : Int) : ISt := if i.e ≠ 0 then i else if n < 0 then i.fail 4 else if i.r.length < n then i.fail 1 else ⟨i.d ++ i.r.take n.toNat, i.r.drop n.toNat, i.e⟩
def ISt.takeV (i : ISt) (n : Int) : List UInt8 := if i.e ≠ 0 then [] else if n < 0 then [] else if i.r.length < n then [] else i.r.take n.toNat
theorem ISt.fail_err (i : ISt) (e : Int) (h : i.e ≠ 0) : i.fail e = i := if_neg h
theorem ISt.fail_ok (i : ISt) (e : Int) (h : i.e = 0) : i.fail e = ⟨i.d, i.r, e⟩ := if_pos h

theorem ISt.size_le (i : ISt) : (toS (i.d ++ i.r)).size ≤ i.d.length + i.r.length ∧ i.d.length + i.r.length ≤ (toS (i.d ++ i.r)).size := by
  simp [toS_size]
set_option maxHeartbeats 400000 in
theorem in_new {F : List Asn} {w : World} (l : List UInt8) (H : Hd F w) (hl : l.length ≤ 140737488355328) :
    Calls Try.prog 24 #[.string (toS l)] w fun en w' => ∃ g, en = .returned (.pointer (some ⟨g, 0, none⟩)) ∧ Hd (Inp g ⟨[], l, 0⟩ :: F) w' := by
  have K := (H.alloc #[.string (toS l), .int .i64 0, .int .i64 0] 167).inpnew hl
  go_enter Try.func24, Try.ntmps24
  go_wp2
  go_ret
  exact ⟨_, rfl, K⟩

set_option maxHeartbeats 400000 in
theorem in_fail {F : List Asn} {w : World} {g : Nat} {i : ISt} (e : Int) (H : Hd (Inp g i :: F) w) :
    Calls Try.prog 77 #[.pointer (some ⟨g, 0, none⟩), .int .i64 e] w fun en w' => en = .returned (.tuple #[]) ∧ Hd (Inp g (i.fail e) :: F) w' := by
  have c2 : w.cell? ⟨g, 2, none⟩ = some (.int .i64 i.e) := cell_blk H.inp 2
  have z2 := frozen_blk H.inp 2
  by_cases h0 : i.e = 0
  · have hb : (i.e == 0) = true := beq_iff_eq.2 h0
    have K := H.inset ⟨i.d, i.r, e⟩ (.int .i64 e) 2 rfl (by have := H.inl; simpa using this)
    rw [i.fail_ok e h0]
    clear H
    go_enter Try.func77, Try.ntmps77
    go_wp2
    (first | go_end0 | ((try simp only [Exit.inBlock, Exit.then]); refine bodyPost_ret (results_none rfl _ _ _) rfl ?_))
    exact ⟨rfl, K⟩
  · have hb : (i.e == 0) = false := beq_eq_false_iff_ne.2 h0
    rw [i.fail_err e h0]
    go_enter Try.func77, Try.ntmps77
    go_wp2
    (first | go_end0 | ((try simp only [Exit.inBlock, Exit.then]); refine bodyPost_ret (results_none rfl _ _ _) rfl ?_))
    exact ⟨rfl, H⟩

set_option maxHeartbeats 400000 in
theorem in_left {F : List Asn} {w : World} {g : Nat} {i : ISt} (H : Hd (Inp g i :: F) w) :
    Calls Try.prog 106 #[.pointer (some ⟨g, 0, none⟩)] w fun en w' => en = .returned (.int .i64 i.r.length) ∧ Hd (Inp g i :: F) w' := by
  have c0 : w.cell? ⟨g, 0, none⟩ = some (.string (toS (i.d ++ i.r))) := cell_blk H.inp 0
  have c1 : w.cell? ⟨g, 1, none⟩ = some (.int .i64 i.d.length) := cell_blk H.inp 1
  have hl := H.inl
  obtain ⟨hs1, hs2⟩ := i.size_le
  generalize toS (i.d ++ i.r) = s at c0 hs1 hs2
  go_enter Try.func106, Try.ntmps106
  go_wp2
  go_quiet (fail)
  go_wp2
  go_ret
  exact ⟨ret_int (by omega), H.drewN _⟩

set_option maxHeartbeats 400000 in
theorem in_at {F : List Asn} {w : World} {g : Nat} {i : ISt} (H : Hd (Inp g i :: F) w) :
    Calls Try.prog 54 #[.pointer (some ⟨g, 0, none⟩)] w fun en w' => en = .returned (.int .i64 i.d.length) ∧ w = w' := by
  have c1 : w.cell? ⟨g, 1, none⟩ = some (.int .i64 i.d.length) := cell_blk H.inp 1
  go_enter Try.func54, Try.ntmps54
  go_wp2
  go_ret
  exact ⟨rfl, rfl⟩
set_option maxHeartbeats 400000 in
theorem in_err {F : List Asn} {w : World} {g : Nat} {i : ISt} (H : Hd (Inp g i :: F) w) :
    Calls Try.prog 88 #[.pointer (some ⟨g, 0, none⟩)] w fun en w' => en = .returned (.int .i64 i.e) ∧ w = w' := by
  have c2 : w.cell? ⟨g, 2, none⟩ = some (.int .i64 i.e) := cell_blk H.inp 2
  go_enter Try.func88, Try.ntmps88
  go_wp2
  go_ret
  exact ⟨rfl, rfl⟩

def ISt.close (i : ISt) : ISt := if i.r = [] then i else i.fail 2
set_option maxHeartbeats 400000 in
theorem in_close {F : List Asn} {w : World} {g : Nat} {i : ISt} (H : Hd (Inp g i :: F) w) :
    Calls Try.prog 38 #[.pointer (some ⟨g, 0, none⟩)] w fun en w' => en = .returned (.int .i64 i.close.e) ∧ Hd (Inp g i.close :: F) w' := by
  have hl := H.inl
  by_cases hr : i.r = []
  · have hr0 : i.r.length ≤ 0 := by simp [hr]
    rw [show i.close = i from if_pos hr]
    clear hr
    go_enter Try.func38, Try.ntmps38
    go_wp2_with fail
    refine (in_left H).mono ?_
    rintro en w1 ⟨rfl, HH⟩
    have c2 : w1.cell? ⟨g, 2, none⟩ = some (.int .i64 i.e) := cell_blk HH.inp 2
    go_wp2
    go_ret
    exact ⟨rfl, HH⟩
  · have hr0 : 0 < i.r.length := List.length_pos_iff.2 hr
    rw [show i.close = i.fail 2 from if_neg hr]
    clear hr
    go_enter Try.func38, Try.ntmps38
    go_wp2_with fail
    refine (in_left H).mono ?_
    rintro en w1 ⟨rfl, HH⟩
    go_wp2_with fail
    refine (in_fail 2 HH).mono ?_
    rintro en w2 ⟨rfl, HK⟩
    have c2 : w2.cell? ⟨g, 2, none⟩ = some (.int .i64 (i.fail 2).e) := cell_blk HK.inp 2
    go_wp2
    go_ret
    exact ⟨rfl, HK⟩

theorem cut_str (d r : List UInt8) (n : Nat) : (toS (d ++ r)).extract d.length (d.length + n) = toS (r.take n) := by
  unfold toS
  apply ByteArray.ext
  apply Array.ext'
  simp
set_option maxHeartbeats 400000 in
theorem in_take {F : List Asn} {w : World} {g : Nat} {i : ISt} (n : Int) (h1 : -9223372036854775808 ≤ n) (h2 : n ≤ 9223372036854775807) (H : Hd (Inp g i :: F) w) :
    Calls Try.prog 137 #[.pointer (some ⟨g, 0, none⟩), .int .i64 n] w fun en w' => en = .returned (.string (toS (i.takeV n))) ∧ Hd (Inp g (i.takeS n) :: F) w' := by
  have hl := H.inl
  have c2 : w.cell? ⟨g, 2, none⟩ = some (.int .i64 i.e) := cell_blk H.inp 2
  by_cases he : i.e = 0
  · have hb : (i.e != 0) = false := by simp [he]
    by_cases hn : n < 0
    · rw [show i.takeS n = i.fail 4 by simp [ISt.takeS, he, hn], show i.takeV n = [] by simp [ISt.takeV, he, hn]]
      go_enter Try.func137, Try.ntmps137
      go_wp2_with fail
      refine (in_fail 4 H).mono ?_
      rintro en w1 ⟨rfl, HH⟩
      go_wp2
      go_ret
      exact ⟨rfl, HH⟩
    · have c0 : w.cell? ⟨g, 0, none⟩ = some (.string (toS (i.d ++ i.r))) := cell_blk H.inp 0
      have c1 : w.cell? ⟨g, 1, none⟩ = some (.int .i64 i.d.length) := cell_blk H.inp 1
      obtain ⟨hs1, hs2⟩ := i.size_le
      by_cases hk : i.r.length < n
      · rw [show i.takeS n = i.fail 1 by simp [ISt.takeS, he, hn, hk], show i.takeV n = [] by simp [ISt.takeV, he, hn, hk]]
        generalize toS (i.d ++ i.r) = s at c0 hs1 hs2
        have ht : decide ((s.size : Int) - (i.d.length : Int) < n) = true := by simp; omega
        go_enter Try.func137, Try.ntmps137
        go_wp2
        go_quiet (fail)
        go_wp2_with fail
        refine (in_fail 1 (H.drewN _)).mono ?_
        rintro en w1 ⟨rfl, HH⟩
        go_wp2
        go_ret
        exact ⟨rfl, HH⟩
      · rw [show i.takeS n = ⟨i.d ++ i.r.take n.toNat, i.r.drop n.toNat, i.e⟩ by simp [ISt.takeS, he, hn, hk], show i.takeV n = i.r.take n.toNat by simp [ISt.takeV, he, hn, hk]]
        obtain ⟨m, rfl⟩ := Int.eq_ofNat_of_zero_le (show 0 ≤ n by omega)
        have hcut := cut_str i.d i.r m
        have z1 := frozen_blk H.inp 1
        have K := fun a => (H.drewN a).inset ⟨i.d ++ i.r.take m, i.r.drop m, i.e⟩ (.int .i64 (i.d.length + m)) 1 (by simp [ISt.cells]; omega) (by simp; omega)
        generalize toS (i.d ++ i.r) = s at c0 hs1 hs2 hcut
        have ht : decide ((s.size : Int) - (i.d.length : Int) < (m : Int)) = false := by simp; omega
        have Hc := Lib.hid hcut; clear hcut
        go_enter Try.func137, Try.ntmps137
        go_wp2
        go_quiet (fail)
        go_wp2
        go_quiet (fail)
        go_wp2
        go_ret
        exact ⟨ret_str Hc.out, (K _).drewN _⟩
  · have hb : (i.e != 0) = true := bne_iff_ne.2 he
    rw [show i.takeS n = i by simp [ISt.takeS, he], show i.takeV n = [] by simp [ISt.takeV, he]]
    go_enter Try.func137, Try.ntmps137
    go_wp2
    go_ret
    exact ⟨rfl, H⟩

/-- The number that bytes are, the highest first, below 0 if the highest bit is set. -/
def sval : List UInt8 → Int
  | [] => 0
  | c :: t => t.foldl (fun n c => n * 256 + c.toNat) (if c.toNat < 128 then (c.toNat : Int) else c.toNat - 256)
theorem or256 (n : Int) (c : Int) (h1 : -36028797018963968 ≤ n) (h2 : n < 36028797018963968) (h3 : 0 ≤ c) (h4 : c < 256) : Go.bits .or .i64 (n * 256) c = n * 256 + c := by
  have e1 : BitVec.ofInt 64 (n * 256) ||| BitVec.ofInt 64 c = BitVec.ofInt 64 (n * 256) + BitVec.ofInt 64 c := by
    refine (BitVec.add_eq_or_of_and_eq_zero _ _ ?_).symm
    obtain ⟨k, rfl⟩ := Int.eq_ofNat_of_zero_le h3
    apply BitVec.eq_of_toNat_eq
    simp only [BitVec.toNat_and, BitVec.toNat_ofInt, BitVec.toNat_ofNat]
    obtain ⟨q, hq⟩ : ∃ q : Nat, (n * 256 % ((2 ^ 64 : Nat) : Int)).toNat = 256 * q := ⟨(n * 256 % ((2 ^ 64 : Nat) : Int)).toNat / 256, by omega⟩
    rw [hq, show ((k : Int) % ((2 ^ 64 : Nat) : Int)).toNat = k by omega]
    have : 256 * q &&& k = 0 := by
      apply Nat.eq_of_testBit_eq
      intro j
      rw [Nat.testBit_and, show 256 = 2 ^ 8 from rfl, Nat.testBit_two_pow_mul, Nat.zero_testBit]
      by_cases hj : 8 ≤ j
      · rw [show k.testBit j = false from Nat.testBit_lt_two_pow (Nat.lt_of_lt_of_le (show k < 2 ^ 8 by omega) (Nat.pow_le_pow_right (by decide) hj))]
        simp
      · simp [hj]
    simpa using this
  unfold Go.bits
  show IntKind.i64.wrap ((BitVec.ofInt 64 (n * 256) ||| BitVec.ofInt 64 c).toNat : Int) = _
  rw [e1, ← BitVec.ofInt_add, IntKind.wrap_i64, BitVec.toNat_ofInt]
  omega
theorem sval_snoc (c : UInt8) (t : List UInt8) (x : UInt8) : sval (c :: (t ++ [x])) = sval (c :: t) * 256 + x.toNat := by
  simp [sval, List.foldl_append]
theorem sval_fold (t : List UInt8) : ∀ (a A : Int), -A ≤ a → a < A → -(A * 256 ^ t.length) ≤ t.foldl (fun n c => n * 256 + (c.toNat : Int)) a ∧ t.foldl (fun n c => n * 256 + (c.toNat : Int)) a < A * 256 ^ t.length := by
  induction t with
  | nil => intro a A h1 h2; simpa using ⟨h1, h2⟩
  | cons c t ih =>
    intro a A h1 h2
    have := c.toNat_lt
    have := ih (a * 256 + c.toNat) (A * 256) (by omega) (by omega)
    rw [List.length_cons, Int.pow_succ, Int.mul_comm (256 ^ t.length), ← Int.mul_assoc]
    exact this
theorem sval_bd (c : UInt8) (t : List UInt8) : -(128 * 256 ^ t.length) ≤ sval (c :: t) ∧ sval (c :: t) < 128 * 256 ^ t.length := by
  have := c.toNat_lt
  exact sval_fold t _ 128 (by split <;> omega) (by split <;> omega)
theorem sval_take (c : UInt8) (t : List UInt8) (k : Nat) (h : k < t.length) : sval (c :: t.take (k + 1)) = sval (c :: t.take k) * 256 + t[k].toNat := by
  rw [List.take_succ_eq_append_getElem h, sval_snoc]
theorem sval_bd7 (c : UInt8) (t : List UInt8) (h : t.length < 7) : -36028797018963968 ≤ sval (c :: t) ∧ sval (c :: t) < 36028797018963968 := by
  have := sval_bd c t
  have h2 : (256 : Int) ^ t.length ≤ 281474976710656 := by
    have h0 : (256 : Nat) ^ t.length ≤ 281474976710656 := Nat.le_trans (Nat.pow_le_pow_right (by decide) (show t.length ≤ 6 by omega)) (by decide)
    have h1 := Int.ofNat_le.2 h0
    rw [Int.natCast_pow] at h1
    exact h1
  generalize (256 : Int) ^ t.length = q at this h2
  omega
theorem i8_first (c : UInt8) : wrap64 (IntKind.i8.wrap (c.toNat : Int)) = sval [c] := by
  have := c.toNat_lt
  have e : IntKind.i8.wrap (c.toNat : Int) = if c.toNat < 128 then (c.toNat : Int) else c.toNat - 256 := by
    simp [IntKind.wrap, IntKind.bits, IntKind.signed]
    split <;> split <;> omega
  rw [e]
  show _ = if c.toNat < 128 then (c.toNat : Int) else c.toNat - 256
  unfold wrap64
  split <;> omega
def ISt.intV (i : ISt) (size : Nat) : Int := sval (i.takeV size)
def ISt.intS (i : ISt) (size : Nat) : ISt := i.takeS size
theorem takeV_len (i : ISt) (n : Nat) : (i.takeV n).length = 0 ∨ (i.takeV n).length = n := by
  unfold ISt.takeV
  split
  · exact .inl rfl
  · rw [if_neg (by omega)]
    split
    · exact .inl rfl
    · right; rw [Int.toNat_natCast, List.length_take]; omega
theorem str_at (l : List UInt8) (k : Nat) (h : k < l.length) (hs : k < (toS l).size) : (toS l)[k]'hs = l[k] := rfl
set_option maxHeartbeats 400000 in
theorem in_int {F : List Asn} {w : World} {g : Nat} {i : ISt} (size : Nat) (hs : 1 ≤ size) (hs2 : size ≤ 8) (H : Hd (Inp g i :: F) w) :
    Calls Try.prog 76 #[.pointer (some ⟨g, 0, none⟩), .int .i64 size] w fun en w' => en = .returned (.int .i64 (i.intV size)) ∧ Hd (Inp g (i.intS size) :: F) w' := by
  have hK := in_take size (by omega) (by omega) H
  have hlen := takeV_len i size
  unfold ISt.intV ISt.intS
  generalize i.takeV size = l at hK hlen ⊢
  have HK := Lib.hid hK; clear hK
  cases l with
  | nil =>
    have hemp : (toS []).toList.isEmpty = true := by rw [toS_list]; rfl
    go_enter Try.func76, Try.ntmps76
    go_wp2_with fail
    refine HK.out.mono ?_
    rintro en w1 ⟨rfl, HH⟩
    go_wp2
    go_ret
    exact ⟨rfl, HH⟩
  | cons c t =>
    have hl : (c :: t).length = size := by
      rcases hlen with h | h
      · simp at h
      · exact h
    clear hlen
    obtain ⟨s, hsd⟩ : ∃ s, s = toS (c :: t) := ⟨_, rfl⟩
    have hsz1 : s.size ≤ size := by rw [hsd, toS_size]; omega
    have hsz2 : size ≤ s.size := by rw [hsd, toS_size]; omega
    have hne : s.toList.isEmpty = false := by rw [hsd, toS_list]; rfl
    have Hs := Lib.hid hsd
    rw [← hsd] at HK
    clear hsd
    go_enter Try.func76, Try.ntmps76
    go_wp2_with fail
    refine HK.out.mono ?_
    rintro en w1 ⟨rfl, HH⟩
    go_wp2_with fail
    go_loopw [6, 7] (fun x y wr => ∃ k : Nat, k < size ∧ y = .int .i64 ((k : Int) + 1) ∧ x = .int .i64 (sval (c :: t.take k)) ∧ Hd (Inp g (i.takeS size) :: F) wr) (fun _ y _ => size - (intOf y).toNat)
    case atStart => exact ⟨0, by omega, rfl, by rw [List.take_zero, ← i8_first]; simp only [Hs.out]; rfl, HH⟩
    case round =>
      obtain ⟨k, hk, rfl, rfl, HW⟩ := hrel
      by_cases hlt : k + 1 < size
      · have hkt : k < t.length := by simp at hl; omega
        obtain ⟨hb1, hb2⟩ := sval_bd7 c (t.take k) (by rw [List.length_take]; omega)
        have hst := sval_take c t k hkt
        have hat : ∀ h : k + 1 < s.size, s[k + 1]'h = t[k] := by intro h; simp only [Hs.out]; rfl
        have hor := or256 (sval (c :: t.take k)) t[k].toNat hb1 hb2 (by omega) (by have := t[k].toNat_lt; omega)
        rw [← hst] at hor
        generalize sval (c :: t.take k) = x at hb1 hb2 hor ⊢
        clear hst
        have Hor := Lib.hid hor; clear hor
        have Hat := Lib.hid hat; clear hat
        go_wp2
        go_roundw
        case rel => exact ⟨k + 1, hlt, by go_num, by rw [Hat.out, wrap64_byte, Hor.out], HW⟩
        case measure => simp [intOf]; omega
      · have hkt : t.take k = t := List.take_of_length_le (by simp at hl; omega)
        rw [hkt]
        clear hkt
        go_wp2
        go_ret
        exact ⟨rfl, HW⟩
end Go.Proofs.Ytflgfbffglmmeaa
