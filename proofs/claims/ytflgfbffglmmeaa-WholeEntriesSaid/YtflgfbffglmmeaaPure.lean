/-
  What is written is read back; what is cut reads short. No program in sight.
-/
import Derived.Test.YtflgfbffglmmeaaBlob
namespace Go.Proofs.Ytflgfbffglmmeaa
set_option linter.unusedVariables false
set_option linter.unusedSimpArgs false

/-- Of a text that opens with x, f reads x; of a part of it, it says 'short'; behind an error it does nothing. -/
structure Reads (f : ISt → ISt) (x : List UInt8) : Prop where
  full : ∀ d r, f ⟨d, x ++ r, 0⟩ = ⟨d ++ x, r, 0⟩
  cut : ∀ d p q, x = p ++ q → q ≠ [] → (f ⟨d, p, 0⟩).e = 1
  stop : ∀ i, i.e ≠ 0 → f i = i

theorem Reads.bind {α : Type} {f : ISt → ISt} {v : ISt → α} {g : α → ISt → ISt} {a : α} {x y : List UInt8} (hf : Reads f x) (hv : ∀ d r, v ⟨d, x ++ r, 0⟩ = a) (hg : Reads (g a) y)
    (hs : ∀ b i, i.e ≠ 0 → g b i = i) : Reads (fun i => g (v i) (f i)) (x ++ y) where
  full d r := by
    simp only [List.append_assoc, hv, hf.full, hg.full]
  cut d p q h hq := by
    rcases List.append_eq_append_iff.1 h with ⟨t, hp, hy⟩ | ⟨t, hx, hq2⟩
    · subst hp
      simp only [hv, hf.full]
      exact hg.cut _ t q hy hq
    · by_cases ht : t = []
      · subst ht
        simp only [List.append_nil] at hx
        subst hx
        have h1 := hv d []
        have h2 := hf.full d []
        simp only [List.append_nil] at h1 h2
        simp only [h1, h2]
        refine hg.cut _ [] y (by simp) ?_
        exact (show y = q from hq2.symm ▸ rfl) ▸ hq
      · have h1 := hf.cut d p t hx ht
        show (g (v _) (f _)).e = 1
        rw [hs _ _ (by rw [h1]; decide)]
        exact h1
  stop i h := by
    show g (v i) (f i) = i
    rw [hf.stop i h, hs _ _ h]

theorem Reads.comp {f g : ISt → ISt} {x y : List UInt8} (hf : Reads f x) (hg : Reads g y) : Reads (fun i => g (f i)) (x ++ y) :=
  Reads.bind (v := fun _ => ()) (g := fun _ => g) hf (fun _ _ => rfl) hg (fun _ i h => hg.stop i h)
theorem Reads.id : Reads (fun i => i) [] where
  full d r := by simp
  cut d p q h hq := by
    rw [List.nil_eq_append_iff] at h
    exact absurd h.2 hq
  stop _ _ := rfl

theorem takeS_stop (n : Int) (i : ISt) (h : i.e ≠ 0) : i.takeS n = i := if_pos h
theorem reads_take (n : Int) (x : List UInt8) (h : (x.length : Int) = n) : Reads (fun i => i.takeS n) x where
  full d r := by
    subst h
    have h1 : ¬ ((x.length : Int) < 0) := by omega
    have h2 : ¬ (((x ++ r).length : Int) < x.length) := by rw [List.length_append]; omega
    unfold ISt.takeS
    simp only [ne_eq, not_true_eq_false, if_false, h1, h2, Int.toNat_natCast, List.take_left, List.drop_left]
  cut d p q hp hq := by
    subst h
    subst hp
    have h3 : 0 < q.length := List.length_pos_iff.2 hq
    have h1 : ¬ (((p ++ q).length : Int) < 0) := by omega
    have h2 : ((p.length : Int) < (p ++ q).length) := by rw [List.length_append]; omega
    unfold ISt.takeS
    simp only [ne_eq, not_true_eq_false, if_false, h1, h2, if_true, ISt.fail]
  stop i h := takeS_stop n i h
theorem takeV_full (n : Int) (x d r : List UInt8) (h : (x.length : Int) = n) : ISt.takeV ⟨d, x ++ r, 0⟩ n = x := by
  subst h
  have h1 : ¬ ((x.length : Int) < 0) := by omega
  have h2 : ¬ (((x ++ r).length : Int) < x.length) := by rw [List.length_append]; omega
  unfold ISt.takeV
  simp only [ne_eq, not_true_eq_false, if_false, h1, h2, Int.toNat_natCast, List.take_left]

theorem ugo_full (bits : Nat) : ∀ (m sh n : Nat) (d r : List UInt8), sh < bits → m < 2 ^ (bits - sh) → (m ≠ 0 ∨ sh = 0) →
    ugo bits (vput m ++ r) sh n d = (n + m * 2 ^ sh, ⟨d ++ vput m, r, 0⟩) := by
  intro m
  induction m using Nat.strongRecOn with
  | _ m ih =>
    intro sh n d r hb hm h0
    by_cases hlt : m < 128
    · rw [vput_lt hlt]
      have hc : (UInt8.ofNat m).toNat = m := by simp; omega
      have h1 : ¬ (bits ≤ sh ∨ bits < sh + 7 ∧ 2 ^ (bits - sh) ≤ (UInt8.ofNat m).toNat % 128) := by
        rw [hc, Nat.mod_eq_of_lt hlt]; omega
      rw [List.singleton_append, ugo_last h1 (by rw [hc]; exact hlt) (by rw [hc]; omega), hc, Nat.mod_eq_of_lt hlt]
    · rw [vput_ge (by omega)]
      have hc : (UInt8.ofNat (m % 128 + 128)).toNat = m % 128 + 128 := by simp; omega
      have hc2 : (m % 128 + 128) % 128 = m % 128 := by omega
      have hmod : m % 128 ≤ m := Nat.mod_le _ _
      have h1 : ¬ (bits ≤ sh ∨ bits < sh + 7 ∧ 2 ^ (bits - sh) ≤ (UInt8.ofNat (m % 128 + 128)).toNat % 128) := by
        rw [hc, hc2]; omega
      have h7 : 7 < bits - sh := by
        by_cases hh : 7 < bits - sh
        · exact hh
        · have : 2 ^ (bits - sh) ≤ 2 ^ 7 := Nat.pow_le_pow_right (by decide) (by omega)
          omega
      have hp : 2 ^ (bits - sh) = 2 ^ (bits - (sh + 7)) * 128 := by
        rw [show bits - sh = (bits - (sh + 7)) + 7 by omega, Nat.pow_add]
      rw [List.cons_append, ugo_more h1 (by rw [hc]; omega), hc, hc2, ih (m / 128) (by omega) (sh + 7) _ _ r (by omega) (by omega) (by omega)]
      have : n + m % 128 * 2 ^ sh + m / 128 * 2 ^ (sh + 7) = n + m * 2 ^ sh := by
        rw [Nat.pow_add]
        have e : m / 128 * (2 ^ sh * 2 ^ 7) = (m / 128 * 128) * 2 ^ sh := by rw [Nat.mul_assoc, Nat.mul_comm (2 ^ sh)]
        rw [e, Nat.add_assoc, ← Nat.add_mul]
        congr 2
        omega
      rw [this]
      simp
theorem ugo_cut (bits : Nat) : ∀ (m sh n : Nat) (d p q : List UInt8), sh < bits → m < 2 ^ (bits - sh) → vput m = p ++ q → q ≠ [] →
    (ugo bits p sh n d).2.e = 1 := by
  intro m
  induction m using Nat.strongRecOn with
  | _ m ih =>
    intro sh n d p q hb hm hp hq
    cases p with
    | nil => rfl
    | cons c p =>
      by_cases hlt : m < 128
      · rw [vput_lt hlt] at hp
        simp at hp
        exact absurd hp.2.2 hq
      · rw [vput_ge (by omega)] at hp
        simp only [List.cons_append, List.cons.injEq] at hp
        obtain ⟨rfl, hp⟩ := hp
        have hc : (UInt8.ofNat (m % 128 + 128)).toNat = m % 128 + 128 := by simp; omega
        have hc2 : (m % 128 + 128) % 128 = m % 128 := by omega
        have hmod : m % 128 ≤ m := Nat.mod_le _ _
        have h1 : ¬ (bits ≤ sh ∨ bits < sh + 7 ∧ 2 ^ (bits - sh) ≤ (UInt8.ofNat (m % 128 + 128)).toNat % 128) := by
          rw [hc, hc2]; omega
        have h7 : 7 < bits - sh := by
          by_cases hh : 7 < bits - sh
          · exact hh
          · have : 2 ^ (bits - sh) ≤ 2 ^ 7 := Nat.pow_le_pow_right (by decide) (by omega)
            omega
        have hpw : 2 ^ (bits - sh) = 2 ^ (bits - (sh + 7)) * 128 := by
          rw [show bits - sh = (bits - (sh + 7)) + 7 by omega, Nat.pow_add]
        rw [ugo_more h1 (by rw [hc]; omega)]
        exact ih (m / 128) (by omega) (sh + 7) _ _ p q (by omega) (by omega) hp hq
theorem reads_var (bits : Nat) (hb : 0 < bits) (n : Int) (hn : foldN n < 2 ^ bits) : Reads (fun i => i.varS bits) (vint n) where
  full d r := by
    unfold ISt.varS ISt.uget vint
    rw [if_neg (by simp)]
    simp only
    rw [ugo_full bits (foldN n) 0 0 d r hb (by simpa using hn) (Or.inr rfl)]
  cut d p q hp hq := by
    unfold ISt.varS ISt.uget
    rw [if_neg (by simp)]
    exact ugo_cut bits (foldN n) 0 0 d p q hb (by simpa using hn) hp hq
  stop i h := by
    unfold ISt.varS ISt.uget
    rw [if_pos h]
theorem varV_full (bits : Nat) (hb : 0 < bits) (n : Int) (hn : foldN n < 2 ^ bits) (d r : List UInt8) : ISt.varV ⟨d, vint n ++ r, 0⟩ bits = n := by
  unfold ISt.varV ISt.uget vint
  rw [if_neg (by simp)]
  simp only
  rw [ugo_full bits (foldN n) 0 0 d r hb (by simpa using hn) (Or.inr rfl)]
  simp [back_fold]
theorem fold64 (n : Int) (h1 : -9223372036854775808 ≤ n) (h2 : n ≤ 9223372036854775807) : foldN n < 2 ^ 64 := by
  have := foldN_lt n h1 h2
  have e : (2 : Nat) ^ 64 = 18446744073709551616 := rfl
  omega
theorem fold32 (n : Int) (h : fitsB n 4 = true) : foldN n < 2 ^ 32 := by
  rw [fits_4] at h
  have := of_decide_eq_true h
  have e : (2 : Nat) ^ 32 = 4294967296 := rfl
  unfold foldN
  split <;> omega
theorem reads_v64 (n : Int) (h1 : -9223372036854775808 ≤ n) (h2 : n ≤ 9223372036854775807) : Reads (fun i => i.varS 64) (vint n) := reads_var 64 (by decide) n (fold64 n h1 h2)
theorem v64_full (n : Int) (h1 : -9223372036854775808 ≤ n) (h2 : n ≤ 9223372036854775807) (d r : List UInt8) : ISt.varV ⟨d, vint n ++ r, 0⟩ 64 = n := varV_full 64 (by decide) n (fold64 n h1 h2) d r
theorem reads_v32 (n : Int) (h : fitsB n 4 = true) : Reads (fun i => i.varS 32) (vint n) := reads_var 32 (by decide) n (fold32 n h)
theorem v32_full (n : Int) (h : fitsB n 4 = true) (d r : List UInt8) : ISt.varV ⟨d, vint n ++ r, 0⟩ 32 = n := varV_full 32 (by decide) n (fold32 n h) d r

theorem ediv256 (n m : Int) : n / 256 / m = n / (256 * m) := by
  rw [Int.ediv_ediv, if_neg (by simp), Int.sub_zero]
theorem be_snoc (n : Int) (k : Nat) : be n (k + 1) = be (n / 256) k ++ [beAt n (k + 1) k] := by
  unfold be
  rw [List.range_succ, List.map_append]
  congr 1
  refine List.map_congr_left fun i hi => ?_
  have hik : i < k := List.mem_range.1 hi
  unfold beAt
  rw [show k + 1 - 1 - i = (k - 1 - i) + 1 by omega, show 8 * (k - 1 - i + 1) = 8 + 8 * (k - 1 - i) by omega, Int.pow_add, show (2 : Int) ^ 8 = 256 from rfl, ← ediv256]
theorem sval_be (k : Nat) : ∀ n : Int, -(2 ^ (8 * k + 7)) ≤ n → n < 2 ^ (8 * k + 7) → sval (be n (k + 1)) = n := by
  induction k with
  | zero =>
    intro n h1 h2
    have h1' : -128 ≤ n := h1
    have h2' : n < 128 := h2
    show sval [beAt n 1 0] = n
    have hb : ((beAt n 1 0).toNat : Int) = n % 256 := by
      unfold beAt
      simp
      omega
    unfold sval
    simp only [List.foldl_nil]
    rw [hb]
    split <;> omega
  | succ k ih =>
    intro n h1 h2
    have e : (2 : Int) ^ (8 * (k + 1) + 7) = 256 * 2 ^ (8 * k + 7) := by
      rw [show 8 * (k + 1) + 7 = 8 + (8 * k + 7) by omega, Int.pow_add]; rfl
    rw [e] at h1 h2
    have hs := ih (n / 256) (by omega) (by omega)
    rw [be_snoc]
    obtain ⟨c, t, hct⟩ : ∃ c t, be (n / 256) (k + 1) = c :: t := by
      cases hq : be (n / 256) (k + 1) with
      | nil => have := be_length (n / 256) (k + 1); rw [hq] at this; simp at this
      | cons c t => exact ⟨c, t, rfl⟩
    rw [hct] at hs ⊢
    rw [List.cons_append, sval_snoc, hs]
    have hb : ((beAt n (k + 1 + 1) (k + 1)).toNat : Int) = n % 256 := by
      unfold beAt
      simp
      omega
    rw [hb]
    omega
theorem sval_fits (n : Int) (size : Nat) (hs : 1 ≤ size) (h : fitsB n size = true) : sval (be n size) = n := by
  obtain ⟨k, rfl⟩ : ∃ k, size = k + 1 := ⟨size - 1, by omega⟩
  have := of_decide_eq_true h
  rw [show 8 * (k + 1) - 1 = 8 * k + 7 by omega] at this
  exact sval_be k n this.1 this.2
theorem reads_int (n : Int) (size : Nat) : Reads (fun i => i.intS size) (be n size) := reads_take size (be n size) (by rw [be_length])
theorem int_full (n : Int) (size : Nat) (hs : 1 ≤ size) (h : fitsB n size = true) (d r : List UInt8) : ISt.intV ⟨d, be n size ++ r, 0⟩ size = n := by
  unfold ISt.intV
  rw [takeV_full _ _ _ _ (by rw [be_length]), sval_fits n size hs h]

theorem bS_stop (n : Int) (i : ISt) (h : i.e ≠ 0) : i.bS n = i := if_pos h
theorem bright_cases (b : Blob) (h : b.right = true) : (b.nu = true ∧ b.d = [] ∧ b.len = -1) ∨ (b.nu = false ∧ b.len = b.d.length) := by
  obtain ⟨nu, d⟩ := b
  cases nu <;> simp_all [Blob.right, Blob.len]
theorem reads_blob (b : Blob) (h : b.right = true) : Reads (fun i => i.bS b.len) b.d := by
  rcases bright_cases b h with ⟨h1, h2, h3⟩ | ⟨h1, h2⟩
  · rw [h2, h3]
    have : (fun i : ISt => i.bS (-1)) = fun i => i := by
      funext i
      unfold ISt.bS
      split <;> simp
    rw [this]
    exact Reads.id
  · have : (fun i : ISt => i.bS b.len) = fun i => i.takeS b.len := by
      funext i
      unfold ISt.bS ISt.takeS
      rw [h2]
      by_cases hi : i.e ≠ 0
      · rw [if_pos hi, if_pos hi]
      · rw [if_neg hi, if_neg hi, if_neg (by omega)]
    rw [this]
    exact reads_take _ _ h2.symm
theorem blob_full (b : Blob) (h : b.right = true) (d r : List UInt8) : ISt.bV ⟨d, b.d ++ r, 0⟩ b.len = b := by
  obtain ⟨nu, l⟩ := b
  unfold ISt.bV
  rw [if_neg (by simp)]
  rcases bright_cases ⟨nu, l⟩ h with ⟨h1, h2, h3⟩ | ⟨h1, h2⟩
  · rw [h3, if_pos rfl]; simp only at h1 h2; rw [h1, h2]
  · rw [h2, if_neg (by omega), takeV_full _ _ _ _ rfl]; simp only at h1; rw [h1]

theorem reads_varB (b : Blob) (h : b.right = true) (hf : fitsB b.len 4 = true) : Reads (fun i => i.varBS) (vint b.len ++ b.d) :=
  Reads.bind (v := fun i => i.varV 32) (g := fun n i => i.bS n) (reads_v32 _ hf) (fun d r => v32_full _ hf d r) (reads_blob b h) (fun n i hi => bS_stop n i hi)
theorem varB_full (b : Blob) (h : b.right = true) (hf : fitsB b.len 4 = true) (d r : List UInt8) : ISt.varB ⟨d, (vint b.len ++ b.d) ++ r, 0⟩ = b := by
  unfold ISt.varB
  rw [List.append_assoc, v32_full _ hf, (reads_v32 _ hf).full, blob_full b h]
theorem reads_fixB (b : Blob) (size : Nat) (hs : 1 ≤ size) (h : b.right = true) (hf : fitsB b.len size = true) : Reads (fun i => i.fixBS size) (be b.len size ++ b.d) :=
  Reads.bind (v := fun i => i.intV size) (g := fun n i => i.bS n) (reads_int _ size) (fun d r => int_full _ size hs hf d r) (reads_blob b h) (fun n i hi => bS_stop n i hi)
theorem fixB_full (b : Blob) (size : Nat) (hs : 1 ≤ size) (h : b.right = true) (hf : fitsB b.len size = true) (d r : List UInt8) : ISt.fixB ⟨d, (be b.len size ++ b.d) ++ r, 0⟩ size = b := by
  unfold ISt.fixB
  rw [List.append_assoc, int_full _ size hs hf, (reads_int _ size).full, blob_full b h]
end Go.Proofs.Ytflgfbffglmmeaa
