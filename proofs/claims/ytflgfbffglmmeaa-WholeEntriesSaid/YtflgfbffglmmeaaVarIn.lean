/-
  Numbers of as many bytes as they need: what is read.
-/
import Derived.Test.YtflgfbffglmmeaaIn
import Derived.Test.YtflgfbffglmmeaaVar
import Derived.ScopeJumps
namespace Go.Proofs.Ytflgfbffglmmeaa
open Go.RowKit
set_option linter.unusedVariables false
set_option linter.unusedSimpArgs false

/-- As Q; by a goto to a label: J of that label. -/
def jumpsQ (J : Nat → Act → World → Prop) (Q : Exit → Act → World → Prop) : Exit → Act → World → Prop
  | .goto l, a, w => J l a w
  | e, a, w => Q e a w
section
variable {P : Program} {a : Act} {w : World} {Q : Exit → Act → World → Prop}
theorem jumpsQ_ret {J : Nat → Act → World → Prop} : jumpsQ J Q .ret a w = Q .ret a w := rfl
/-- A scope with several labels: what holds at each jump, and a measure that every pass lowers. Label 0 is come to from above, too. -/
theorem scope_jumps {c X : Code} (hX : findLabel c 0 = some (Code.skip.seq X)) (J : Nat → Act → World → Prop) (μ : Nat → Act → Nat)
    (round : ∀ a w J', J 0 a w → (∀ l' a' w', J l' a' w' → μ l' a' < μ 0 a → J' l' a' w') → X.wp P (jumpsQ J' Q) a w)
    (pass1 : ∀ l a w J', l ≠ 0 → J l a w → (∀ l' a' w', J l' a' w' → μ l' a' < μ l a → J' l' a' w') → ∃ rest, findLabel c l = some rest ∧ rest.wp P (jumpsQ J' Q) a w)
    (first : (∀ a w, J 0 a w → X.wp P (jumpsQ J Q) a w) → c.wp P (jumpsQ J Q) a w) : (Code.scope c).wp P Q a w := by
  have pass : ∀ l a w J', J l a w → (∀ l' a' w', J l' a' w' → μ l' a' < μ l a → J' l' a' w') → ∃ rest, findLabel c l = some rest ∧ rest.wp P (jumpsQ J' Q) a w := by
    intro l a w J' hJ hJ'
    by_cases h : l = 0
    · subst h
      exact ⟨_, hX, wp_seq (wp_skip (round a w J' hJ hJ'))⟩
    · exact pass1 l a w J' h hJ hJ'
  intro b k cs
  have key : ∀ n l a w, μ l a = n → J l a w → ∃ rest, gotoIn l (.inScope c :: k) = some (.code rest :: .inScope c :: k) ∧ ∃ e a' w', Q e a' w' ∧ Arrives P (lone (b.at a (.code rest :: .inScope c :: k)) cs w) b k cs e a' w' := by
    intro n
    induction n using Nat.strongRecOn with
    | _ n ih =>
      intro l a w hn hJ
      obtain ⟨rest, hf, hp⟩ := pass l a w (fun l' a' w' => J l' a' w' ∧ μ l' a' < μ l a) hJ (fun _ _ _ h1 h2 => ⟨h1, h2⟩)
      refine ⟨rest, by simp [gotoIn, hf], ?_⟩
      obtain ⟨e, a1, w1, hq, harr⟩ := hp b (.inScope c :: k) cs
      cases e with
      | normal => exact ⟨.normal, a1, w1, hq, Steps.trans harr (.one step_inScope)⟩
      | exit id => exact ⟨.exit id, a1, w1, hq, fun k' hk => harr k' (by simp [exitTo, hk])⟩
      | goto l' =>
        obtain ⟨hJ', hlt⟩ := hq
        obtain ⟨rest2, hg2, e2, a2, w2, hq2, harr2⟩ := ih _ (by omega) l' a1 w1 rfl hJ'
        exact ⟨e2, a2, w2, hq2, .of_steps (harr _ hg2) harr2⟩
      | ret => exact ⟨_, a1, w1, hq, harr⟩
      | panic ch => exact ⟨_, a1, w1, hq, harr⟩
      | outgrown => exact ⟨_, a1, w1, hq, harr⟩
  obtain ⟨e, a1, w1, hq, harr⟩ := first (fun a w hJ => round a w J hJ (fun _ _ _ h1 _ => h1)) b (.inScope c :: k) cs
  cases e with
  | normal => exact ⟨.normal, a1, w1, hq, .head step_scope (Steps.trans harr (.one step_inScope))⟩
  | exit id => exact ⟨.exit id, a1, w1, hq, fun k' hk => .head step_scope (harr k' (by simp [exitTo, hk]))⟩
  | goto l' =>
    obtain ⟨rest2, hg2, e2, a2, w2, hq2, harr2⟩ := key _ l' a1 w1 rfl hq
    exact ⟨e2, a2, w2, hq2, .of_steps (.head step_scope (harr _ hg2)) harr2⟩
  | ret => exact ⟨_, a1, w1, hq, .of_steps (.one step_scope) harr⟩
  | panic ch => exact ⟨_, a1, w1, hq, .of_steps (.one step_scope) harr⟩
  | outgrown => exact ⟨_, a1, w1, hq, .of_steps (.one step_scope) harr⟩
end

/-- A number of so many bits at most, seven a byte, the lowest first. -/
def ugo (bits : Nat) : List UInt8 → Nat → Nat → List UInt8 → Nat × ISt
  | [], _, _, d => (0, ⟨d, [], 1⟩)
  | c :: t, sh, n, d =>
    if bits ≤ sh ∨ bits < sh + 7 ∧ 2 ^ (bits - sh) ≤ c.toNat % 128 then (0, ⟨d ++ [c], t, 3⟩)
    else if 128 ≤ c.toNat then ugo bits t (sh + 7) (n + c.toNat % 128 * 2 ^ sh) (d ++ [c])
    else if c.toNat = 0 ∧ 0 < sh then (0, ⟨d ++ [c], t, 3⟩)
    else (n + c.toNat % 128 * 2 ^ sh, ⟨d ++ [c], t, 0⟩)
def ISt.uget (bits : Nat) (i : ISt) : Nat × ISt := if i.e ≠ 0 then (0, i) else ugo bits i.r 0 0 i.d

inductive ujump (g bits : Nat) (F : List Asn) (T : Nat × ISt) : Nat → Act → World → Prop
  | at0 {w : World} {j n : Nat} {x y : Int} {d r : List UInt8} {u2 u3 u4 u7 u8 u9 u10 u11 u12 u13 u14 u15 u16 u17 u18 u19 u20 u21 u22 u23 u24 u25 u26 u27 u28 u29 u30 u31 u32 u33 u34 u35 u36 u37 u38 u39 u40 u41 u42 u43 u44 u45 u46 u47 u48 u49 u50 u51 u52 u53 u54 u55 : Value} (hx : x = n) (hy : y = 7 * (j : Int)) (hj : j ≤ 10) (hb : 7 * j < bits + 7) (hn : n < 2 ^ (7 * j)) (hT : Hid (ugo bits r (7 * j) n d = T)) (H : Hd (Inp g ⟨d, r, 0⟩ :: F) w) :
      ujump g bits F T 0 { tmps := #[.pointer (some ⟨g, 0, none⟩), .int .i64 bits, u2, u3, u4, .int .u64 x, .int .i64 y, u7, u8, u9, u10, u11, u12, u13, u14, u15, u16, u17, u18, u19, u20, u21, u22, u23, u24, u25, u26, u27, u28, u29, u30, u31, u32, u33, u34, u35, u36, u37, u38, u39, u40, u41, u42, u43, u44, u45, u46, u47, u48, u49, u50, u51, u52, u53, u54, u55], defers := [] } w
  | at1 {w : World} {d r : List UInt8} {u1 u2 u3 u4 u5 u6 u7 u8 u9 u10 u11 u12 u13 u14 u15 u16 u17 u18 u19 u20 u21 u22 u23 u24 u25 u26 u27 u28 u29 u30 u31 u32 u33 u34 u35 u36 u37 u38 u39 u40 u41 u42 u43 u44 u45 u46 u47 u48 u49 u50 u51 u52 u53 u54 u55 : Value} (hT : Hid (T = (0, ⟨d, r, 3⟩))) (H : Hd (Inp g ⟨d, r, 0⟩ :: F) w) : ujump g bits F T 1 { tmps := #[.pointer (some ⟨g, 0, none⟩), u1, u2, u3, u4, u5, u6, u7, u8, u9, u10, u11, u12, u13, u14, u15, u16, u17, u18, u19, u20, u21, u22, u23, u24, u25, u26, u27, u28, u29, u30, u31, u32, u33, u34, u35, u36, u37, u38, u39, u40, u41, u42, u43, u44, u45, u46, u47, u48, u49, u50, u51, u52, u53, u54, u55], defers := [] } w
def umeas (l : Nat) (a : Act) : Nat := if l = 0 then 200 - (intOf (a.tmps.getD 6 undef)).toNat else 0
theorem and127 (c : UInt8) : Go.bits .and .u64 (c.toNat : Int) 127 = ((c.toNat % 128 : Nat) : Int) := by
  have := c.toNat_lt
  rw [u64_and _ _ (by omega) (by omega) (by decide) (by decide)]
  show (((c.toNat &&& 127 : Nat)) : Int) = _
  rw [nat_mask7]
theorem and128 (c : UInt8) : Go.bits .and .u64 (c.toNat : Int) 128 = if 128 ≤ c.toNat then 128 else 0 := by
  have := c.toNat_lt
  rw [u64_and _ _ (by omega) (by omega) (by decide) (by decide)]
  show (((c.toNat &&& 2 ^ 7 : Nat)) : Int) = _
  rw [nat_bit]
  split <;> omega

theorem orsum (n m k : Nat) (hn : n < 2 ^ k) (hb : (n : Int) < 18446744073709551616) (hs : ((m * 2 ^ k : Nat) : Int) < 18446744073709551616) : Go.bits .or .u64 (n : Int) (IntKind.u64.wrap ((m : Int) * 2 ^ k)) = ((n + m * 2 ^ k : Nat) : Int) := by
  have e : IntKind.u64.wrap ((m : Int) * 2 ^ k) = ((m * 2 ^ k : Nat) : Int) := by
    rw [IntKind.wrap_u64]
    have : ((m : Int) * 2 ^ k) = ((m * 2 ^ k : Nat) : Int) := by rw [Int.natCast_mul, Int.natCast_pow]; rfl
    rw [this]
    generalize m * 2 ^ k = q at hs
    omega
  rw [e, u64_or _ _ (by omega) hb (by omega) hs, Int.toNat_natCast, Int.toNat_natCast]
  congr 1
  rw [Nat.or_comm, Nat.mul_comm, ← Nat.two_pow_add_eq_or_of_lt hn, Nat.add_comm]
theorem room (c k b : Nat) (hc : c < 128) (hk : k + 7 ≤ b) (hb : b ≤ 64) : ((c * 2 ^ k : Nat) : Int) < 18446744073709551616 := by
  have h1 : c * 2 ^ k < 2 ^ 7 * 2 ^ k := Nat.mul_lt_mul_of_pos_right hc (Nat.two_pow_pos k)
  rw [← Nat.pow_add] at h1
  have h2 : 2 ^ (7 + k) ≤ 2 ^ 64 := Nat.pow_le_pow_right (by decide) (by omega)
  have h3 := Nat.lt_of_lt_of_le h1 h2
  have h4 := Int.ofNat_lt.2 h3
  exact h4
theorem room2 (c k b : Nat) (hc : c < 2 ^ (b - k)) (hk : k ≤ b) (hb : b ≤ 64) : ((c * 2 ^ k : Nat) : Int) < 18446744073709551616 := by
  have h1 : c * 2 ^ k < 2 ^ (b - k) * 2 ^ k := Nat.mul_lt_mul_of_pos_right hc (Nat.two_pow_pos k)
  rw [← Nat.pow_add, show b - k + k = b by omega] at h1
  have h2 : 2 ^ b ≤ 2 ^ 64 := Nat.pow_le_pow_right (by decide) hb
  exact Int.ofNat_lt.2 (Nat.lt_of_lt_of_le h1 h2)
theorem div_zero (m k : Nat) (h : m < 2 ^ k) : (m : Int) / 2 ^ k = 0 := by
  have e : ((2 : Int) ^ k) = ((2 ^ k : Nat) : Int) := by rw [Int.natCast_pow]; rfl
  rw [e]
  exact Int.ediv_eq_zero_of_lt (by omega) (Int.ofNat_lt.2 h)
theorem div_pos (m k : Nat) (h : 2 ^ k ≤ m) : ¬ (m : Int) / 2 ^ k = 0 := by
  have e : ((2 : Int) ^ k) = ((2 ^ k : Nat) : Int) := by rw [Int.natCast_pow]; rfl
  rw [e]
  have h1 := Nat.div_pos h (Nat.two_pow_pos k)
  have h2 : (m : Int) / ((2 ^ k : Nat) : Int) = ((m / 2 ^ k : Nat) : Int) := (Int.natCast_ediv _ _).symm
  rw [h2]
  omega
theorem below (n k : Nat) (hn : n < 2 ^ k) (hk : k ≤ 64) : (n : Int) < 18446744073709551616 := by
  have h2 : 2 ^ k ≤ 2 ^ 64 := Nat.pow_le_pow_right (by decide) hk
  exact Int.ofNat_lt.2 (Nat.lt_of_lt_of_le hn h2)
theorem next_lt (n m k : Nat) (hn : n < 2 ^ k) (hm : m < 128) : n + m * 2 ^ k < 2 ^ (k + 7) := by
  have : m * 2 ^ k ≤ 127 * 2 ^ k := Nat.mul_le_mul_right _ (by omega)
  rw [Nat.pow_add]
  omega

theorem ugo_bad {bits : Nat} {c : UInt8} {t : List UInt8} {sh n : Nat} {d : List UInt8} (h : bits ≤ sh ∨ bits < sh + 7 ∧ 2 ^ (bits - sh) ≤ c.toNat % 128) : ugo bits (c :: t) sh n d = (0, ⟨d ++ [c], t, 3⟩) := by
  rw [ugo, if_pos h]
theorem ugo_more {bits : Nat} {c : UInt8} {t : List UInt8} {sh n : Nat} {d : List UInt8} (h : ¬ (bits ≤ sh ∨ bits < sh + 7 ∧ 2 ^ (bits - sh) ≤ c.toNat % 128)) (h2 : 128 ≤ c.toNat) : ugo bits (c :: t) sh n d = ugo bits t (sh + 7) (n + c.toNat % 128 * 2 ^ sh) (d ++ [c]) := by
  rw [ugo, if_neg h, if_pos h2]
theorem ugo_zero {bits : Nat} {c : UInt8} {t : List UInt8} {sh n : Nat} {d : List UInt8} (h : ¬ (bits ≤ sh ∨ bits < sh + 7 ∧ 2 ^ (bits - sh) ≤ c.toNat % 128)) (h2 : c.toNat = 0) (h3 : 0 < sh) : ugo bits (c :: t) sh n d = (0, ⟨d ++ [c], t, 3⟩) := by
  rw [ugo, if_neg h, if_neg (by omega), if_pos ⟨h2, h3⟩]
theorem ugo_last {bits : Nat} {c : UInt8} {t : List UInt8} {sh n : Nat} {d : List UInt8} (h : ¬ (bits ≤ sh ∨ bits < sh + 7 ∧ 2 ^ (bits - sh) ≤ c.toNat % 128)) (h2 : c.toNat < 128) (h3 : ¬ (c.toNat = 0 ∧ 0 < sh)) : ugo bits (c :: t) sh n d = (n + c.toNat % 128 * 2 ^ sh, ⟨d ++ [c], t, 0⟩) := by
  rw [ugo, if_neg h, if_neg (by omega), if_neg h3]

set_option maxRecDepth 100000 in
set_option maxHeartbeats 4000000 in
theorem unsigned_calls {F : List Asn} {w : World} {g : Nat} {i : ISt} (bits : Nat) (hb : bits = 32 ∨ bits = 64) (H : Hd (Inp g i :: F) w) :
    Calls Try.prog 103 #[.pointer (some ⟨g, 0, none⟩), .int .i64 bits] w fun en w' => en = .returned (.int .u64 (i.uget bits).1) ∧ Hd (Inp g (i.uget bits).2 :: F) w' := by
  go_enter Try.func103, Try.ntmps103
  go_wp2
  refine scope_jumps rfl (ujump g bits F (i.uget bits)) umeas ?_ ?_ ?_
  · intro a wl J' hl hJ
    have HJ := Lib.hid hJ; clear hJ
    cases hl with
    | @at0 _ j n x y d r u2 u3 u4 u7 u8 u9 u10 u11 u12 u13 u14 u15 u16 u17 u18 u19 u20 u21 u22 u23 u24 u25 u26 u27 u28 u29 u30 u31 u32 u33 u34 u35 u36 u37 u38 u39 u40 u41 u42 u43 u44 u45 u46 u47 u48 u49 u50 u51 u52 u53 u54 u55 hx hy hj hbs hn hT HW =>
      subst hx
      subst hy
      cases r with
      | nil =>
        go_wp2_with fail
        refine (in_take 1 (by decide) (by decide) HW).mono ?_
        rintro en w1 ⟨rfl, HH⟩
        rw [show ISt.takeV ⟨d, [], 0⟩ 1 = [] from rfl]
        have hemp : (toS []).toList.isEmpty = true := by rw [toS_list]; rfl
        go_wp2
        rw [jumpsQ_ret]
        go_ret
        rw [← hT.out]
        exact ⟨rfl, HH⟩
      | cons c t =>
        have hc := c.toNat_lt
        have hemp : (toS [c]).toList.isEmpty = false := by rw [toS_list]; rfl
        have hsz : 0 < (toS [c]).size := by rw [toS_size]; exact Nat.one_pos
        have hat : ∀ h : 0 < (toS [c]).size, (toS [c])[0]'h = c := fun _ => rfl
        have ha7 := and127 c
        have ha8 := and128 c
        have hm : c.toNat % 128 < 128 := by omega
        have HT := in_take (w := wl) (i := ⟨d, c :: t, 0⟩) 1 (by decide) (by decide) HW
        rw [show ISt.takeV ⟨d, c :: t, 0⟩ 1 = [c] from rfl, show ISt.takeS ⟨d, c :: t, 0⟩ 1 = ⟨d ++ [c], t, 0⟩ from rfl] at HT
        have HT2 := Lib.hid HT; clear HT
        by_cases hbad : bits ≤ 7 * j ∨ bits < 7 * j + 7 ∧ 2 ^ (bits - 7 * j) ≤ c.toNat % 128
        · have Hb := Lib.hid (ugo_bad (t := t) (n := n) (d := d) hbad)
          have ht : bits ≤ 7 * j ∨ (7 * j < bits ∧ bits < 7 * j + 7 ∧ ¬ (c.toNat : Int) % 128 / 2 ^ (bits - 7 * j) = 0) := by
            rcases hbad with h | ⟨h1, h2⟩
            · exact .inl h
            · by_cases h3 : bits ≤ 7 * j
              · exact .inl h3
              · exact .inr ⟨by omega, h1, by have := div_pos _ _ h2; simpa using this⟩
          clear hbad
          rcases ht with ht | ⟨ht, ht2, ht3⟩
          all_goals
            go_wp2_with fail
            refine HT2.out.mono ?_
            rintro en w1 ⟨rfl, HH⟩
            go_wp2
            all_goals
              go_step3
              refine HJ.out _ _ _ (ujump.at1 ?_ HH) (by simp [umeas, intOf]; omega)
              rw [← hT.out, Hb.out]
              exact Lib.hid rfl
        · have Hok := Lib.hid hbad
          have ht : 7 * j + 7 ≤ bits ∨ (7 * j < bits ∧ bits < 7 * j + 7 ∧ (c.toNat : Int) % 128 / 2 ^ (bits - 7 * j) = 0) := by
            by_cases h1 : 7 * j + 7 ≤ bits
            · exact .inl h1
            · have h2 : ¬ bits ≤ 7 * j := fun h => hbad (.inl h)
              have h3 : c.toNat % 128 < 2 ^ (bits - 7 * j) := by
                rcases Nat.lt_or_ge (c.toNat % 128) (2 ^ (bits - 7 * j)) with h | h
                · exact h
                · exact absurd (.inr ⟨by omega, h⟩) hbad
              exact .inr ⟨by omega, by omega, by have := div_zero _ _ h3; simpa using this⟩
          have hr : ((c.toNat % 128 * 2 ^ (7 * j) : Nat) : Int) < 18446744073709551616 := by
            by_cases h1 : 7 * j + 7 ≤ bits
            · exact room _ _ bits hm h1 (by omega)
            · have h2 : ¬ bits ≤ 7 * j := fun h => hbad (.inl h)
              refine room2 _ _ bits ?_ (by omega) (by omega)
              rcases Nat.lt_or_ge (c.toNat % 128) (2 ^ (bits - 7 * j)) with h | h
              · exact h
              · exact absurd (.inr ⟨by omega, h⟩) hbad
          have Hor := Lib.hid (orsum n (c.toNat % 128) (7 * j) hn (below n _ hn (by omega)) hr)
          clear hr hbad
          rcases ht with ht | ⟨ht, ht2, ht3⟩
          all_goals
            by_cases hbig : 128 ≤ c.toNat
            · rw [if_pos hbig] at ha8
              go_wp2_with fail
              refine HT2.out.mono ?_
              rintro en w1 ⟨rfl, HH⟩
              go_wp2
              go_step3
              refine HJ.out _ _ _ (ujump.at0 (j := j + 1) Hor.out (by omega) (by omega) (by omega) (next_lt _ _ _ hn hm) ?_ HH) (by simp [umeas, intOf]; omega)
              rw [← hT.out, ugo_more Hok.out hbig]
              exact Lib.hid rfl
            · rw [if_neg hbig] at ha8
              by_cases hz : c.toNat = 0 ∧ 0 < j
              · have hz1 : (c.toNat : Int) ≤ 0 := by omega
                have hz2 := hz.2
                have Hz := Lib.hid hz
                clear hz
                go_wp2_with fail
                refine HT2.out.mono ?_
                rintro en w1 ⟨rfl, HH⟩
                go_wp2
                go_step3
                refine HJ.out _ _ _ (ujump.at1 ?_ HH) (by simp [umeas, intOf]; omega)
                rw [← hT.out, ugo_zero Hok.out Hz.out.1 (by omega)]
                exact Lib.hid rfl
              · have Hl := Lib.hid (ugo_last (t := t) (n := n) (d := d) Hok.out (show c.toNat < 128 by omega) (by omega))
                have hz3 : 0 < (c.toNat : Int) ∨ (j : Int) ≤ 0 := by omega
                clear hz
                rcases hz3 with hz3 | hz3
                all_goals
                  go_wp2_with fail
                  refine HT2.out.mono ?_
                  rintro en w1 ⟨rfl, HH⟩
                  go_wp2
                  all_goals
                    rw [jumpsQ_ret]
                    go_ret
                    rw [← hT.out, Hl.out]
                    first | exact ⟨ret_int Hor.out, HH⟩ | exact ⟨ret_int (by have h := Hor.out; have hc0 : c.toNat = 0 := by assumption
                                                                             simp [hc0] at h ⊢; exact h), HH⟩
  · intro l a wl J' hl0 hl hJ
    cases hl with
    | at0 => exact absurd rfl hl0
    | @at1 _ d r u1 u2 u3 u4 u5 u6 u7 u8 u9 u10 u11 u12 u13 u14 u15 u16 u17 u18 u19 u20 u21 u22 u23 u24 u25 u26 u27 u28 u29 u30 u31 u32 u33 u34 u35 u36 u37 u38 u39 u40 u41 u42 u43 u44 u45 u46 u47 u48 u49 u50 u51 u52 u53 u54 u55 hT HW =>
      refine ⟨_, rfl, ?_⟩
      go_wp2_with fail
      refine (in_fail 3 HW).mono ?_
      rintro en w1 ⟨rfl, HH⟩
      go_wp2
      rw [jumpsQ_ret]
      go_ret
      rw [hT.out]
      exact ⟨rfl, HH⟩
  · intro h0
    have H0 := Lib.hid h0; clear h0
    by_cases he : i.e = 0
    · have hu : i.uget bits = ugo bits i.r 0 0 i.d := by simp [ISt.uget, he]
      have Hu := Lib.hid hu; clear hu
      have H1 : Hd (Inp g ⟨i.d, i.r, 0⟩ :: F) w := by rw [← he]; exact H
      go_wp2
      go_step3
      rename_i hK
      exact hK _ _ (H0.out _ _ (ujump.at0 (j := 0) (n := 0) (x := 0) (y := 0) (by rfl) (by rfl) (by omega) (by omega) (by decide) (by rw [Hu.out]; exact Lib.hid rfl) H1))
    · have Hu := Lib.hid (show i.uget bits = (0, i) by simp [ISt.uget, he])
      have HT := in_take (w := w) (i := i) 1 (by decide) (by decide) H
      rw [show i.takeV 1 = [] by simp [ISt.takeV, he], show i.takeS 1 = i by simp [ISt.takeS, he]] at HT
      have HT2 := Lib.hid HT; clear HT
      have hemp : (toS []).toList.isEmpty = true := by rw [toS_list]; rfl
      go_wp2
      go_step3
      go_wp2_with fail
      refine HT2.out.mono ?_
      rintro en w1 ⟨rfl, HH⟩
      go_wp2
      rw [jumpsQ_ret]
      go_ret
      rw [Hu.out]
      exact ⟨rfl, HH⟩
end Go.Proofs.Ytflgfbffglmmeaa
