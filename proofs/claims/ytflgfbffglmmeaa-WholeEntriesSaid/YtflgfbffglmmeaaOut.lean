/-
  What the program's Output does, method by method.
-/
import Derived.Test.YtflgfbffglmmeaaLib
import Derived.Test.YtflgfbffglmmeaaProg
namespace Go.Proofs.Ytflgfbffglmmeaa
open Go.RowKit
set_option linter.unusedVariables false
set_option linter.unusedSimpArgs false

/-- An Output: its bytes, and what went wrong. -/
structure OSt where
  b : List UInt8
  e : Int
def OSt.fail (o : OSt) (e : Int) : OSt := if o.e = 0 then ⟨o.b, e⟩ else o
def OSt.put (o : OSt) (l : List UInt8) : OSt := if o.e = 0 then ⟨o.b ++ l, o.e⟩ else o

def Out (g : Nat) (o : OSt) : Asn where
  ok w S := ∃ v, (∀ k, S k ↔ k = g ∨ v.ownBlock = some k) ∧ v.ownBlock ≠ some g ∧ w.heap[g]? = some (.cells #[v, .int .i64 o.e] 71 (0, 0)) ∧ w.ownsRow 0 5 1 v o.b.length (bcells o.b)
  bound := by
    rintro w S ⟨v, he, _, hb, ho⟩ k hk
    rcases (he k).1 hk with rfl | h
    · exact blk_lt hb
    · exact (ho.lt k h).2
  stable := by
    rintro w w' S ⟨v, he, hn, hb, ho⟩ hx hs
    refine ⟨v, he, hn, (hs g ((he g).2 (.inl rfl))).trans hb, ho.1, ?_⟩
    rcases ho.2 with h2 | ⟨g', cap, cur, rfl, hg, hh, r⟩
    · exact .inl h2
    · exact .inr ⟨g', cap, cur, rfl, hg, (hs g' ((he g').2 (.inr rfl))).trans hh, r⟩
section
variable {F : List Asn} {w w' : World} {g : Nat} {o : OSt}
theorem Hd.out (H : Hd (Out g o :: F) w) : ∃ v, w.heap[g]? = some (.cells #[v, .int .i64 o.e] 71 (0, 0)) ∧ w.ownsRow 0 5 1 v o.b.length (bcells o.b) := by
  obtain ⟨_, v, _, _, hb, ho⟩ := H.h
  exact ⟨v, hb, ho⟩
theorem Hd.out1 (H : Hd (Out g o :: F) w) : w.cell? ⟨g, 1, none⟩ = some (.int .i64 o.e) := by
  obtain ⟨v, hb, _⟩ := H.out
  exact cell_blk hb 1
theorem Hd.out1z (H : Hd (Out g o :: F) w) : w.frozen? ⟨g, 1, none⟩ = false := by
  obtain ⟨v, hb, _⟩ := H.out
  exact frozen_blk hb 1
theorem Hd.outset (H : Hd (Out g o :: F) w) (x : Int) : Hd (Out g ⟨o.b, x⟩ :: F) (w.setCell ⟨g, 1, none⟩ (.int .i64 x)) :=
  H.upd fun S ⟨v, he, hn, hb, ho⟩ => ⟨S, ⟨v, he, hn, by simp [World.setCell, Array.getElem?_modify, hb], ho.1, by
    rcases ho.2 with h2 | ⟨g', cap, cur, rfl, hg, hh, r⟩
    · exact .inl h2
    · refine .inr ⟨g', cap, cur, rfl, hg, ?_, r⟩
      rw [Below.heap_setCell _ _ _ _ (fun e => hn (by simp [Value.ownBlock, e]))]; exact hh⟩, Ext.setCell _ _ _, fun k _ hk => Below.heap_setCell _ _ _ _ (fun e => hk ((he k).2 (.inl e))), fun _ hk => .inl hk⟩
theorem Hd.outne (H : Hd (Out g o :: F) w) {v : Value} (hb : w.heap[g]? = some (.cells #[v, .int .i64 o.e] 71 (0, 0))) : v.ownBlock ≠ some g := by
  obtain ⟨_, u, _, hn, hb2, _⟩ := H.h
  obtain rfl : u = v := by
    have := hb2.symm.trans hb
    simpa using this
  exact hn
/-- Behind an append: the new row is stored back. -/
theorem Hd.outgrow (H : Hd (Out g o :: F) w) {w1 : World} {v v' : Value} {xs : List UInt8} {n : Nat} (hb : w.heap[g]? = some (.cells #[v, .int .i64 o.e] 71 (0, 0)))
    (hg : w.grownBy w1 v.ownBlock) (ho' : w1.ownsRow 0 5 1 v' n (bcells xs)) (hv : Near w v v') :
    Hd (Out g ⟨xs, o.e⟩ :: F) (w1.setCell ⟨g, 0, none⟩ v') :=
  H.upd fun S ⟨u, he, hn, hb2, _⟩ => by
    obtain rfl : u = v := by
      have := hb2.symm.trans hb
      simpa using this
    have hlt := blk_lt hb2
    have hg1 : w1.heap[g]? = some (.cells #[u, .int .i64 o.e] 71 (0, 0)) := (hg.block g hlt (fun e => hn e.symm)).trans hb2
    have hne : v'.ownBlock ≠ some g := by
      intro e
      rcases hv with h | h
      · exact hn (h ▸ e)
      · have := h g e; omega
    obtain rfl : n = xs.length := by have := ho'.1; simp [bcells] at this; exact this.symm
    refine ⟨fun k => k = g ∨ v'.ownBlock = some k, ⟨v', fun _ => Iff.rfl, hne, by simp [World.setCell, Array.getElem?_modify, hg1], ho'.1, ?_⟩, (Ext.of_grown hg).trans (Ext.setCell _ _ _), ?_, ?_⟩
    · rcases ho'.2 with h2 | ⟨g', cap, cur, rfl, h0, hh, r⟩
      · exact .inl h2
      · refine .inr ⟨g', cap, cur, rfl, h0, ?_, r⟩
        rw [Below.heap_setCell _ _ _ _ (fun e => hne (by simp [Value.ownBlock, e]))]; exact hh
    · intro k hk hS
      rw [Below.heap_setCell _ _ _ _ (fun e => hS ((he k).2 (.inl e)))]
      exact hg.block k hk (fun e => hS ((he k).2 (.inr e.symm)))
    · rintro k (rfl | hk)
      · exact .inl ((he k).2 (.inl rfl))
      · rcases hv with h | h
        · exact .inl ((he k).2 (.inr (h ▸ hk)))
        · exact .inr (h k hk)
/-- A new one. -/
theorem Hd.outnew (H : Hd (Cel g #[.slice none 0 0, .int .i64 0] 71 :: F) w) : Hd (Out g ⟨[], 0⟩ :: F) w :=
  H.imp fun S ⟨he, hb⟩ => ⟨S, ⟨.slice none 0 0, fun k => by simp [Value.ownBlock, he k], by simp [Value.ownBlock], hb, World.ownsRow_nil _ _ _ _⟩, fun _ h => h⟩
end

theorem info_u8 : (Try.prog.info? 5).map (fun i => (i.zero, i.size, i.bytes)) = some (some (.int .u8 0), 1, 1) := by kernel_rfl

set_option maxHeartbeats 400000 in
theorem out_fail {F : List Asn} {w : World} {g : Nat} {o : OSt} (e : Int) (H : Hd (Out g o :: F) w) :
    Calls Try.prog 119 #[.pointer (some ⟨g, 0, none⟩), .int .i64 e] w fun en w' => en = .returned (.tuple #[]) ∧ Hd (Out g (o.fail e) :: F) w' := by
  have c1 := H.out1
  have z1 := H.out1z
  by_cases h0 : o.e = 0
  · have hb : (o.e == 0) = true := beq_iff_eq.2 h0
    have K := H.outset e
    rw [show o.fail e = ⟨o.b, e⟩ from if_pos h0]
    go_enter Try.func119, Try.ntmps119
    go_wp2
    go_end0
    exact ⟨rfl, K⟩
  · have hb : (o.e == 0) = false := beq_eq_false_iff_ne.2 h0
    rw [show o.fail e = o from if_neg h0]
    go_enter Try.func119, Try.ntmps119
    go_wp2
    go_end0
    exact ⟨rfl, H⟩

set_option maxHeartbeats 400000 in
theorem out_put {F : List Asn} {w : World} {g : Nat} {o : OSt} (s : ByteArray) (H : Hd (Out g o :: F) w) (hl : (o.put (toL s)).b.length ≤ 140737488355328) :
    Calls Try.prog 94 #[.pointer (some ⟨g, 0, none⟩), .string s] w fun en w' => en = .returned (.tuple #[]) ∧ Hd (Out g (o.put (toL s)) :: F) w' := by
  have c1 := H.out1
  by_cases h0 : o.e = 0
  · have hb : (o.e == 0) = true := beq_iff_eq.2 h0
    obtain ⟨v, hv, ho⟩ := H.out
    obtain ⟨A, c, rfl⟩ := own_shape ho
    have c0 : w.cell? ⟨g, 0, none⟩ = some (.slice A o.b.length c) := cell_blk hv 0
    have z0 := frozen_blk hv 0
    rw [show o.put (toL s) = ⟨o.b ++ toL s, o.e⟩ from if_pos h0] at hl ⊢
    simp only [List.length_append, toL_length] at hl
    have K := fun w1 A' c' => H.outgrow (w1 := w1) (v' := .slice A' (o.b.length + s.size) c') (xs := o.b ++ toL s) (n := o.b.length + s.size) hv
    have G := fun (w1 : World) (hg : w.grownBy w1 (Value.ownBlock (.slice A o.b.length c))) => (hg.block g (blk_lt hv) (fun e => H.outne hv e.symm)).trans hv
    clear H
    go_enter Try.func94, Try.ntmps94
    go_wp2_with (at_builtin; refine app_str rfl (.tmp 13) (.tmp 14) 69 9 5 rfl Try.underlying69 Try.underlying9 info_u8 A o.b.length c _ rfl ho s rfl hl ?_; intro A' c' w1 ho1 hg hn; have hg1 := cell_blk (G w1 hg) 0; have hz1 := frozen_blk (G w1 hg) 0)
    go_end0
    exact ⟨rfl, K _ _ _ hg (by rw [bcells_append, ← bcells_toL]; exact ho1) hn⟩
  · have hb : (o.e == 0) = false := beq_eq_false_iff_ne.2 h0
    rw [show o.put (toL s) = o from if_neg h0]
    go_enter Try.func94, Try.ntmps94
    go_wp2
    go_end0
    exact ⟨rfl, H⟩

theorem OSt.put_put (o : OSt) (l m : List UInt8) : (o.put l).put m = o.put (l ++ m) := by
  unfold OSt.put
  by_cases h : o.e = 0 <;> simp [h]
theorem OSt.put_nil (o : OSt) : o.put [] = o := by
  unfold OSt.put
  by_cases h : o.e = 0 <;> simp
theorem OSt.put_len (o : OSt) (l : List UInt8) : o.b.length ≤ (o.put l).b.length ∧ (o.put l).b.length ≤ o.b.length + l.length := by
  unfold OSt.put
  by_cases h : o.e = 0 <;> simp [h]
theorem OSt.put_mono (o : OSt) (l m : List UInt8) : (o.put l).b.length ≤ (o.put (l ++ m)).b.length := by
  rw [← OSt.put_put]; exact (OSt.put_len _ _).1

theorem cell_one (w : World) (x : Value) (t : TypeId) (c : Value) (hc : x = c) : ∀ j u, [c][j]? = some u → (w.alloc (.cells #[x] t)).cell? ((⟨w.heap.size, 0, none⟩ : Addr).add j) = some u := by
  subst hc; exact cell_one_new w x t

set_option maxHeartbeats 400000 in
theorem out_byte {F : List Asn} {w : World} {g : Nat} {o : OSt} (c : Int) (h0 : 0 ≤ c) (h1 : c < 256) (H : Hd (Out g o :: F) w) (hl : (o.put [UInt8.ofNat c.toNat]).b.length ≤ 140737488355328) :
    Calls Try.prog 164 #[.pointer (some ⟨g, 0, none⟩), .int .u8 c] w fun en w' => en = .returned (.tuple #[]) ∧ Hd (Out g (o.put [UInt8.ofNat c.toNat]) :: F) w' := by
  have c1 := H.out1
  by_cases h0 : o.e = 0
  · have hb : (o.e == 0) = true := beq_iff_eq.2 h0
    obtain ⟨v, hv, ho⟩ := H.out
    obtain ⟨A, k, rfl⟩ := own_shape ho
    have c0 : w.cell? ⟨g, 0, none⟩ = some (.slice A o.b.length k) := cell_blk hv 0
    have z0 := frozen_blk hv 0
    rw [show o.put [UInt8.ofNat c.toNat] = ⟨o.b ++ [UInt8.ofNat c.toNat], o.e⟩ from if_pos h0] at hl ⊢
    simp only [List.length_append, List.length_singleton] at hl
    have K := fun w1 A' c' => (H.allocO (.cells #[.int .u8 c] 5)).outgrow (w1 := w1) (v' := .slice A' (o.b.length + 1) c') (xs := o.b ++ [UInt8.ofNat c.toNat]) (n := o.b.length + 1) (v := .slice A o.b.length k) ((Below.heap_alloc _ _ _ (blk_lt hv)).trans hv)
    have G := fun (w1 : World) (hg : (w.alloc (.cells #[.int .u8 c] 5)).grownBy w1 (Value.ownBlock (.slice A o.b.length k))) => (hg.block g (by simp; have := blk_lt hv; omega) (fun e => H.outne hv e.symm)).trans ((Below.heap_alloc _ _ _ (blk_lt hv)).trans hv)
    clear H
    have hc2 : bcells (o.b ++ [UInt8.ofNat c.toNat]) = bcells o.b ++ [Value.int .u8 c] := by
      rw [bcells_append]; congr 1; simp [bcells]; omega
    go_enter Try.func164, Try.ntmps164
    go_wp2_with (at_builtin; refine app_row rfl (.tmp 13) (.tmp 15) 69 5 (.int .u8 0) 1 1 rfl Try.underlying69 info_u8 rfl (by decide) A o.b.length k _ rfl (ho.alloc _) ⟨w.heap.size, 0, none⟩ 1 1 [.int .u8 c] rfl rfl (cell_one_new _ _ _) (by simp; rfl) (by omega) (by omega) ?_; intro A' c' w1 ho1 hg hn; have hg1 := cell_blk (G w1 hg) 0; have hz1 := frozen_blk (G w1 hg) 0)
    go_end0
    exact ⟨rfl, K _ _ _ hg (by rw [hc2]; exact ho1) hn⟩
  · have hb : (o.e == 0) = false := beq_eq_false_iff_ne.2 h0
    rw [show o.put [UInt8.ofNat c.toNat] = o from if_neg h0]
    go_enter Try.func164, Try.ntmps164
    go_wp2
    go_end0
    exact ⟨rfl, H⟩

set_option maxHeartbeats 400000 in
theorem out_len {F : List Asn} {w : World} {g : Nat} {o : OSt} (H : Hd (Out g o :: F) w) :
    Calls Try.prog 30 #[.pointer (some ⟨g, 0, none⟩)] w fun en w' => en = .returned (.int .i64 o.b.length) ∧ w = w' := by
  obtain ⟨v, hv, ho⟩ := H.out
  obtain ⟨A, k, rfl⟩ := own_shape ho
  have c0 : w.cell? ⟨g, 0, none⟩ = some (.slice A o.b.length k) := cell_blk hv 0
  go_enter Try.func30, Try.ntmps30
  go_wp2
  go_ret
  exact ⟨rfl, rfl⟩


def fitsB (n : Int) (size : Nat) : Bool := decide (-(2 ^ (8 * size - 1)) ≤ n ∧ n < 2 ^ (8 * size - 1))
theorem fits_1 (n : Int) : fitsB n 1 = decide (-128 ≤ n ∧ n < 128) := rfl
theorem fits_2 (n : Int) : fitsB n 2 = decide (-32768 ≤ n ∧ n < 32768) := rfl
theorem fits_4 (n : Int) : fitsB n 4 = decide (-2147483648 ≤ n ∧ n < 2147483648) := rfl
theorem w63 : wrap64 (wrap64 9223372036854775808 - 1) = 9223372036854775807 := by simp [wrap64]
theorem fits_8 (n : Int) : fitsB n 8 = decide (-9223372036854775808 ≤ n ∧ n < 9223372036854775808) := rfl
set_option maxHeartbeats 400000 in
theorem fits_calls (n : Int) (size : Nat) (w : World) (hs : size = 1 ∨ size = 2 ∨ size = 4 ∨ size = 8) (h1 : -9223372036854775808 ≤ n) (h2 : n ≤ 9223372036854775807) :
    Calls Try.prog 118 #[.int .i64 n, .int .i64 size] w fun en w' => en = .returned (.bool (fitsB n size)) ∧ w = w' := by
  rcases hs with rfl | rfl | rfl | rfl
  · go_enter Try.func118, Try.ntmps118
    go_wp2
    all_goals (go_ret; exact ⟨by rw [fits_1]; simp; omega, rfl⟩)
  · go_enter Try.func118, Try.ntmps118
    go_wp2
    all_goals (go_ret; exact ⟨by rw [fits_2]; simp; omega, rfl⟩)
  · go_enter Try.func118, Try.ntmps118
    go_wp2
    all_goals (go_ret; exact ⟨by rw [fits_4]; simp; omega, rfl⟩)
  · go_enter Try.func118, Try.ntmps118
    go_wp2
    all_goals (try simp only [w63] at *)
    all_goals (go_ret; exact ⟨by rw [fits_8]; simp [wrap64]; omega, rfl⟩)

/-- The bytes of a number, the highest first. -/
def beAt (n : Int) (size i : Nat) : UInt8 := UInt8.ofNat ((n / 2 ^ (8 * (size - 1 - i))) % 256).toNat
def be (n : Int) (size : Nat) : List UInt8 := (List.range size).map (beAt n size)
theorem be_length (n : Int) (size : Nat) : (be n size).length = size := by simp [be]
def OSt.int (o : OSt) (n : Int) (size : Nat) : OSt := if fitsB n size then o.put (be n size) else o.fail 11
theorem OSt.fail_b (o : OSt) (e : Int) : (o.fail e).b = o.b := by unfold OSt.fail; split <;> rfl
theorem OSt.int_mono (o : OSt) (n : Int) (size : Nat) : o.b.length ≤ (o.int n size).b.length := by
  unfold OSt.int
  split
  · exact (OSt.put_len _ _).1
  · rw [OSt.fail_b]; exact Nat.le_refl _
theorem be_take (n : Int) (size i : Nat) : (List.range (i + 1)).map (beAt n size) = (List.range i).map (beAt n size) ++ [beAt n size i] := by
  rw [List.range_succ, List.map_append]; rfl

theorem be_upto (o : OSt) (n : Int) (size k : Nat) (h : k ≤ size) : (o.put ((List.range k).map (beAt n size))).b.length ≤ (o.put (be n size)).b.length := by
  have e : be n size = (List.range k).map (beAt n size) ++ (be n size).drop k := by
    have := List.take_append_drop k (be n size)
    rw [← this]; congr 1
    · rw [be, ← List.map_take, List.take_range, Nat.min_eq_left h]
    · rw [this]
  rw [e]; exact OSt.put_mono _ _ _

set_option maxHeartbeats 400000 in
theorem out_int {F : List Asn} {w : World} {g : Nat} {o : OSt} (n : Int) (size : Nat) (hs : size = 1 ∨ size = 2 ∨ size = 4 ∨ size = 8) (h1 : -9223372036854775808 ≤ n) (h2 : n ≤ 9223372036854775807)
    (H : Hd (Out g o :: F) w) (hl : (o.int n size).b.length ≤ 140737488355328) :
    Calls Try.prog 101 #[.pointer (some ⟨g, 0, none⟩), .int .i64 n, .int .i64 size] w fun en w' => en = .returned (.tuple #[]) ∧ Hd (Out g (o.int n size) :: F) w' := by
  by_cases hf : fitsB n size = true
  · rw [show o.int n size = o.put (be n size) from if_pos hf] at hl ⊢
    go_enter Try.func101, Try.ntmps101
    go_wp2_with fail
    refine (fits_calls n size _ hs h1 h2).mono ?_
    rintro en w' ⟨rfl, rfl⟩
    go_wp2_with fail
    go_loopw [14] (fun i wr => ∃ k : Nat, k ≤ size ∧ i = .int .i64 k ∧ Hd (Out g (o.put ((List.range k).map (beAt n size))) :: F) wr) (fun i _ => size - (intOf i).toNat)
    case atStart => exact ⟨0, Nat.zero_le _, rfl, by simpa [OSt.put_nil] using H⟩
    case round =>
      obtain ⟨k, hk, rfl, HH⟩ := hrel
      by_cases hlt : k < size
      · go_wp2_with fail
        refine (out_byte _ (Int.emod_nonneg _ (by decide)) (Int.emod_lt_of_pos _ (by decide)) HH ?hl1).mono ?_
        case hl1 =>
          refine Nat.le_trans ?_ hl
          rw [OSt.put_put]
          show (o.put ((List.range k).map (beAt n size) ++ [beAt n size k])).b.length ≤ _
          rw [← be_take]
          exact be_upto o n size (k + 1) (by omega)
        rintro en w2 ⟨rfl, HK⟩
        rw [OSt.put_put] at HK
        have HK2 : Hd (Out g (o.put ((List.range (k + 1)).map (beAt n size))) :: F) w2 := by rw [be_take]; exact HK
        clear HK HH
        go_wp2
        go_roundw
        case rel => exact ⟨k + 1, by omega, by go_num, HK2⟩
        case measure => simp [intOf]; omega
      · go_wp2_with fail
        go_end0
        exact ⟨rfl, by obtain rfl : k = size := by omega
                       exact HH⟩
  · have hf' : fitsB n size = false := by simpa using hf
    rw [show o.int n size = o.fail 11 from if_neg hf] at hl ⊢
    go_enter Try.func101, Try.ntmps101
    go_wp2_with fail
    refine (fits_calls n size _ hs h1 h2).mono ?_
    rintro en w' ⟨rfl, rfl⟩
    rw [hf']
    go_wp2_with fail
    refine (out_fail 11 H).mono ?_
    rintro en w' ⟨rfl, HH⟩
    go_wp2
    (first | go_end0 | ((try simp only [Exit.inBlock, Exit.then]); refine bodyPost_ret (results_none rfl _ _ _) rfl ?_))
    exact ⟨rfl, HH⟩

def OSt.text (o : OSt) : List UInt8 × Int := if o.e = 0 then (o.b, 0) else ([], o.e)
set_option maxHeartbeats 400000 in
theorem out_text {F : List Asn} {w : World} {g : Nat} {o : OSt} (H : Hd (Out g o :: F) w) :
    Calls Try.prog 33 #[.pointer (some ⟨g, 0, none⟩)] w fun en w' => en = .returned (.tuple #[.string (toS o.text.1), .int .i64 o.text.2]) ∧ Hd (Out g o :: F) w' := by
  have c1 := H.out1
  obtain ⟨v, hv, ho⟩ := H.out
  have hcv := conv_own (P := Try.prog) (src := 69) (dst := 9) Try.underlying69 Try.underlying5 Try.underlying9 ho
  obtain ⟨A, k, rfl⟩ := own_shape ho
  have c0 : w.cell? ⟨g, 0, none⟩ = some (.slice A o.b.length k) := cell_blk hv 0
  by_cases h0 : o.e = 0
  · have hb : (o.e != 0) = false := by simp [h0]
    rw [show o.text = (o.b, 0) from if_pos h0]
    clear hv ho
    go_enter Try.func33, Try.ntmps33
    go_wp2
    go_ret2
    exact ⟨rfl, H⟩
  · have hb : (o.e != 0) = true := bne_iff_ne.2 h0
    rw [show o.text = ([], o.e) from if_neg h0]
    clear hv ho hcv
    go_enter Try.func33, Try.ntmps33
    go_wp2
    go_quiet (fail)
    go_wp2
    go_ret2
    exact ⟨rfl, H.drewN _⟩
end Go.Proofs.Ytflgfbffglmmeaa
