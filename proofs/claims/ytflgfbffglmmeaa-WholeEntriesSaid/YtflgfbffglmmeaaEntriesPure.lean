/-
  Keys and values: unlike things, unlike bytes. No program in sight.
-/
import Derived.Test.YtflgfbffglmmeaaVal10
namespace Go.Proofs.Ytflgfbffglmmeaa
set_option linter.unusedVariables false
set_option linter.unusedSimpArgs false
theorem OSt.put_le (o : OSt) (l : List UInt8) : (o.put l).b.length ≤ o.b.length + l.length := (OSt.put_len o l).2
theorem OSt.int_le (o : OSt) (n : Int) (s : Nat) : (o.int n s).b.length ≤ o.b.length + s := by
  unfold OSt.int
  split
  · have := OSt.put_le o (be n s); rw [be_length] at this; exact this
  · rw [OSt.fail_b]; omega
theorem OSt.fixed_le (o : OSt) (b : Blob) (s : Nat) : (o.fixed b s).b.length ≤ o.b.length + s + b.d.length := by
  have h1 := OSt.int_le o b.len s
  unfold OSt.fixed OSt.bw
  split
  · have := OSt.put_le (o.int b.len s) b.d; omega
  · rw [OSt.fail_b]; omega
theorem OSt.ints_le : ∀ (l : List Int) (o : OSt), (o.ints l).b.length ≤ o.b.length + 4 * l.length
  | [], o => by simp [OSt.ints]
  | n :: t, o => by
    have h1 := OSt.int_le o n 4
    have h2 := OSt.ints_le t (o.int n 4)
    unfold OSt.ints at h2 ⊢
    rw [List.foldl_cons, List.length_cons]; omega
theorem OSt.topic_le (o : OSt) (t : Topic) : (o.topic t).b.length ≤ o.b.length + tw t := by
  have h1 := OSt.fixed_le o ⟨false, t.name⟩ 2
  have h2 := OSt.int_le (o.fixed ⟨false, t.name⟩ 2) t.parts.length 4
  have h3 := OSt.ints_le t.parts ((o.fixed ⟨false, t.name⟩ 2).int t.parts.length 4)
  unfold OSt.topic tw
  simp only at h1
  omega
theorem OSt.tops_le : ∀ (l : List Topic) (o : OSt), (l.foldl OSt.topic o).b.length ≤ o.b.length + tsum l
  | [], o => by simp [tsum]
  | t :: l, o => by
    have h1 := OSt.topic_le o t
    have h2 := OSt.tops_le l (o.topic t)
    rw [List.foldl_cons, tsum]; omega
theorem OSt.topics_le (o : OSt) (l : List Topic) : (o.topics l).b.length ≤ o.b.length + 4 + tsum l := by
  have h1 := OSt.int_le o l.length 4
  have h2 := OSt.tops_le l (o.int l.length 4)
  unfold OSt.topics; omega
theorem OSt.val_le (o : OSt) (v : TVal) : (o.val v).b.length ≤ o.b.length + 37 + tsum v.topics := by
  have a1 := OSt.int_le o 0 2
  have a2 := OSt.int_le (o.int 0 2) v.producer 8
  have a3 := OSt.int_le ((o.int 0 2).int v.producer 8) v.epoch 2
  have a4 := OSt.int_le (((o.int 0 2).int v.producer 8).int v.epoch 2) v.timeout 4
  have a5 := OSt.int_le ((((o.int 0 2).int v.producer 8).int v.epoch 2).int v.timeout 4) v.state 1
  have a6 := OSt.topics_le (((((o.int 0 2).int v.producer 8).int v.epoch 2).int v.timeout 4).int v.state 1) v.topics
  have a7 := OSt.int_le ((((((o.int 0 2).int v.producer 8).int v.epoch 2).int v.timeout 4).int v.state 1).topics v.topics) v.updated 8
  have a8 := OSt.int_le (((((((o.int 0 2).int v.producer 8).int v.epoch 2).int v.timeout 4).int v.state 1).topics v.topics).int v.updated 8) v.started 8
  unfold OSt.val; omega
theorem tsum_mem : ∀ (l : List Topic) (t : Topic), t ∈ l → tw t ≤ tsum l
  | [], t, h => by cases h
  | x :: l, t, h => by
    rcases List.mem_cons.1 h with rfl | h
    · rw [tsum]; omega
    · have := tsum_mem l t h; rw [tsum]; omega
theorem tsum_len : ∀ l : List Topic, l.length ≤ tsum l
  | [] => Nat.le_refl _
  | t :: l => by have := tsum_len l; rw [List.length_cons, tsum, tw]; omega
theorem nat_fit4 {n : Nat} (h : n ≤ 2147483647) : fitsB (n : Int) 4 = true := by rw [fits_4]; exact decide_eq_true (by omega)
theorem few_wok (v : TVal) (h : tsum v.topics ≤ 1000) (hc : v.check = 0) : topicsWok v.topics := by
  refine topicsOk_wok _ (check_facts v hc).2.2.2 (nat_fit4 (by have := tsum_len v.topics; omega)) (fun t ht => nat_fit4 ?_)
  have := tsum_mem v.topics t ht
  unfold tw at this; omega
theorem key_inj (a b : List UInt8) (ha : kright a = true) (hb : kright b = true) : (be 0 2 ++ wText a == be 0 2 ++ wText b) = (a == b) := by
  by_cases h : a = b
  · subst h; simp
  · rw [beq_eq_false_iff_ne.2 h]
    refine beq_eq_false_iff_ne.2 (fun e => h ?_)
    have h1 := (key_rt a ha).2
    have h2 := (key_rt b hb).2
    rw [e, h2] at h1
    exact (congrArg Prod.fst h1).symm
theorem val_inj {a b : TVal} (ia : a.i64s) (ib : b.i64s) (ha : a.check = 0) (hb : b.check = 0) (ta : topicsWok a.topics) (tb : topicsWok b.topics) : (wVal a == wVal b) = decide (a = b) := by
  by_cases h : a = b
  · subst h; simp
  · rw [decide_eq_false h]
    refine beq_eq_false_iff_ne.2 (fun e => h ?_)
    have h1 := (val_rt ia ha ta).2
    have h2 := (val_rt ib hb tb).2
    rw [e, h2] at h1
    exact (congrArg Prod.fst h1).symm
theorem valEnc_no {v : TVal} (h : v.check ≠ 0) : valEnc v = ([], v.check) := if_pos h
theorem keyEnc_no {l : List UInt8} (h : kright l = false) : keyEnc l = ([], 4) := if_pos h
theorem szd_i64s {x : ValH} (h : x.szd) : x.v.i64s := ⟨h.producer, h.updated, h.started⟩
theorem few_eq (l : List Topic) (h : few l ≠ 0) : tsum l ≤ 1000 := by
  unfold few at h
  by_cases q : tsum l ≤ 1000
  · exact q
  · rw [if_neg q] at h; exact absurd rfl h
theorem few_one (l : List Topic) (h : few l ≠ 0) : few l = 1 := if_pos (few_eq l h)
theorem wsz_szd {x : ValH} (h : x.wsz) (hf : tsum x.v.topics ≤ 1000) : x.szd := by
  have hl := tsum_len x.v.topics
  have hll : x.v.topics.length = x.ls.length := List.length_map _
  refine ⟨h.producer, h.epoch, h.timeout, h.state, h.updated, h.started, by omega, fun t ht => ?_⟩
  have h1 := h.tops t ht
  have h2 := tsum_mem x.v.topics t.t (List.mem_map.2 ⟨t, ht, rfl⟩)
  unfold tw at h2
  exact ⟨h1.name, by omega, h1.nums⟩
end Go.Proofs.Ytflgfbffglmmeaa
