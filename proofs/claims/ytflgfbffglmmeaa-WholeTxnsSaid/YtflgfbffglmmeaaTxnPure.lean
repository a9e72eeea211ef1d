/-
  Heads, and requests by which transactions begin and end: what is written is read back. No program in sight.
-/
import Derived.Test.YtflgfbffglmmeaaTxn7
import Derived.Test.YtflgfbffglmmeaaPure
namespace Go.Proofs.Ytflgfbffglmmeaa
set_option linter.unusedVariables false
set_option linter.unusedSimpArgs false

theorem OSt.int_ok (o : OSt) {n : Int} {s : Nat} (h : fitsB n s = true) : o.int n s = o.put (be n s) := if_pos h
theorem OSt.fixed_ok (o : OSt) {b : Blob} {s : Nat} (h : b.right = true) (hf : fitsB b.len s = true) : o.fixed b s = o.put (be b.len s ++ b.d) := by
  unfold OSt.fixed OSt.bw
  rw [OSt.int_ok _ hf, if_pos h, OSt.put_put]
theorem blen_fits2 (b : Blob) (h : b.d.length ≤ 32767) : fitsB b.len 2 = true := by
  unfold Blob.len
  split
  · rfl
  · rw [fits_2]; exact decide_eq_true (by omega)
theorem fits8 {n : Int} (h : i64 n) : fitsB n 8 = true := by
  rw [fits_8]; exact decide_eq_true ⟨h.1, by have := h.2; omega⟩
theorem failC_0 (i : ISt) : i.failC 0 = i := if_neg (fun h => h.2 rfl)
theorem vcheck_0 (k v : Int) (h : vcheck k v = 0) : fitsB k 2 = true ∧ fitsB v 2 = true := by
  have key : ∀ a b : Int, 0 ≤ a → b ≤ 4 → (if v < a ∨ b < v then (7 : Int) else 0) = 0 → fitsB v 2 = true := by
    intro a b ha hb hh
    by_cases c : v < a ∨ b < v
    · rw [if_pos c] at hh; cases hh
    · rw [fits_2]; exact decide_eq_true (by omega)
  have hk : k = 0 ∨ k = 22 ∨ k = 24 ∨ k = 26 ∨ k = 27 ∨ (k ≠ 0 ∧ k ≠ 22 ∧ k ≠ 24 ∧ k ≠ 26 ∧ k ≠ 27) := by omega
  rcases hk with rfl | rfl | rfl | rfl | rfl | ⟨h1, h2, h3, h4, h5⟩
  · exact ⟨rfl, key 3 4 (by decide) (by decide) h⟩
  · exact ⟨rfl, key 0 1 (by decide) (by decide) h⟩
  · exact ⟨rfl, key 0 0 (by decide) (by decide) h⟩
  · exact ⟨rfl, key 0 0 (by decide) (by decide) h⟩
  · exact ⟨rfl, key 0 1 (by decide) (by decide) h⟩
  · unfold vcheck vfind at h
    rw [if_neg h1, if_neg h2, if_neg h3, if_neg h4, if_neg h5] at h
    cases h
def wHead (h : Head) : List UInt8 := be h.kind 2 ++ (be h.version 2 ++ (be h.number 4 ++ (be h.client.len 2 ++ h.client.d)))
theorem head_facts (h : Head) (hc : h.check = 0) : vcheck h.kind h.version = 0 ∧ fitsB h.number 4 = true ∧ h.client.right = true ∧ fitsB h.client.len 2 = true := by
  unfold Head.check at hc
  by_cases h1 : vcheck h.kind h.version ≠ 0
  · rw [if_pos h1] at hc; exact absurd hc h1
  rw [if_neg h1] at hc
  by_cases h2 : fitsB h.number 4 = false
  · rw [if_pos h2] at hc; cases hc
  rw [if_neg h2] at hc
  by_cases h3 : h.client.right = false ∨ 32767 < h.client.d.length
  · rw [if_pos h3] at hc; cases hc
  refine ⟨by simpa using h1, by simpa using h2, by simp at h3; simpa using h3.1, blen_fits2 _ (by simp at h3; omega)⟩
theorem head_put (o : OSt) (h : Head) (hc : h.check = 0) : o.head h = o.put (wHead h) := by
  obtain ⟨f0, f3, f4, f5⟩ := head_facts h hc
  obtain ⟨f1, f2⟩ := vcheck_0 _ _ f0
  unfold OSt.head wHead
  rw [if_neg (by simp [hc]), OSt.int_ok _ f1, OSt.int_ok _ f2, OSt.int_ok _ f3, OSt.fixed_ok _ f4 f5]
  simp only [OSt.put_put, List.append_assoc]
theorem head_read (h : Head) (hc : h.check = 0) (d r : List UInt8) : ISt.headS ⟨d, wHead h ++ r, 0⟩ = ⟨d ++ wHead h, r, 0⟩ ∧ ISt.headV ⟨d, wHead h ++ r, 0⟩ = h := by
  obtain ⟨f0, f3, f4, f5⟩ := head_facts h hc
  obtain ⟨f1, f2⟩ := vcheck_0 _ _ f0
  obtain ⟨i, hi⟩ : ∃ i : ISt, i = ⟨d, wHead h ++ r, 0⟩ := ⟨_, rfl⟩
  have ee : wHead h ++ r = be h.kind 2 ++ (be h.version 2 ++ (be h.number 4 ++ ((be h.client.len 2 ++ h.client.d) ++ r))) := by simp [wHead]
  rw [← hi]
  have e1 : i.intV 2 = h.kind := by rw [hi, ee, int_full _ 2 (by decide) f1]
  have e2 : i.intS 2 = ⟨d ++ be h.kind 2, be h.version 2 ++ (be h.number 4 ++ ((be h.client.len 2 ++ h.client.d) ++ r)), 0⟩ := by rw [hi, ee, (reads_int _ 2).full]
  have e3 : (i.intS 2).intV 2 = h.version := by rw [e2, int_full _ 2 (by decide) f2]
  have e4 : i.h3 = ⟨(d ++ be h.kind 2) ++ be h.version 2, be h.number 4 ++ ((be h.client.len 2 ++ h.client.d) ++ r), 0⟩ := by
    unfold ISt.h3; rw [e1, e3, f0, failC_0, e2, (reads_int _ 2).full]
  have e5 : i.h3.intV 4 = h.number := by rw [e4, int_full _ 4 (by decide) f3]
  have e6 : i.h3.intS 4 = ⟨((d ++ be h.kind 2) ++ be h.version 2) ++ be h.number 4, (be h.client.len 2 ++ h.client.d) ++ r, 0⟩ := by rw [e4, (reads_int _ 4).full]
  have e7 : (i.h3.intS 4).fixB 2 = h.client := by rw [e6, fixB_full _ 2 (by decide) f4 f5]
  have e8 : i.headS = ⟨d ++ wHead h, r, 0⟩ := by
    unfold ISt.headS; rw [e6, (reads_fixB _ 2 (by decide) f4 f5).full]; simp [wHead]
  refine ⟨e8, ?_⟩
  unfold ISt.headV
  rw [e8, if_neg (by simp), e1, e3, e5, e7]

def wBegin (b : TBegin) (v : Int) : List UInt8 := (be b.id.len 2 ++ b.id.d) ++ (be b.timeout 4 ++ (if 0 < v then be b.producer 8 ++ be b.epoch 2 else []))
theorem begin_facts (b : TBegin) (v : Int) (hc : b.check v = 0) : b.id.right = true ∧ fitsB b.id.len 2 = true ∧ fitsB b.timeout 4 = true ∧ (0 < v → fitsB b.epoch 2 = true) ∧ (¬ 0 < v → b.producer = -1 ∧ b.epoch = -1) := by
  unfold TBegin.check at hc
  by_cases h1 : b.id.right = false ∨ (b.id.nu = false ∧ kright b.id.d = false)
  · rw [if_pos h1] at hc; cases hc
  rw [if_neg h1] at hc
  by_cases h2 : b.timeout < 0 ∨ fitsB b.timeout 4 = false
  · rw [if_pos h2] at hc; cases hc
  rw [if_neg h2] at hc
  by_cases h3 : ¬ (b.producer = -1 ∧ b.epoch = -1) ∧ ¬ (0 < v ∧ who b.producer b.epoch = true)
  · rw [if_pos h3] at hc; cases hc
  have hr : b.id.right = true := by
    cases hq : b.id.right
    · exact absurd (Or.inl hq) h1
    · rfl
  refine ⟨hr, ?_, ?_, ?_, ?_⟩
  · cases hn : b.id.nu
    · have hk : kright b.id.d = true := by
        cases hq : kright b.id.d
        · exact absurd (Or.inr ⟨hn, hq⟩) h1
        · rfl
      unfold kright at hk
      simp at hk
      exact blen_fits2 _ hk.2
    · unfold Blob.len; rw [hn]; rfl
  · cases hq : fitsB b.timeout 4
    · exact absurd (Or.inr hq) h2
    · rfl
  · intro hv
    by_cases h4 : b.producer = -1 ∧ b.epoch = -1
    · rw [h4.2]; rfl
    · by_cases h5 : who b.producer b.epoch = true
      · unfold who at h5; simp at h5; exact h5.2
      · exact absurd ⟨h4, fun h => h5 h.2⟩ h3
  · intro hv
    by_cases h4 : b.producer = -1 ∧ b.epoch = -1
    · exact h4
    · exact absurd ⟨h4, fun h => hv h.1⟩ h3
theorem begin_put (o : OSt) (b : TBegin) (v : Int) (hp : i64 b.producer) (hc : b.check v = 0) : o.tbegin b v = o.put (wBegin b v) := by
  obtain ⟨f1, f2, f3, f4, f5⟩ := begin_facts b v hc
  unfold OSt.tbegin wBegin
  rw [if_neg (by simp [hc])]
  by_cases hv : 0 < v
  · rw [if_pos hv, if_pos hv, OSt.fixed_ok _ f1 f2, OSt.int_ok _ f3, OSt.int_ok _ (fits8 hp), OSt.int_ok _ (f4 hv)]
    simp only [OSt.put_put, List.append_assoc]
  · rw [if_neg hv, if_neg hv, OSt.fixed_ok _ f1 f2, OSt.int_ok _ f3]
    simp only [OSt.put_put, List.append_assoc, List.append_nil]
theorem closed_0 (d r : List UInt8) : ISt.closedV ⟨d, r, 0⟩ 0 = true ∧ ISt.closedS ⟨d, r, 0⟩ 0 = ⟨d, r, 0⟩ := ⟨rfl, if_neg (fun h => h.2 rfl)⟩
theorem begin_read (b : TBegin) (v : Int) (hp : i64 b.producer) (hc : b.check v = 0) (d r : List UInt8) : ISt.tbS ⟨d, wBegin b v ++ r, 0⟩ v = ⟨d ++ wBegin b v, r, 0⟩ ∧ ISt.tbV ⟨d, wBegin b v ++ r, 0⟩ v = b := by
  obtain ⟨f1, f2, f3, f4, f5⟩ := begin_facts b v hc
  obtain ⟨i, hi⟩ : ∃ i : ISt, i = ⟨d, wBegin b v ++ r, 0⟩ := ⟨_, rfl⟩
  obtain ⟨t, ht⟩ : ∃ t : List UInt8, t = (if 0 < v then be b.producer 8 ++ be b.epoch 2 else []) ++ r := ⟨_, rfl⟩
  have ee : wBegin b v ++ r = (be b.id.len 2 ++ b.id.d) ++ (be b.timeout 4 ++ t) := by rw [ht]; simp [wBegin]
  rw [← hi]
  have e1 : i.fixB 2 = b.id := by rw [hi, ee, fixB_full _ 2 (by decide) f1 f2]
  have e2 : i.fixBS 2 = ⟨d ++ (be b.id.len 2 ++ b.id.d), be b.timeout 4 ++ t, 0⟩ := by rw [hi, ee, (reads_fixB _ 2 (by decide) f1 f2).full]
  have e3 : (i.fixBS 2).intV 4 = b.timeout := by rw [e2, int_full _ 4 (by decide) f3]
  have e4 : i.tb1 = ⟨(d ++ (be b.id.len 2 ++ b.id.d)) ++ be b.timeout 4, t, 0⟩ := by unfold ISt.tb1; rw [e2, (reads_int _ 4).full]
  have e5 : i.tbR v = b ∧ i.tbJ v = ⟨d ++ wBegin b v, r, 0⟩ := by
    by_cases hv : 0 < v
    · rw [if_pos hv, List.append_assoc] at ht
      rw [ht] at e4
      have e6 : i.tb1.intV 8 = b.producer := by rw [e4, int_full _ 8 (by decide) (fits8 hp)]
      have e7 : i.tb1.intS 8 = ⟨((d ++ (be b.id.len 2 ++ b.id.d)) ++ be b.timeout 4) ++ be b.producer 8, be b.epoch 2 ++ r, 0⟩ := by rw [e4, (reads_int _ 8).full]
      have e8 : (i.tb1.intS 8).intV 2 = b.epoch := by rw [e7, int_full _ 2 (by decide) (f4 hv)]
      refine ⟨?_, ?_⟩
      · unfold ISt.tbR; rw [if_pos hv, e1, e3, e6, e8]
      · unfold ISt.tbJ; rw [if_pos hv, e7, (reads_int _ 2).full]; simp [wBegin, hv]
    · rw [if_neg hv, List.nil_append] at ht
      rw [ht] at e4
      refine ⟨?_, ?_⟩
      · unfold ISt.tbR; rw [if_neg hv, e1, e3]
        obtain ⟨x, y, z, u⟩ := b
        have := f5 hv
        simp only at this
        rw [this.1, this.2]
      · unfold ISt.tbJ; rw [if_neg hv, e4]; simp [wBegin, hv]
  have e9 := closed_0 (d ++ wBegin b v) r
  refine ⟨?_, ?_⟩
  · unfold ISt.tbS; rw [e5.1, e5.2, hc]; exact e9.2
  · unfold ISt.tbV; rw [e5.1, e5.2, hc, e9.1]; rfl

def wEnd (e : TEnd) : List UInt8 := (be (Blob.len ⟨false, e.id⟩) 2 ++ e.id) ++ (be e.producer 8 ++ (be e.epoch 2 ++ [if e.commit then 1 else 0]))
theorem end_facts (e : TEnd) (hc : e.check = 0) : fitsB (Blob.len ⟨false, e.id⟩) 2 = true ∧ fitsB e.epoch 2 = true := by
  unfold TEnd.check at hc
  by_cases h1 : kright e.id = false
  · rw [if_pos h1] at hc; cases hc
  rw [if_neg h1] at hc
  by_cases h2 : who e.producer e.epoch = false
  · rw [if_pos h2] at hc; cases hc
  have hk : kright e.id = true := by simpa using h1
  have hw : who e.producer e.epoch = true := by simpa using h2
  unfold kright at hk
  unfold who at hw
  simp at hk hw
  exact ⟨blen_fits2 _ hk.2, hw.2⟩
theorem end_put (o : OSt) (e : TEnd) (hp : i64 e.producer) (hc : e.check = 0) : o.tend e = o.put (wEnd e) := by
  obtain ⟨f1, f2⟩ := end_facts e hc
  unfold OSt.tend wEnd
  rw [if_neg (by simp [hc]), OSt.fixed_ok _ rfl f1, OSt.int_ok _ (fits8 hp), OSt.int_ok _ f2]
  simp only [OSt.put_put, List.append_assoc]
theorem text_full (l : List UInt8) (f1 : fitsB (Blob.len ⟨false, l⟩) 2 = true) (d r : List UInt8) : ISt.textB ⟨d, (be (Blob.len ⟨false, l⟩) 2 ++ l) ++ r, 0⟩ = ⟨false, l⟩ ∧ ISt.textS ⟨d, (be (Blob.len ⟨false, l⟩) 2 ++ l) ++ r, 0⟩ = ⟨d ++ (be (Blob.len ⟨false, l⟩) 2 ++ l), r, 0⟩ := by
  have e1 := fixB_full ⟨false, l⟩ 2 (by decide) rfl f1 d r
  have e2 := (reads_fixB ⟨false, l⟩ 2 (by decide) rfl f1).full d r
  refine ⟨e1, ?_⟩
  unfold ISt.textS ISt.textB
  rw [e1, e2]
  rfl
theorem bool_full (c : Bool) (d r : List UInt8) : ISt.boolV ⟨d, [if c then 1 else 0] ++ r, 0⟩ = c ∧ ISt.boolS ⟨d, [if c then 1 else 0] ++ r, 0⟩ = ⟨d ++ [if c then 1 else 0], r, 0⟩ := by
  have hb : be (if c then 1 else 0) 1 = [if c then 1 else 0] := by cases c <;> rfl
  have e1 := int_full (if c then 1 else 0) 1 (by decide) (by cases c <;> rfl) d r
  have e2 := (reads_int (if c then 1 else 0) 1).full d r
  rw [hb] at e1 e2
  unfold ISt.boolV ISt.boolS
  rw [e1, e2]
  cases c <;> simp
theorem end_read (e : TEnd) (hp : i64 e.producer) (hc : e.check = 0) (d r : List UInt8) : ISt.teS ⟨d, wEnd e ++ r, 0⟩ = ⟨d ++ wEnd e, r, 0⟩ ∧ ISt.teV ⟨d, wEnd e ++ r, 0⟩ = e := by
  obtain ⟨f1, f2⟩ := end_facts e hc
  obtain ⟨i, hi⟩ : ∃ i : ISt, i = ⟨d, wEnd e ++ r, 0⟩ := ⟨_, rfl⟩
  have ee : wEnd e ++ r = (be (Blob.len ⟨false, e.id⟩) 2 ++ e.id) ++ (be e.producer 8 ++ (be e.epoch 2 ++ ([if e.commit then 1 else 0] ++ r))) := by simp [wEnd]
  rw [← hi]
  have t := text_full e.id f1 d (be e.producer 8 ++ (be e.epoch 2 ++ ([if e.commit then 1 else 0] ++ r)))
  rw [← ee, ← hi] at t
  obtain ⟨t1, t2⟩ := t
  have e1 : i.textS.intV 8 = e.producer := by rw [t2, int_full _ 8 (by decide) (fits8 hp)]
  have e2 : i.textS.intS 8 = ⟨(d ++ (be (Blob.len ⟨false, e.id⟩) 2 ++ e.id)) ++ be e.producer 8, be e.epoch 2 ++ ([if e.commit then 1 else 0] ++ r), 0⟩ := by rw [t2, (reads_int _ 8).full]
  have e3 : (i.textS.intS 8).intV 2 = e.epoch := by rw [e2, int_full _ 2 (by decide) f2]
  have e4 : i.te2 = ⟨((d ++ (be (Blob.len ⟨false, e.id⟩) 2 ++ e.id)) ++ be e.producer 8) ++ be e.epoch 2, [if e.commit then 1 else 0] ++ r, 0⟩ := by unfold ISt.te2; rw [e2, (reads_int _ 2).full]
  have e5 := bool_full e.commit (((d ++ (be (Blob.len ⟨false, e.id⟩) 2 ++ e.id)) ++ be e.producer 8) ++ be e.epoch 2) r
  rw [← e4] at e5
  have e6 : i.teR = e := by unfold ISt.teR; rw [t1, e1, e3, e5.1]
  have e7 : i.te2.boolS = ⟨d ++ wEnd e, r, 0⟩ := by rw [e5.2]; simp [wEnd]
  have e9 := closed_0 (d ++ wEnd e) r
  refine ⟨?_, ?_⟩
  · unfold ISt.teS; rw [e6, e7, hc]; exact e9.2
  · unfold ISt.teV; rw [e6, e7, hc, e9.1]; rfl
end Go.Proofs.Ytflgfbffglmmeaa
