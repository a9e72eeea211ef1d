/-
  Keys and values of the log of transactions: what is written is read back. No program in sight.
-/
import Derived.Test.YtflgfbffglmmeaaValM
import Derived.Test.YtflgfbffglmmeaaPure
namespace Go.Proofs.Ytflgfbffglmmeaa
set_option linter.unusedVariables false
set_option linter.unusedSimpArgs false
def wText (l : List UInt8) : List UInt8 := be (Blob.len ⟨false, l⟩) 2 ++ l
def wInts (l : List Int) : List UInt8 := l.flatMap fun n => be n 4
def wTopic (t : Topic) : List UInt8 := wText t.name ++ (be t.parts.length 4 ++ wInts t.parts)
def wTopics (l : List Topic) : List UInt8 := be l.length 4 ++ l.flatMap wTopic
def wVal (v : TVal) : List UInt8 := be 0 2 ++ (be v.producer 8 ++ (be v.epoch 2 ++ (be v.timeout 4 ++ (be v.state 1 ++ (wTopics v.topics ++ (be v.updated 8 ++ be v.started 8))))))
def Topic.wok (t : Topic) : Prop := fitsB (Blob.len ⟨false, t.name⟩) 2 = true ∧ fitsB t.parts.length 4 = true ∧ ∀ n ∈ t.parts, fitsB n 4 = true
def topicsWok (l : List Topic) : Prop := fitsB l.length 4 = true ∧ ∀ t ∈ l, t.wok
theorem oint_ok (o : OSt) {n : Int} {s : Nat} (h : fitsB n s = true) : o.int n s = o.put (be n s) := if_pos h
theorem text_put (o : OSt) {l : List UInt8} (h : fitsB (Blob.len ⟨false, l⟩) 2 = true) : o.fixed ⟨false, l⟩ 2 = o.put (wText l) := by
  unfold OSt.fixed OSt.bw wText
  rw [oint_ok _ h, if_pos (show Blob.right ⟨false, l⟩ = true from rfl), OSt.put_put]
theorem ints_put : ∀ (l : List Int) (o : OSt), (∀ n ∈ l, fitsB n 4 = true) → o.ints l = o.put (wInts l)
  | [], o, _ => by simp [OSt.ints, wInts, OSt.put_nil]
  | n :: t, o, h => by
    have := ints_put t (o.put (be n 4)) (fun m hm => h m (by simp [hm]))
    unfold OSt.ints wInts at this ⊢
    rw [List.foldl_cons, oint_ok _ (h n (by simp)), this, OSt.put_put, List.flatMap_cons]
theorem topic_put (o : OSt) {t : Topic} (h : t.wok) : o.topic t = o.put (wTopic t) := by
  unfold OSt.topic wTopic
  rw [text_put _ h.1, oint_ok _ h.2.1, ints_put _ _ h.2.2, OSt.put_put, OSt.put_put]
theorem tops_put : ∀ (l : List Topic) (o : OSt), (∀ t ∈ l, t.wok) → l.foldl OSt.topic o = o.put (l.flatMap wTopic)
  | [], o, _ => by simp [OSt.put_nil]
  | n :: t, o, h => by
    rw [List.foldl_cons, topic_put _ (h n (by simp)), tops_put t _ (fun m hm => h m (by simp [hm])), OSt.put_put, List.flatMap_cons]
theorem topics_put (o : OSt) {l : List Topic} (h : topicsWok l) : o.topics l = o.put (wTopics l) := by
  unfold OSt.topics wTopics
  rw [oint_ok _ h.1, tops_put _ _ h.2, OSt.put_put]
theorem text_rd {l : List UInt8} (h : fitsB (Blob.len ⟨false, l⟩) 2 = true) (d r : List UInt8) : ISt.textB ⟨d, wText l ++ r, 0⟩ = ⟨false, l⟩ ∧ ISt.textS ⟨d, wText l ++ r, 0⟩ = ⟨d ++ wText l, r, 0⟩ := by
  have e1 := fixB_full ⟨false, l⟩ 2 (by decide) rfl h d r
  have e2 := (reads_fixB ⟨false, l⟩ 2 (by decide) rfl h).full d r
  refine ⟨e1, ?_⟩
  unfold ISt.textS ISt.textB wText
  rw [e1, e2]
  rfl
theorem pgo_full : ∀ (l acc : List Int) (d r : List UInt8), (∀ n ∈ l, fitsB n 4 = true) → pgo l.length acc ⟨d, wInts l ++ r, 0⟩ = (acc ++ l, ⟨d ++ wInts l, r, 0⟩)
  | [], acc, d, r, _ => by simp [pgo, wInts]
  | n :: t, acc, d, r, h => by
    have e : wInts (n :: t) ++ r = be n 4 ++ (wInts t ++ r) := by simp [wInts]
    have e2 := (reads_int n 4).full d (wInts t ++ r)
    rw [e, List.length_cons, pgo, int_full _ 4 (by decide) (h n (by simp)), e2, pgo_full t _ _ r (fun m hm => h m (by simp [hm]))]
    simp [wInts]
theorem cnt_full (n each : Nat) (x d r : List UInt8) (hn : fitsB n 4 = true) (he : 0 < each) (h : n * each ≤ x.length) : ISt.cntV ⟨d, be n 4 ++ (x ++ r), 0⟩ 4 each = n ∧ ISt.cntS ⟨d, be n 4 ++ (x ++ r), 0⟩ 4 each = ⟨d ++ be n 4, x ++ r, 0⟩ := by
  have e1 := int_full n 4 (by decide) hn d (x ++ r)
  have e2 := (reads_int n 4).full d (x ++ r)
  have h3 : ¬ (((x ++ r).length / each : Nat) : Int) < (n : Int) := by
    have : n ≤ (x ++ r).length / each := (Nat.le_div_iff_mul_le he).2 (by rw [List.length_append]; omega)
    omega
  unfold ISt.cntV ISt.cntS
  rw [e1, e2, if_neg (by simp), if_neg (by omega), if_neg h3, if_neg (by simp), if_neg (by omega), if_neg h3]
  exact ⟨by simp, rfl⟩
theorem wInts_len : ∀ l : List Int, (wInts l).length = l.length * 4
  | [] => rfl
  | n :: t => by
    have := wInts_len t
    unfold wInts at this ⊢
    rw [List.flatMap_cons, List.length_append, be_length, this, List.length_cons]; omega
theorem topic_rd {t : Topic} (h : t.wok) (d r : List UInt8) : ISt.topic ⟨d, wTopic t ++ r, 0⟩ = (t, ⟨d ++ wTopic t, r, 0⟩) := by
  have e : wTopic t ++ r = wText t.name ++ (be t.parts.length 4 ++ (wInts t.parts ++ r)) := by simp [wTopic]
  obtain ⟨a1, a2⟩ := text_rd h.1 d (be t.parts.length 4 ++ (wInts t.parts ++ r))
  obtain ⟨b1, b2⟩ := cnt_full t.parts.length 4 (wInts t.parts) (d ++ wText t.name) r h.2.1 (by decide) (by rw [wInts_len]; omega)
  unfold ISt.topic
  rw [e, a1, a2, b1, b2, pgo_full _ _ _ _ h.2.2]
  simp [wTopic]
theorem tgo_full : ∀ (l acc : List Topic) (d r : List UInt8), (∀ t ∈ l, t.wok) → tgo l.length acc ⟨d, l.flatMap wTopic ++ r, 0⟩ = (acc ++ l, ⟨d ++ l.flatMap wTopic, r, 0⟩)
  | [], acc, d, r, _ => by simp [tgo]
  | n :: t, acc, d, r, h => by
    have e : (n :: t).flatMap wTopic ++ r = wTopic n ++ (t.flatMap wTopic ++ r) := by simp
    rw [e, List.length_cons, tgo, topic_rd (h n (by simp)), if_pos rfl, tgo_full t _ _ r (fun m hm => h m (by simp [hm]))]
    simp
theorem wTopic_len (t : Topic) : 6 ≤ (wTopic t).length := by
  simp only [wTopic, wText, List.length_append, be_length]; omega
theorem tops_len : ∀ l : List Topic, l.length * 6 ≤ (l.flatMap wTopic).length
  | [] => by simp
  | n :: t => by
    have := tops_len t
    have := wTopic_len n
    rw [List.flatMap_cons, List.length_append, List.length_cons]; omega
theorem topics_rd {l : List Topic} (h : topicsWok l) (d r : List UInt8) : ISt.topics ⟨d, wTopics l ++ r, 0⟩ = (l, ⟨d ++ wTopics l, r, 0⟩) := by
  have e : wTopics l ++ r = be l.length 4 ++ (l.flatMap wTopic ++ r) := by simp [wTopics]
  obtain ⟨b1, b2⟩ := cnt_full l.length 6 (l.flatMap wTopic) d r h.1 (by decide) (tops_len l)
  unfold ISt.topics
  rw [e, b1, b2, tgo_full _ _ _ _ h.2]
  simp [wTopics]
/-- What holds of a value that may be. -/
def TVal.i64s (v : TVal) : Prop := (-9223372036854775808 ≤ v.producer ∧ v.producer ≤ 9223372036854775807) ∧ (-9223372036854775808 ≤ v.updated ∧ v.updated ≤ 9223372036854775807) ∧ (-9223372036854775808 ≤ v.started ∧ v.started ≤ 9223372036854775807)
theorem fit8 {n : Int} (h : -9223372036854775808 ≤ n ∧ n ≤ 9223372036854775807) : fitsB n 8 = true := by
  rw [fits_8]; exact decide_eq_true ⟨h.1, by have := h.2; omega⟩
theorem fit2 {l : List UInt8} (h : l.length ≤ 32767) : fitsB (Blob.len ⟨false, l⟩) 2 = true := by
  rw [fits_2]; exact decide_eq_true (by simp only [Blob.len]; omega)
theorem check_facts (v : TVal) (h : v.check = 0) : fitsB v.epoch 2 = true ∧ fitsB v.timeout 4 = true ∧ fitsB v.state 1 = true ∧ topicsOk v.topics = true := by
  unfold TVal.check at h
  by_cases h1 : v.producer < 0 ∨ v.epoch < 0 ∨ fitsB v.epoch 2 = false ∨ v.timeout < 0 ∨ fitsB v.timeout 4 = false ∨ v.updated < 0 ∨ v.started < -1
  · rw [if_pos h1] at h; cases h
  rw [if_neg h1] at h
  by_cases h2 : v.state < 0 ∨ 7 ≤ v.state
  · rw [if_pos h2] at h; cases h
  rw [if_neg h2] at h
  by_cases h3 : idle v.state ≠ decide (v.topics.length = 0) ∨ decide (v.state = 0) ≠ decide (v.started = -1)
  · rw [if_pos h3] at h; cases h
  rw [if_neg h3] at h
  by_cases h4 : topicsOk v.topics = false
  · rw [if_pos h4] at h; cases h
  simp only [not_or] at h1
  refine ⟨by simpa using h1.2.2.1, by simpa using h1.2.2.2.2.1, ?_, by simpa using h4⟩
  rw [fits_1]; exact decide_eq_true (by omega)
theorem topicsOk_wok (l : List Topic) (h : topicsOk l = true) (h1 : fitsB l.length 4 = true) (h2 : ∀ t ∈ l, fitsB t.parts.length 4 = true) : topicsWok l := by
  refine ⟨h1, fun t ht => ?_⟩
  unfold topicsOk at h
  simp only [Bool.and_eq_true] at h
  have k := List.all_eq_true.1 h.1 t ht
  unfold topicOk partsOk at k
  simp only [Bool.and_eq_true, decide_eq_true_eq] at k
  refine ⟨fit2 k.1.2, h2 t ht, fun n hn => ?_⟩
  have := List.all_eq_true.1 k.2.1 n hn
  simp only [Bool.and_eq_true] at this
  exact this.2
theorem val_put (o : OSt) {v : TVal} (hi : v.i64s) (h : v.check = 0) (ht : topicsWok v.topics) : o.val v = o.put (wVal v) := by
  obtain ⟨f1, f2, f3, _⟩ := check_facts v h
  unfold OSt.val wVal
  rw [oint_ok o (n := 0) (s := 2) (by decide), oint_ok _ (fit8 hi.1), oint_ok _ f1, oint_ok _ f2, oint_ok _ f3, topics_put _ ht, oint_ok _ (fit8 hi.2.1), oint_ok _ (fit8 hi.2.2)]
  simp only [OSt.put_put, List.append_assoc]
theorem val_rd {v : TVal} (hi : v.i64s) (h : v.check = 0) (ht : topicsWok v.topics) : valS (wVal v) = ⟨wVal v, [], 0⟩ ∧ ISt.valV ⟨[], wVal v, 0⟩ = v := by
  obtain ⟨f1, f2, f3, _⟩ := check_facts v h
  obtain ⟨i, hd⟩ : ∃ i : ISt, i = ⟨[], wVal v, 0⟩ := ⟨_, rfl⟩
  have e0 : i.va = ⟨[] ++ be 0 2, be v.producer 8 ++ (be v.epoch 2 ++ (be v.timeout 4 ++ (be v.state 1 ++ (wTopics v.topics ++ (be v.updated 8 ++ be v.started 8))))), 0⟩ := by
    rw [hd]; unfold ISt.va wVal
    rw [int_full _ 2 (by decide) (by decide), if_pos rfl]; exact (reads_int _ 2).full _ _
  have p1 : i.va.intV 8 = v.producer := by rw [e0, int_full _ 8 (by decide) (fit8 hi.1)]
  have e1 : i.va.intS 8 = ⟨([] ++ be 0 2) ++ be v.producer 8, be v.epoch 2 ++ (be v.timeout 4 ++ (be v.state 1 ++ (wTopics v.topics ++ (be v.updated 8 ++ be v.started 8)))), 0⟩ := by rw [e0]; exact (reads_int _ 8).full _ _
  have p2 : (i.va.intS 8).intV 2 = v.epoch := by rw [e1, int_full _ 2 (by decide) f1]
  have e2 : (i.va.intS 8).intS 2 = ⟨(([] ++ be 0 2) ++ be v.producer 8) ++ be v.epoch 2, be v.timeout 4 ++ (be v.state 1 ++ (wTopics v.topics ++ (be v.updated 8 ++ be v.started 8))), 0⟩ := by rw [e1]; exact (reads_int _ 2).full _ _
  have p3 : ((i.va.intS 8).intS 2).intV 4 = v.timeout := by rw [e2, int_full _ 4 (by decide) f2]
  have e3 : ((i.va.intS 8).intS 2).intS 4 = ⟨((([] ++ be 0 2) ++ be v.producer 8) ++ be v.epoch 2) ++ be v.timeout 4, be v.state 1 ++ (wTopics v.topics ++ (be v.updated 8 ++ be v.started 8)), 0⟩ := by rw [e2]; exact (reads_int _ 4).full _ _
  have p4 : (((i.va.intS 8).intS 2).intS 4).intV 1 = v.state := by rw [e3, int_full _ 1 (by decide) f3]
  have e4 : i.vb = ⟨(((([] ++ be 0 2) ++ be v.producer 8) ++ be v.epoch 2) ++ be v.timeout 4) ++ be v.state 1, wTopics v.topics ++ (be v.updated 8 ++ be v.started 8), 0⟩ := by unfold ISt.vb; rw [e3]; exact (reads_int _ 1).full _ _
  have e5 := topics_rd ht ((((([] ++ be 0 2) ++ be v.producer 8) ++ be v.epoch 2) ++ be v.timeout 4) ++ be v.state 1) (be v.updated 8 ++ be v.started 8)
  rw [← e4] at e5
  have p6 : i.vc.intV 8 = v.updated := by unfold ISt.vc; rw [e5, int_full _ 8 (by decide) (fit8 hi.2.1)]
  have e6 : i.vc.intS 8 = ⟨((((((([] ++ be 0 2) ++ be v.producer 8) ++ be v.epoch 2) ++ be v.timeout 4) ++ be v.state 1)) ++ wTopics v.topics) ++ be v.updated 8, be v.started 8 ++ [], 0⟩ := by unfold ISt.vc; rw [e5, List.append_nil]; exact (reads_int _ 8).full _ _
  have p7 : (i.vc.intS 8).intV 8 = v.started := by rw [e6, int_full _ 8 (by decide) (fit8 hi.2.2)]
  have e7 : (i.vc.intS 8).intS 8 = ⟨wVal v, [], 0⟩ := by
    rw [e6]; refine ((reads_int _ 8).full _ _).trans ?_
    simp [wVal]
  refine ⟨?_, ?_⟩
  · unfold valS; rw [← hd, e7]; rfl
  · rw [← hd]; unfold ISt.valV; rw [p1, p2, p3, p4, e5, p6, p7]
theorem val_rt {v : TVal} (hi : v.i64s) (h : v.check = 0) (ht : topicsWok v.topics) : valEnc v = (wVal v, 0) ∧ valDec (wVal v) = (v, 0) := by
  obtain ⟨a1, a2⟩ := val_rd hi h ht
  refine ⟨?_, ?_⟩
  · unfold valEnc; rw [if_neg (by simp [h]), val_put _ hi h ht]; rfl
  · unfold valDec valE; rw [a1, a2, h]; rfl
theorem key_rt (l : List UInt8) (h : kright l = true) : keyEnc l = (be 0 2 ++ wText l, 0) ∧ keyDec (be 0 2 ++ wText l) = (l, 0) := by
  have hk := h
  unfold kright at hk
  simp only [Bool.and_eq_true, decide_eq_true_eq] at hk
  have f := fit2 hk.2
  have e0 : keyI (be 0 2 ++ wText l) = ⟨[] ++ be 0 2, wText l ++ [], 0⟩ := by
    unfold keyI ISt.va
    rw [int_full _ 2 (by decide) (by decide), if_pos rfl, List.append_nil]; exact (reads_int _ 2).full _ _
  obtain ⟨a1, a2⟩ := text_rd f ([] ++ be 0 2) []
  refine ⟨?_, ?_⟩
  · unfold keyEnc; rw [h, if_neg (by decide), oint_ok _ (n := 0) (s := 2) (by decide), text_put _ f]; rfl
  · have e1 : keyD (be 0 2 ++ wText l) = l := by unfold keyD; rw [e0, a1]
    have e2 : (keyS (be 0 2 ++ wText l)).e = 0 := by
      unfold keyS; rw [e1, e0, a2, if_neg (by simpa using hk.1)]; rfl
    unfold keyDec; rw [e1, e2]; rfl
end Go.Proofs.Ytflgfbffglmmeaa
