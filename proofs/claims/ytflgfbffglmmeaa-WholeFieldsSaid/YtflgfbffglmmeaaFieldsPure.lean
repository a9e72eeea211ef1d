/-
  The law WholeFields: what is written is read back, and a part of it reads short.
-/
import Derived.Test.YtflgfbffglmmeaaFieldsLaw
import Derived.Test.YtflgfbffglmmeaaPure
namespace Go.Proofs.Ytflgfbffglmmeaa
set_option linter.unusedVariables false
set_option linter.unusedSimpArgs false

theorem rdN_state : ∀ (ns : List Int) (ok : Bool) (i : ISt), (rdN ns ok i).2 = (rdN ns true i).2
  | [], _, _ => rfl
  | n :: t, ok, i => by unfold rdN; rw [rdN_state t _, rdN_state t (decide (i.varV 64 = n) && true)]
theorem rdB_state : ∀ (bs : List Blob) (ok : Bool) (i : ISt), (rdB bs ok i).2 = (rdB bs true i).2
  | [], _, _ => rfl
  | b :: t, ok, i => by unfold rdB; rw [rdB_state t _, rdB_state t (decide (i.varBS.fixB 2 = b) && (decide (i.varB = b) && true))]
theorem reads_rdN : ∀ (ns : List Int), (∀ n ∈ ns, -9223372036854775808 ≤ n ∧ n ≤ 9223372036854775807) → Reads (fun i => (rdN ns true i).2) (ns.flatMap vint)
  | [], _ => Reads.id
  | n :: t, h => by
    have h1 := h n (by simp)
    have := Reads.comp (reads_v64 n h1.1 h1.2) (reads_rdN t fun m hm => h m (by simp [hm]))
    rw [List.flatMap_cons]
    refine (show (fun i => (rdN (n :: t) true i).2) = fun i : ISt => (rdN t true (i.varS 64)).2 from ?_) ▸ this
    funext i
    exact rdN_state t _ _
theorem rdN_full : ∀ (ns : List Int) (ok : Bool) (d r : List UInt8), (∀ n ∈ ns, -9223372036854775808 ≤ n ∧ n ≤ 9223372036854775807) → (rdN ns ok ⟨d, ns.flatMap vint ++ r, 0⟩).1 = ok
  | [], ok, d, r, _ => rfl
  | n :: t, ok, d, r, h => by
    have h1 := h n (by simp)
    unfold rdN
    rw [List.flatMap_cons, List.append_assoc, v64_full n h1.1 h1.2, (reads_v64 n h1.1 h1.2).full, rdN_full t _ _ _ fun m hm => h m (by simp [hm])]
    simp
theorem okB_facts (b : Blob) (h : okB b = true) : b.right = true ∧ fitsB b.len 4 = true ∧ fitsB b.len 2 = true := by
  unfold okB at h
  simp only [Bool.and_eq_true, decide_eq_true_eq] at h
  have := fits_len b (by omega)
  exact ⟨h.2, this.2, this.1⟩
theorem reads_rdB : ∀ (bs : List Blob), (∀ b ∈ bs, okB b = true) → Reads (fun i => (rdB bs true i).2) (bs.flatMap wfB)
  | [], _ => Reads.id
  | b :: t, h => by
    obtain ⟨h1, h2, h3⟩ := okB_facts b (h b (by simp))
    have := Reads.comp (Reads.comp (reads_varB b h1 h2) (reads_fixB b 2 (by decide) h1 h3)) (reads_rdB t fun m hm => h m (by simp [hm]))
    rw [List.flatMap_cons]
    refine (show (fun i => (rdB (b :: t) true i).2) = fun i : ISt => (rdB t true (i.varBS.fixBS 2)).2 from ?_) ▸ this
    funext i
    exact rdB_state t _ _
theorem rdB_full : ∀ (bs : List Blob) (ok : Bool) (d r : List UInt8), (∀ b ∈ bs, okB b = true) → (rdB bs ok ⟨d, bs.flatMap wfB ++ r, 0⟩).1 = ok
  | [], ok, d, r, _ => rfl
  | b :: t, ok, d, r, h => by
    obtain ⟨h1, h2, h3⟩ := okB_facts b (h b (by simp))
    unfold rdB
    have e : (b :: t).flatMap wfB ++ r = (vint b.len ++ b.d) ++ ((be b.len 2 ++ b.d) ++ (t.flatMap wfB ++ r)) := by
      simp [wfB, List.flatMap_cons, List.append_assoc]
    rw [e, varB_full b h1 h2, (reads_varB b h1 h2).full, fixB_full b 2 (by decide) h1 h3, (reads_fixB b 2 (by decide) h1 h3).full, rdB_full t _ _ _ fun m hm => h m (by simp [hm])]
    simp
theorem reads_all (ns : List Int) (bs : List Blob) (hn : ∀ n ∈ ns, -9223372036854775808 ≤ n ∧ n ≤ 9223372036854775807) (hb : bs.all okB = true) : Reads (fun i => (rdAll ns bs i).2) (wfS ns bs) := by
  have hb' := List.all_eq_true.1 hb
  have := Reads.comp (reads_v64 (-1) (by decide) (by decide)) (Reads.comp (reads_rdN ns hn) (reads_rdB bs hb'))
  refine (show (fun i => (rdAll ns bs i).2) = fun i : ISt => (rdB bs true (rdN ns true (i.varS 64)).2).2 from ?_) ▸ this
  funext i
  unfold rdAll
  rw [rdB_state, rdN_state]
theorem fields_rt (ns : List Int) (bs : List Blob) (hn : ∀ n ∈ ns, -9223372036854775808 ≤ n ∧ n ≤ 9223372036854775807) (hb : bs.all okB = true) : rdAll ns bs ⟨[], wfS ns bs, 0⟩ = (true, ⟨wfS ns bs, [], 0⟩) := by
  have hb' := List.all_eq_true.1 hb
  have h2 := (reads_all ns bs hn hb).full [] []
  rw [List.append_nil, List.nil_append] at h2
  refine Prod.ext ?_ h2
  unfold rdAll wfS
  have e1 := v64_full (-1) (by decide) (by decide) [] (ns.flatMap vint ++ bs.flatMap wfB)
  have e2 := (reads_v64 (-1) (by decide) (by decide)).full [] (ns.flatMap vint ++ bs.flatMap wfB)
  rw [e1, e2, rdN_state]
  have e3 := (reads_rdN ns hn).full ([] ++ vint (-1)) (bs.flatMap wfB)
  rw [e3]
  have e4 := rdB_full bs (rdN ns (decide ((-1 : Int) = -1)) ⟨[] ++ vint (-1), ns.flatMap vint ++ bs.flatMap wfB, 0⟩).1 (([] ++ vint (-1)) ++ ns.flatMap vint) [] hb'
  rw [List.append_nil] at e4
  rw [e4, rdN_full ns _ _ _ hn]
  rfl
theorem fields_cut (ns : List Int) (bs : List Blob) (k : Nat) (hn : ∀ n ∈ ns, -9223372036854775808 ≤ n ∧ n ≤ 9223372036854775807) (hb : bs.all okB = true) (hk : k < (wfS ns bs).length) : (rdAll ns bs ⟨[], (wfS ns bs).take k, 0⟩).2.e = 1 := by
  refine (reads_all ns bs hn hb).cut [] _ ((wfS ns bs).drop k) (List.take_append_drop k _).symm ?_
  intro h
  have := congrArg List.length h
  rw [List.length_drop] at this
  simp at this
  omega
end Go.Proofs.Ytflgfbffglmmeaa
