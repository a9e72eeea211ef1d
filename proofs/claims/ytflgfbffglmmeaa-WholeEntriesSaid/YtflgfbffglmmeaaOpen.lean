/-
  An argument's reading as data, opened to what the walks are told; and the frame of a law's row.
-/
import Derived.Test.YtflgfbffglmmeaaRows
import Derived.Test.YtflgfbffglmmeaaLib
import Derived.ProofKit
import Derived.SizedLaws
import Derived.Deep.Slices
namespace Go.Proofs.Ytflgfbffglmmeaa
open Go.ChangeShapes Go.WideShapes Go.ChangeAt Go.RowKit Go.Deep
set_option linter.unusedVariables false
set_option linter.unusedSimpArgs false

theorem own : ownKnob Try.prog.godebug = none := by kernel_rfl
theorem laid : laidOutB Try.prog = true := by kernel_rfl

theorem wf_bd {k : IntKind} {n : Int} (h : (Lit.int k n).wf = true) : k.min ≤ n ∧ n ≤ k.max := by simpa [Lit.wf] using h
theorem bd_i64 {n : Int} (h : (Lit.int .i64 n).wf = true) : -9223372036854775808 ≤ n ∧ n ≤ 9223372036854775807 := by
  have := wf_bd h
  rw [show IntKind.i64.min = -9223372036854775808 by decide, show IntKind.i64.max = 9223372036854775807 by decide] at this
  exact this
theorem bd_u16 {n : Int} (h : (Lit.int .u16 n).wf = true) : 0 ≤ n ∧ n < 65536 := by
  have := wf_bd h
  rw [show IntKind.u16.min = 0 by decide, show IntKind.u16.max = 65535 by decide] at this
  omega
theorem bd_u8 {n : Int} (h : (Lit.int .u8 n).wf = true) : 0 ≤ n ∧ n < 256 := by
  have := wf_bd h
  rw [show IntKind.u8.min = 0 by decide, show IntKind.u8.max = 255 by decide] at this
  omega

section
variable {H : Type} (enc : TypeId × Value → H) (w : World)
/-- Whatever reads as a t, no part of it over the form's reach, is told by K. -/
def Opn (t : TypeId) {α : Type} (K : World → α → List Value → Prop) : Prop :=
  ∀ fuel cs x, DataW.trod enc Try.prog w 0 (fun _ => true) true fuel t cs = some x → (∀ n ∈ x.1.weights Try.prog t, n ≤ 140737488355328) → ∃ a, K w a cs

variable {enc} {w}
theorem weightsAll_mem {P : Program} {e : TypeId} : ∀ {l : List (DataW H)} {d : DataW H}, d ∈ l → ∀ n ∈ d.weights P e, n ∈ DataW.weightsAll P e l
  | [], _, h, _, _ => by simp at h
  | x :: l, d, h, n, hn => by
    simp only [DataW.weightsAll, List.mem_append]
    rcases List.mem_cons.1 h with rfl | h
    · exact Or.inl hn
    · exact Or.inr (weightsAll_mem h n hn)
theorem opn_int {k : IntKind} {t : TypeId} (ht : Try.prog.underlying t = some (.int k)) : Opn enc w t (fun _ (n : Int) cs => cs = [.int k n] ∧ (Lit.int k n).wf = true) := by
  intro fuel cs x h _
  obtain ⟨n, rfl, _, hw⟩ := DataW.trod_int ht h
  exact ⟨n, rfl, hw⟩
theorem opn_bool {t : TypeId} (ht : Try.prog.underlying t = some .bool) : Opn enc w t (fun _ (b : Bool) cs => cs = [.bool b]) := by
  intro fuel cs x h _
  obtain ⟨n, rfl, _⟩ := DataW.trod_bool ht h
  exact ⟨n, rfl⟩
theorem opn_string {t : TypeId} (ht : Try.prog.underlying t = some .string) : Opn enc w t (fun _ (l : List UInt8) cs => cs = [.string (toS l)] ∧ l.length ≤ 140737488355328) := by
  intro fuel cs x h hw
  obtain ⟨s, rfl, rfl, _⟩ := DataW.trod_string ht h
  exact ⟨toL s, rfl, hw _ (by simp [DataW.weights, toL])⟩
theorem opn_slice {t e : TypeId} {sz : Nat} {α : Type} {K : World → α → List Value → Prop} (ht : Try.prog.underlying t = some (.slice e)) (hsz : Try.prog.cellsOf e = sz) (hz : 0 < sz) (hb : 1 ≤ Try.prog.bytesOf e) (hK : Opn enc w e K) :
    Opn enc w t (fun w (xs : List α) cs => ∃ A c, cs = [.slice A xs.length c] ∧ Rows K sz w A xs ∧ xs.length ≤ 140737488355328) := by
  intro fuel cs x h hw
  rcases open_slice ht h with ⟨rfl, rfl⟩ | ⟨a, len, cap, m, n, D, Pl, rfl, _, hl, _, hm, rfl, hi⟩
  · exact ⟨[], none, 0, rfl, Rows.nil, Nat.zero_le _⟩
  · simp only [if_true] at hm
    have hin : ∀ i : Nat, i < len → ∃ a', ∃ cs', cs'.length = sz ∧ K w a' cs' ∧ ∀ j u, cs'[j]? = some u → w.cell? (a.add (i * sz + j)) = some u := by
      intro i hlt
      obtain ⟨cs', hc, htr⟩ := hi i (by omega)
      rw [hsz] at hc
      obtain ⟨_, hcl, hat⟩ := World.cells?_some hc
      obtain ⟨a', ha'⟩ := hK n cs' _ htr (by
        intro k hk
        refine hw k ?_
        simp only [DataW.weights, ht, List.mem_cons, List.mem_append]
        refine Or.inr (Or.inl ?_)
        exact weightsAll_mem (List.mem_map.2 ⟨i, List.mem_range.2 hlt, rfl⟩) k hk)
      refine ⟨a', cs', hcl, ha', fun j u hu => ?_⟩
      have hj : j < sz := by have := (List.getElem?_eq_some_iff.1 hu).1; omega
      rw [← add_add, hat j hj, hu]
    have hlen : len ≤ 140737488355328 := by
      have := hw ((len + (cap - len)) * Try.prog.bytesOf e) (by simp [DataW.weights, ht, hm])
      have h2 : (len + (cap - len)) * 1 ≤ (len + (cap - len)) * Try.prog.bytesOf e := Nat.mul_le_mul_left _ hb
      omega
    have hch : ∃ xs : List α, xs.length = len ∧ ∀ i (h : i < xs.length), ∃ cs', cs'.length = sz ∧ K w xs[i] cs' ∧ ∀ j u, cs'[j]? = some u → w.cell? (a.add (i * sz + j)) = some u := by
      clear hi hw h hlen
      refine ⟨List.ofFn (fun i : Fin len => Classical.choose (hin i.1 i.2)), by simp, fun i hlt => ?_⟩
      have hlt2 : i < len := by simpa using hlt
      simpa using Classical.choose_spec (hin i hlt2)
    obtain ⟨xs, rfl, hx⟩ := hch
    refine ⟨xs, some a, cap, rfl, fun hne => ?_, hlen⟩
    · have hp : 0 < xs.length := List.length_pos_iff.2 hne
      obtain ⟨b, off, spot⟩ := a
      have hspot : spot = none := by
        obtain ⟨cs', hcl, _, hat⟩ := hx 0 hp
        have := hat 0 _ (List.getElem?_eq_getElem (by omega))
        simpa [Addr.add] using World.cell?_spot this
      subst hspot
      refine ⟨b, off, rfl, fun i hlt => ?_⟩
      obtain ⟨cs', hcl, hk, hat⟩ := hx i hlt
      refine ⟨cs', hcl, hk, fun j u hu => ?_⟩
      have := hat j u hu
      rw [Go.WideShapes.add_plain] at this
      rw [Nat.add_assoc]
      exact this

theorem weightsEach_mem {P : Program} : ∀ {ts : List TypeId} {ds : List (DataW H)} {i : Nat} {t : TypeId} {d : DataW H}, ts[i]? = some t → ds[i]? = some d → ∀ n ∈ d.weights P t, n ∈ DataW.weightsEach P ts ds := fun ht hd n hn => DataW.weights_mem_each ht hd n hn
theorem struct_len {t : TypeId} {fs : Array Field} {fuel : Nat} {cs : List Value} {x : DataW H × List MemPlace} (ht : Try.prog.underlying t = some (.struct fs)) (h : DataW.trod enc Try.prog w 0 (fun _ => true) true fuel t cs = some x) : cs.length = Try.prog.cellsOf t := by
  obtain ⟨_, _, _, _, hl, _, _⟩ := DataW.trod_struct ht h
  exact hl
theorem struct_field {t : TypeId} {fs : Array Field} {fuel : Nat} {cs : List Value} {x : DataW H × List MemPlace} (ht : Try.prog.underlying t = some (.struct fs)) (h : DataW.trod enc Try.prog w 0 (fun _ => true) true fuel t cs = some x)
    (hw : ∀ n ∈ x.1.weights Try.prog t, n ≤ 140737488355328) (i off k : Nat) {f : Field} (hf : fs[i]? = some f) (ho : f.offset = off) (hk : Try.prog.cellsOf f.type = k) {α : Type} {K : World → α → List Value → Prop} (hK : Opn enc w f.type K) :
    ∃ a, K w a ((cs.drop off).take k) := by
  subst ho
  subst hk
  obtain ⟨xs, n, _, rfl, _, hlen, hg⟩ := DataW.trod_struct ht h
  have hi : i < xs.length := by have := (Array.getElem?_eq_some_iff.1 hf).1; omega
  have hx : xs[i]? = some xs[i] := List.getElem?_eq_getElem hi
  refine hK n _ xs[i] ((hg i f hf).trans hx) fun k hk => hw k ?_
  simp only [DataW.weights, ht]
  exact weightsEach_mem (i := i) (t := f.type) (d := xs[i].1) (by simp [hf]) (by simp [hx]) k hk
theorem arg_open {ts : List TypeId} {ds : List (DataW H)} (hsz : (DataW.weightsEach Try.prog ts ds).all (· ≤ reachBytes) = true) (j : Nat) {t : TypeId} {v : Value} {d : DataW H} {p : List MemPlace} (ht : ts[j]? = some t) (hd : ds[j]? = some d)
    (h : DataW.Trod enc Try.prog w 0 (fun _ => true) true t v d p) {α : Type} {K : World → α → List Value → Prop} (hK : Opn enc w t K) : ∃ a, K w a v.cells.toList := by
  obtain ⟨fuel, hf⟩ := h
  refine hK fuel _ _ hf fun n hn => ?_
  have := List.all_eq_true.1 hsz _ (DataW.weights_mem_each ht hd n hn)
  have h2 := of_decide_eq_true this
  have h3 : reachBytes ≤ 140737488355328 := by decide
  omega
theorem arg_lt {t : TypeId} {v : Value} {d : DataW H} {p : List MemPlace} (h : DataW.Trod enc Try.prog w 0 (fun _ => true) true t v d p) : ∀ x ∈ p, x.block < w.heap.size := by
  obtain ⟨m, hm⟩ := h
  exact DataW.trod_lt m _ _ _ hm
theorem rows_and {α : Type} {K : World → α → List Value → Prop} {B : α → Prop} {sz : Nat} {A : Option Addr} {xs : List α} (h : Rows (fun w x cs => K w x cs ∧ B x) sz w A xs) : Rows K sz w A xs ∧ ∀ x ∈ xs, B x := by
  refine ⟨fun hne => ?_, fun x hx => ?_⟩
  · obtain ⟨b, off, hA, hc⟩ := h hne
    exact ⟨b, off, hA, fun i hi => by obtain ⟨cs, h1, h2, h3⟩ := hc i hi; exact ⟨cs, h1, h2.1, h3⟩⟩
  · obtain ⟨b, off, hA, hc⟩ := h (by intro e; simp [e] at hx)
    obtain ⟨i, hi, rfl⟩ := List.mem_iff_getElem.1 hx
    obtain ⟨cs, h1, h2, h3⟩ := hc i hi
    exact h2.2
end
end Go.Proofs.Ytflgfbffglmmeaa
