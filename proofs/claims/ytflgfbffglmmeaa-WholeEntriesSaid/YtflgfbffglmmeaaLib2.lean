/-
  The logic of memory, more: rows that were made and are only read from then on.
-/
import Derived.Test.YtflgfbffglmmeaaLib
import Derived.Deep.RegionLaw
namespace Go.Proofs.Ytflgfbffglmmeaa
open Go.RowKit
set_option linter.unusedVariables false
set_option linter.unusedSimpArgs false

section
variable {A B : Asn} {F : List Asn} {w : World} {P Q : World → Prop}
theorem Hd.ro2 (h : Hd (Ro P :: Ro Q :: F) w) : Hd (Ro (fun w => P w ∧ Q w) :: F) w := by
  obtain ⟨S, S1, S2, he, hd, ⟨b1, p1⟩, S3, S4, he2, hd2, ⟨b2, p2⟩, hf⟩ := h
  refine ⟨S, fun k => S1 k ∨ S3 k, S4, ?_, ?_, ⟨?_, ?_⟩, hf⟩
  · intro k; rw [he k, he2 k]; constructor <;> intro h <;> rcases h with h | h
    · exact .inl (.inl h)
    · rcases h with h | h
      · exact .inl (.inr h)
      · exact .inr h
    · rcases h with h | h
      · exact .inl h
      · exact .inr (.inl h)
    · exact .inr (.inr h)
  · intro k h h4
    rcases h with h | h
    · exact hd k h ((he2 k).2 (.inr h4))
    · exact hd2 k h h4
  · intro k h
    rcases h with h | h
    · exact b1 k h
    · exact b2 k h
  · intro w' hx hs
    exact ⟨p1 w' hx (fun k h => hs k (.inl h)), p2 w' hx (fun k h => hs k (.inr h))⟩
theorem Hd.ro_mk (h : Hd F w) (hp : ∀ w', P w') : Hd (Ro P :: F) w := by
  obtain ⟨S, hs⟩ := h
  exact ⟨S, fun _ => False, S, fun _ => by simp, fun _ h => h.elim, ⟨fun _ h => h.elim, fun w' _ _ => hp w'⟩, hs⟩
theorem Hd.ro_imp (h : Hd (Ro P :: F) w) (k : ∀ w, P w → Q w) : Hd (Ro Q :: F) w :=
  h.imp fun S hs => ⟨S, ⟨hs.1, fun w' hx h2 => k w' (hs.2 w' hx h2)⟩, fun _ h => h⟩
theorem Hd.own_ro {e : TypeId} {sz n : Nat} {v : Value} {xs : List Value} (h : Hd (Own e sz v n xs :: F) w) : Hd (Ro (fun w => w.ownsRow 0 e sz v n xs) :: F) w :=
  h.imp fun S hs => ⟨S, ⟨fun k hk => (Own e sz v n xs).bound hs k hk, fun w' hx h2 => ((Own e sz v n xs).stable hs hx h2).2⟩, fun _ h => h⟩
/-- What is said of a world that only what lies in front hangs on. -/
theorem Hd.keep {w' : World} (h : Hd (Ro P :: F) w) : P w := h.ro
end

section
variable {α : Type}
/-- A flat row of things, of sz cells each. -/
def Elems (K : World → α → List Value → Prop) (sz : Nat) (w : World) (ts : List α) (xs : List Value) : Prop :=
  xs.length = ts.length * sz ∧ ∀ i (h : i < ts.length), ∃ cs, cs.length = sz ∧ K w ts[i] cs ∧ ∀ j u, cs[j]? = some u → xs[i * sz + j]? = some u
theorem Elems.nil {K : World → α → List Value → Prop} {sz : Nat} {w : World} : Elems K sz w [] [] := ⟨by simp, fun i h => by simp at h⟩
theorem Elems.snoc {K : World → α → List Value → Prop} {sz : Nat} {w : World} {ts : List α} {xs cs : List Value} {t : α} (h : Elems K sz w ts xs) (hl : cs.length = sz) (hk : K w t cs) : Elems K sz w (ts ++ [t]) (xs ++ cs) := by
  refine ⟨by simp [h.1, hl, Nat.add_mul], fun i hi => ?_⟩
  by_cases hlt : i < ts.length
  · obtain ⟨c, h1, h2, h3⟩ := h.2 i hlt
    refine ⟨c, h1, by rw [List.getElem_append_left hlt]; exact h2, fun j u hu => ?_⟩
    have := h3 j u hu
    rw [List.getElem?_append_left (List.getElem?_eq_some_iff.1 this).1]
    exact this
  · obtain rfl : i = ts.length := by simp at hi; omega
    refine ⟨cs, hl, by simp; exact hk, fun j u hu => ?_⟩
    rw [← h.1, List.getElem?_append_right (by omega), show xs.length + j - xs.length = j by omega]
    exact hu
theorem Elems.mv {K : World → α → List Value → Prop} {sz : Nat} {w w' : World} {ts : List α} {xs : List Value} (h : Elems K sz w ts xs) (k : ∀ t cs, K w t cs → K w' t cs) : Elems K sz w' ts xs :=
  ⟨h.1, fun i hi => by obtain ⟨c, h1, h2, h3⟩ := h.2 i hi; exact ⟨c, h1, k _ _ h2, h3⟩⟩
theorem rows_own {K : World → α → List Value → Prop} {sz : Nat} {w : World} {e : TypeId} {A : Option Addr} {n c : Nat} {xs : List Value} {ts : List α} (hz : 0 < sz) (h : w.ownsRow 0 e sz (.slice A n c) n xs) (he : Elems K sz w ts xs) : Rows K sz w A ts := by
  intro hne
  have hp : 0 < ts.length := List.length_pos_iff.2 hne
  rcases h.2 with ⟨hv, hn⟩ | ⟨g, cap, cur, hv, _⟩
  · exfalso
    have h1 := h.1
    have h2 := he.1
    subst hn
    rw [Nat.zero_mul] at h1
    have := Nat.mul_pos hp hz
    omega
  · injection hv with e1 e2 e3
    subst e1
    refine ⟨g, 0, rfl, fun i hi => ?_⟩
    obtain ⟨cs, h1, h2, h3⟩ := he.2 i hi
    refine ⟨cs, h1, h2, fun j u hu => ?_⟩
    have hc := h.cells (g := g) rfl (i * sz + j) u (h3 j u hu)
    have ha : (⟨g, 0, none⟩ : Addr).add (i * sz + j) = ⟨g, 0 + (i * sz + j), none⟩ := by unfold Addr.add; split <;> simp_all
    rw [ha] at hc
    rw [Nat.add_assoc]; exact hc
end
/-- append to an owned row, as one step of a region that draws. -/
theorem step_app {P : Program} {ops : Array Oper} {o : Oper} {a : Act} {w : World} {K : Act → World → Prop} {Q : Exit → Act → World → Prop} {E : Prop} (hg : o.guard = none) (sl x : Operand) (t e : TypeId) (z : Value) (size bytes : Nat) (ho : o.op = .call { callee := .builtin .append, args := #[sl, x], argTypes := #[t, t] })
    (ht : P.underlying t = some (.slice e)) (hinfo : (P.info? e).map (fun i => (i.zero, i.size, i.bytes)) = some (some z, size, bytes)) (hzs : z.cells.size = size) (hsz : 0 < size)
    (A : Option Addr) (n c : Nat) (xs : List Value) (hs : a.eval sl = .slice A n c) (hown : w.ownsRow 0 e size (.slice A n c) n xs)
    (ad : Addr) (m c2 : Nat) (news : List Value) (hx : a.eval x = .slice (some ad) m c2) (hl : news.length = m * size) (hnews : ∀ j u, news[j]? = some u → w.cell? (ad.add j) = some u) (h1 : ∀ u ∈ news, u.oneCell' = true)
    (hb : (n + m) * bytes ≤ 140737488355328) (hb2 : n + m ≤ 140737488355328)
    (h : ∀ A' c' w', w'.ownsRow 0 e size (.slice A' (n + m) c') (n + m) (xs ++ news) → w.grownBy w' (Value.ownBlock (.slice A n c)) → Near w (.slice A n c) (.slice A' (n + m) c') → K (a.put o.dst (.slice A' (n + m) c')) w') :
    if Region.wanted o (yielded ops a.tmps) = true then Oper.wp P o a w K Q else E := by
  have hw : Region.wanted o (yielded ops a.tmps) = true := by simp [Region.wanted, hg]
  rw [if_pos hw]
  obtain ⟨i, hi, hz, hs1, hb1⟩ := info_parts hinfo
  obtain ⟨v', w', hr, h2, h3, _, h5⟩ := run_append_own_at (P := P) w 0 t o.type e i z size bytes ht hi hz hs1 hb1 hzs hsz (.slice A n c) n xs hown ad m c2 news hl hnews h1 (by simp only [maxLen]; omega) hb (Nat.zero_le _)
  obtain ⟨A', c', rfl⟩ := own_shape h2
  unfold Oper.wp execOp
  simp only [ho, resolve, invoke, builtin, Sem.run_bind, Sem.run_pure, Result.andThen_ok, List.map_toArray, List.map_cons, List.map_nil, hs, hx, hr]
  exact h A' c' w' h2 h3 (h5.imp id fun h k hk => by rw [h] at hk; injection hk with hk; omega)
end Go.Proofs.Ytflgfbffglmmeaa
