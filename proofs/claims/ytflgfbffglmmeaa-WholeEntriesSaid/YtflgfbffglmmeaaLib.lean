/-
  A small logic of memory for the walks of this seat: assertions with footprints, put side by side ('A :: B'); no program in sight.
-/
import Derived.WalkKit
import Derived.WalkSpells
import Derived.WalkLawsBesides
import Derived.Lib.AppendStr
import Derived.Maps.AppendAt
import Derived.Lib.Hide
import Derived.Deep.Draws
import Derived.Deep.LoopGhost
import Derived.Deep.QuietTactic
import Derived.BigQuiet
import Derived.KernelRfl
import Derived.RowKit3
namespace Go.Proofs.Ytflgfbffglmmeaa
open Go.RowKit
set_option linter.unusedVariables false
set_option linter.unusedSimpArgs false

/-- The streams as they were, and no block gone. -/
structure Ext (w w' : World) : Prop where
  os : w'.os = w.os
  tape : w'.tape = w.tape
  output : w'.output = w.output
  size : w.heap.size ≤ w'.heap.size
theorem Ext.refl (w : World) : Ext w w := ⟨rfl, rfl, rfl, Nat.le_refl _⟩
theorem Ext.trans {a b c : World} (h : Ext a b) (k : Ext b c) : Ext a c := ⟨k.os.trans h.os, k.tape.trans h.tape, k.output.trans h.output, Nat.le_trans h.size k.size⟩
theorem Ext.of_below {B : Nat} {w w' : World} (h : Below B w w') : Ext w w' := ⟨h.os, h.tape, h.output, h.size⟩
theorem Ext.of_grown {w w' : World} {row : Option Nat} (h : w.grownBy w' row) : Ext w w' := ⟨h.os, h.tape, h.output, h.size⟩
theorem Ext.alloc (w : World) (o : Obj) : Ext w (w.alloc o) := ⟨rfl, rfl, rfl, by simp⟩
theorem Ext.setCell (w : World) (a : Addr) (u : Value) : Ext w (w.setCell a u) := ⟨rfl, rfl, rfl, by simp [World.setCell]⟩
theorem Ext.drew (w : World) : Ext w w.drew := ⟨rfl, rfl, rfl, Nat.le_refl _⟩
theorem Ext.drewN (w : World) (n : Nat) : Ext w (w.drewN n) := ⟨rfl, rfl, rfl, Nat.le_refl _⟩

/-- An assertion: what is said of a world, and the blocks that it hangs on. -/
structure Asn where
  ok : World → (Nat → Prop) → Prop
  bound : ∀ {w S}, ok w S → ∀ k, S k → k < w.heap.size
  stable : ∀ {w w' S}, ok w S → Ext w w' → (∀ k, S k → w'.heap[k]? = w.heap[k]?) → ok w' S

/-- Side by side, on blocks apart. -/
def Asn.sep (A B : Asn) : Asn where
  ok w S := ∃ S1 S2 : Nat → Prop, (∀ k, S k ↔ S1 k ∨ S2 k) ∧ (∀ k, S1 k → S2 k → False) ∧ A.ok w S1 ∧ B.ok w S2
  bound := by
    rintro w S ⟨S1, S2, he, _, ha, hb⟩ k hk
    rcases (he k).1 hk with h | h
    · exact A.bound ha k h
    · exact B.bound hb k h
  stable := by
    rintro w w' S ⟨S1, S2, he, hd, ha, hb⟩ hx hs
    exact ⟨S1, S2, he, hd, A.stable ha hx (fun k hk => hs k ((he k).2 (.inl hk))), B.stable hb hx (fun k hk => hs k ((he k).2 (.inr hk)))⟩
/-- Nothing. -/
def Asn.emp : Asn where
  ok _ S := ∀ k, ¬ S k
  bound := fun h k hk => (h k hk).elim
  stable := fun h _ _ => h
def Asn.all : List Asn → Asn
  | [] => Asn.emp
  | A :: F => Asn.sep A (Asn.all F)
def Hd (F : List Asn) (w : World) : Prop := ∃ S, (Asn.all F).ok w S

section
variable {A A' B C D E : Asn} {F G : List Asn} {w w' : World}
theorem Hd.t (h : Hd (A :: F) w) : Hd F w := by
  obtain ⟨_, S1, S2, _, _, _, hb⟩ := h
  exact ⟨S2, hb⟩
theorem Hd.h (h : Hd (A :: F) w) : ∃ S, A.ok w S := by
  obtain ⟨_, S1, S2, _, _, ha, _⟩ := h
  exact ⟨S1, ha⟩
theorem Hd.mv (h : Hd F w) (hx : Ext w w') (hb : ∀ k, k < w.heap.size → w'.heap[k]? = w.heap[k]?) : Hd F w' := by
  obtain ⟨S, hs⟩ := h
  exact ⟨S, (Asn.all F).stable hs hx (fun k hk => hb k ((Asn.all F).bound hs k hk))⟩
theorem Hd.below (h : Hd F w) (hb : Below w.heap.size w w') : Hd F w' := h.mv (Ext.of_below hb) hb.block
theorem Hd.drew (h : Hd F w) : Hd F w.drew := h.mv (Ext.drew w) (fun _ _ => rfl)
theorem Hd.drewN (h : Hd F w) (n : Nat) : Hd F (w.drewN n) := h.mv (Ext.drewN w n) (fun _ _ => rfl)
theorem Hd.allocO (h : Hd F w) (o : Obj) : Hd F (w.alloc o) := h.mv (Ext.alloc w o) (fun k hk => Below.heap_alloc w o k hk)
/-- One part turns, the others stay. -/
theorem Hd.upd (h : Hd (A :: F) w) (k : ∀ S, A.ok w S → ∃ S', A'.ok w' S' ∧ Ext w w' ∧ (∀ j, j < w.heap.size → ¬ S j → w'.heap[j]? = w.heap[j]?) ∧ (∀ j, S' j → S j ∨ w.heap.size ≤ j)) : Hd (A' :: F) w' := by
  obtain ⟨S, S1, S2, he, hd, ha, hb⟩ := h
  obtain ⟨S', ha', hx, hk, hn⟩ := k S1 ha
  refine ⟨fun j => S' j ∨ S2 j, S', S2, fun j => Iff.rfl, ?_, ha', (Asn.all F).stable hb hx (fun j hj => hk j ((Asn.all F).bound hb j hj) (fun h1 => hd j h1 hj))⟩
  intro j h1 h2
  rcases hn j h1 with h | h
  · exact hd j h h2
  · have := (Asn.all F).bound hb j h2; omega
/-- A part is said otherwise. -/
theorem Hd.imp (h : Hd (A :: F) w) (k : ∀ S, A.ok w S → ∃ S', A'.ok w S' ∧ ∀ j, S' j → S j) : Hd (A' :: F) w :=
  h.upd fun S hs => by
    obtain ⟨S', h1, h2⟩ := k S hs
    exact ⟨S', h1, Ext.refl w, fun _ _ _ => rfl, fun j hj => .inl (h2 j hj)⟩
/-- The second in front; the third; the fourth; and back. -/
theorem Hd.f2 (h : Hd (A :: B :: F) w) : Hd (B :: A :: F) w := by
  obtain ⟨S, S1, S2, he, hd, ha, S3, S4, he2, hd2, hb, hf⟩ := h
  refine ⟨S, S3, fun k => S1 k ∨ S4 k, ?_, ?_, hb, S1, S4, fun _ => Iff.rfl, ?_, ha, hf⟩
  · intro k; rw [he k, he2 k]; constructor <;> intro h <;> rcases h with h | h | h <;> simp [h]
  · intro k h3 h; rcases h with h | h
    · exact hd k h ((he2 k).2 (.inl h3))
    · exact hd2 k h3 h
  · intro k h1 h4; exact hd k h1 ((he2 k).2 (.inr h4))
theorem Hd.under (h : Hd (A :: F) w) (k : ∀ S, (Asn.all F).ok w S → (Asn.all G).ok w S) : Hd (A :: G) w := by
  obtain ⟨S, S1, S2, he, hd, ha, hb⟩ := h
  exact ⟨S, S1, S2, he, hd, ha, k S2 hb⟩
theorem Asn.swap {S : Nat → Prop} (h : (Asn.all (A :: B :: F)).ok w S) : (Asn.all (B :: A :: F)).ok w S := by
  obtain ⟨S1, S2, he, hd, ha, S3, S4, he2, hd2, hb, hf⟩ := h
  refine ⟨S3, fun k => S1 k ∨ S4 k, ?_, ?_, hb, S1, S4, fun _ => Iff.rfl, ?_, ha, hf⟩
  · intro k; rw [he k, he2 k]; constructor <;> intro h <;> rcases h with h | h | h <;> simp [h]
  · intro k h3 h; rcases h with h | h
    · exact hd k h ((he2 k).2 (.inl h3))
    · exact hd2 k h3 h
  · intro k h1 h4; exact hd k h1 ((he2 k).2 (.inr h4))
theorem Hd.f3 (h : Hd (A :: B :: C :: F) w) : Hd (C :: A :: B :: F) w := (h.under fun _ k => Asn.swap k).f2
theorem Hd.b3 (h : Hd (C :: A :: B :: F) w) : Hd (A :: B :: C :: F) w := h.f2.under fun _ k => Asn.swap k
theorem Asn.underA {S : Nat → Prop} (h : (Asn.all (A :: F)).ok w S) (k : ∀ S, (Asn.all F).ok w S → (Asn.all G).ok w S) : (Asn.all (A :: G)).ok w S := by
  obtain ⟨S1, S2, he, hd, ha, hb⟩ := h
  exact ⟨S1, S2, he, hd, ha, k S2 hb⟩
theorem Hd.f4 (h : Hd (A :: B :: C :: D :: F) w) : Hd (D :: A :: B :: C :: F) w := (h.under fun _ k => Asn.swap (Asn.underA k fun _ k => Asn.swap k)).f2
theorem Hd.b4 (h : Hd (D :: A :: B :: C :: F) w) : Hd (A :: B :: C :: D :: F) w := h.f2.under fun _ k => Asn.underA (Asn.swap k) fun _ k => Asn.swap k
/-- The second is let go. -/
theorem Hd.d2 (h : Hd (A :: B :: F) w) : Hd (A :: F) w := h.f2.t
end

theorem Asn.all_pick : ∀ (n : Nat) {A : Asn} {L L' : List Asn} {w : World} {S : Nat → Prop}, L[n]? = some A → L.eraseIdx n = L' → (Asn.all L).ok w S → (Asn.all (A :: L')).ok w S
  | 0, A, L, L', w, S, h1, h2, h => by
    cases L with
    | nil => cases h1
    | cons B L =>
      have e : B = A := by simpa using h1
      subst e
      have e2 : L = L' := h2
      subst e2
      exact h
  | n + 1, A, L, L', w, S, h1, h2, h => by
    cases L with
    | nil => cases h1
    | cons B L =>
      have e2 : B :: L.eraseIdx n = L' := h2
      subst e2
      exact Asn.swap (Asn.underA h fun _ k => Asn.all_pick n (by simpa using h1) rfl k)
/-- The n-th in front. -/
theorem Hd.pick {A : Asn} {L L' : List Asn} {w : World} (h : Hd L w) (n : Nat) (h1 : L[n]? = some A) (h2 : L.eraseIdx n = L') : Hd (A :: L') w := by
  obtain ⟨S, hs⟩ := h
  exact ⟨S, Asn.all_pick n h1 h2 hs⟩

/-- A block that is known whole. -/
def Cel (b : Nat) (cs : Array Value) (t : TypeId) : Asn where
  ok w S := (∀ k, S k ↔ k = b) ∧ w.heap[b]? = some (.cells cs t (0, 0))
  bound := by
    rintro w S ⟨he, hb⟩ k hk
    obtain rfl := (he k).1 hk
    rcases Nat.lt_or_ge k w.heap.size with h | h
    · exact h
    · rw [Array.getElem?_eq_none h] at hb; cases hb
  stable := by
    rintro w w' S ⟨he, hb⟩ _ hs
    exact ⟨he, (hs b ((he b).2 rfl)).trans hb⟩
section
variable {A A' : Asn} {F : List Asn} {w w' : World} {b : Nat} {cs : Array Value} {t : TypeId}
theorem Hd.blk (h : Hd (Cel b cs t :: F) w) : w.heap[b]? = some (.cells cs t (0, 0)) := by
  obtain ⟨_, _, _, _, _, ⟨_, hb⟩, _⟩ := h
  exact hb
theorem cell_blk (h : w.heap[b]? = some (.cells cs t (0, 0))) (j : Nat) : w.cell? ⟨b, j, none⟩ = cs[j]? := cell_of_row w b j cs t (0, 0) h
theorem frozen_blk (h : w.heap[b]? = some (.cells cs t (0, 0))) (j : Nat) : w.frozen? ⟨b, j, none⟩ = false := by simp [World.frozen?, h]
theorem blk_lt (h : w.heap[b]? = some (.cells cs t (0, 0))) : b < w.heap.size := (Array.getElem?_eq_some_iff.1 h).1
theorem Hd.c (h : Hd (Cel b cs t :: F) w) (j : Nat) : w.cell? ⟨b, j, none⟩ = cs[j]? := cell_blk h.blk j
theorem Hd.z (h : Hd (Cel b cs t :: F) w) (j : Nat) : w.frozen? ⟨b, j, none⟩ = false := frozen_blk h.blk j
theorem Hd.alloc (h : Hd F w) (cs : Array Value) (t : TypeId) : Hd (Cel w.heap.size cs t :: F) (w.alloc (.cells cs t)) := by
  obtain ⟨S, hs⟩ := h
  refine ⟨fun k => k = w.heap.size ∨ S k, fun k => k = w.heap.size, S, fun _ => Iff.rfl, ?_, ⟨fun _ => Iff.rfl, heap_alloc_new w _⟩, (Asn.all F).stable hs (Ext.alloc w _) (fun k hk => Below.heap_alloc w _ k ((Asn.all F).bound hs k hk))⟩
  rintro k rfl hk
  have := (Asn.all F).bound hs _ hk; omega
theorem Hd.set (h : Hd (Cel b cs t :: F) w) (j : Nat) (u : Value) : Hd (Cel b (cs.setIfInBounds j u) t :: F) (w.setCell ⟨b, j, none⟩ u) :=
  h.upd fun S ⟨he, hb⟩ => ⟨S, ⟨he, by simp [World.setCell, Array.getElem?_modify, hb]⟩, Ext.setCell _ _ _, fun k _ hk => Below.heap_setCell _ _ _ _ (fun e => hk ((he k).2 e)), fun _ hk => .inl hk⟩
end

/-- Whatever was below w0's end is as it was. -/
def Old (w0 : World) : Asn where
  ok w S := (∀ k, S k ↔ k < w0.heap.size) ∧ Below w0.heap.size w0 w
  bound := by
    rintro w S ⟨he, hb⟩ k hk
    exact Nat.lt_of_lt_of_le ((he k).1 hk) hb.size
  stable := by
    rintro w w' S ⟨he, hb⟩ hx hs
    refine ⟨he, ⟨hx.os.trans hb.os, hx.tape.trans hb.tape, hx.output.trans hb.output, Nat.le_trans hb.size hx.size, fun k hk => (hs k ((he k).2 hk)).trans (hb.block k hk)⟩⟩
theorem Old.start (w : World) : Hd [Old w] w := ⟨fun k => k < w.heap.size, fun k => k < w.heap.size, fun _ => False, fun _ => by simp, fun _ _ h => h, ⟨fun _ => Iff.rfl, Below.refl _ _⟩, fun _ h => h⟩
theorem Hd.old {F : List Asn} {w0 w : World} (h : Hd (Old w0 :: F) w) : Below w0.heap.size w0 w := by
  obtain ⟨_, _, hb⟩ := h.h
  exact hb

/-- Something that is only read: it hangs on blocks that nobody writes. -/
def Ro (P : World → Prop) : Asn where
  ok w S := (∀ k, S k → k < w.heap.size) ∧ ∀ w', Ext w w' → (∀ k, S k → w'.heap[k]? = w.heap[k]?) → P w'
  bound := fun h => h.1
  stable := by
    rintro w w' S ⟨h1, h2⟩ hx hs
    exact ⟨fun k hk => Nat.lt_of_lt_of_le (h1 k hk) hx.size, fun w2 hx2 hs2 => h2 w2 (hx.trans hx2) (fun k hk => (hs2 k hk).trans (hs k hk))⟩
theorem Hd.ro {P : World → Prop} {F : List Asn} {w : World} (h : Hd (Ro P :: F) w) : P w := by
  obtain ⟨_, _, _, _, _, ⟨_, h2⟩, _⟩ := h
  exact h2 w (Ext.refl w) (fun _ _ => rfl)

/-- A row of the call's own, to which is appended. -/
def Own (e : TypeId) (size : Nat) (v : Value) (n : Nat) (xs : List Value) : Asn where
  ok w S := (∀ k, S k ↔ v.ownBlock = some k) ∧ w.ownsRow 0 e size v n xs
  bound := by
    rintro w S ⟨he, ho⟩ k hk
    exact (ho.lt k ((he k).1 hk)).2
  stable := by
    rintro w w' S ⟨he, ho⟩ hx hs
    refine ⟨he, ho.1, ?_⟩
    rcases ho.2 with h2 | ⟨g, cap, cur, rfl, hg, hh, r⟩
    · exact .inl h2
    · exact .inr ⟨g, cap, cur, rfl, hg, (hs g ((he g).2 rfl)).trans hh, r⟩
theorem own_grown {F : List Asn} {w w' : World} {e : TypeId} {size n n' : Nat} {v v' : Value} {xs xs' : List Value} (h : Hd (Own e size v n xs :: F) w) (ho : w'.ownsRow 0 e size v' n' xs') (hg : w.grownBy w' v.ownBlock) (hv : v'.ownBlock = v.ownBlock ∨ ∀ k, v'.ownBlock = some k → w.heap.size ≤ k) : Hd (Own e size v' n' xs' :: F) w' :=
  h.upd fun S ⟨he, _⟩ => ⟨fun k => v'.ownBlock = some k, ⟨fun _ => Iff.rfl, ho⟩, Ext.of_grown hg, fun k hk hn => hg.block k hk (fun e => hn ((he k).2 e.symm)), fun k hk => by
    rcases hv with h | h
    · exact .inl ((he k).2 (h ▸ hk))
    · exact .inr (h k hk)⟩
theorem Hd.own_nil {F : List Asn} {w : World} (h : Hd F w) (e : TypeId) (size : Nat) : Hd (Own e size (.slice none 0 0) 0 [] :: F) w := by
  obtain ⟨S, hs⟩ := h
  exact ⟨S, fun _ => False, S, fun k => by simp, fun _ h => h.elim, ⟨fun k => by simp [Value.ownBlock], World.ownsRow_nil _ _ _ _⟩, hs⟩
theorem Hd.own {F : List Asn} {w : World} {e : TypeId} {size n : Nat} {v : Value} {xs : List Value} (h : Hd (Own e size v n xs :: F) w) : w.ownsRow 0 e size v n xs := by
  obtain ⟨_, _, _, _, _, ⟨_, ho⟩, _⟩ := h
  exact ho

/-! ### append, with the place of what comes back -/
theorem own_shape {w : World} {b : Nat} {e : TypeId} {size n : Nat} {v : Value} {xs : List Value} (h : w.ownsRow b e size v n xs) : ∃ A c, v = .slice A n c := by
  rcases h.2 with ⟨rfl, rfl⟩ | ⟨g, cap, cur, rfl, _⟩
  · exact ⟨none, 0, rfl⟩
  · exact ⟨_, cap, rfl⟩
/-- The new row is the old one, or in a new block. -/
def Near (w : World) (v v' : Value) : Prop := v'.ownBlock = v.ownBlock ∨ ∀ k, v'.ownBlock = some k → w.heap.size ≤ k
section
variable {P : Program} {w : World} {ops : Array Oper} {rest : List Oper} {o : Oper} {a : Act} {Q : Exit → Act → World → Prop}
theorem app_str (hgd : o.guard = none) (sl x : Operand) (t u e : TypeId) (ho : o.op = .call { callee := .builtin .append, args := #[sl, x], argTypes := #[t, u] })
    (ht : P.underlying t = some (.slice e)) (hu : P.underlying u = some .string) (hinfo : (P.info? e).map (fun i => (i.zero, i.size, i.bytes)) = some (some (.int .u8 0), 1, 1))
    (A : Option Addr) (n c : Nat) (xs : List Value) (hs : a.eval sl = .slice A n c) (hown : w.ownsRow 0 e 1 (.slice A n c) n xs) (s : ByteArray) (hx : a.eval x = .string s) (hl : n + s.size ≤ 140737488355328)
    (h : ∀ A' c' w', w'.ownsRow 0 e 1 (.slice A' (n + s.size) c') (n + s.size) (xs ++ Lib.strCells s) → w.grownBy w' (Value.ownBlock (.slice A n c)) → Near w (.slice A n c) (.slice A' (n + s.size) c') → wpList P ops Q rest (a.put o.dst (.slice A' (n + s.size) c')) w') :
    wpList P ops Q (o :: rest) a w := by
  obtain ⟨i, hi, hz, hs1, hb1⟩ := info_parts hinfo
  refine wpList_plain hgd fun K hK => ?_
  obtain ⟨v', w', hr, h2, h3, _⟩ := Lib.run_append_own_string (P := P) w 0 t u o.type e i ht hu hi hz hs1 hb1 (.slice A n c) n xs hown s (by simp only [maxLen]; omega) hl (Nat.zero_le _)
  have hn : Near w (.slice A n c) v' := by
    rcases hown.2 with ⟨hv, hn0⟩ | ⟨g, cap, cur, hv, _, hg, hnc, hcm, hcs, htake⟩
    · have hxs : xs = [] := List.eq_nil_of_length_eq_zero (by have := hown.1; omega)
      obtain ⟨v2, w2, hr2, ho2, _⟩ := Lib.run_append_own_string (P := P) w w.heap.size t u o.type e i ht hu hi hz hs1 hb1 (.slice none 0 0) 0 [] (World.ownsRow_nil _ _ _ _) s (by simp only [maxLen]; omega) (by omega) (Nat.le_refl _)
      rw [hv] at hr
      rw [hr] at hr2
      injection hr2 with e1 e2
      subst e1
      exact .inr fun k hk => (ho2.lt k hk).1
    · rw [hv] at hr hown ⊢
      by_cases hroom : n + s.size ≤ cap
      · have hcs' : cur.size = cap := by simpa using hcs
        have hr2 := Lib.run_append_room_string (P := P) w t u o.type e i ht hu hi hs1 g n cap cur hg s hroom (by omega)
        rw [hr] at hr2
        injection hr2 with e1 _
        subst e1
        exact .inl rfl
      · have hr2 := Lib.run_append_grow_string (P := P) w t u o.type e i (.int .u8 0) ht hu hi hz ⟨g, 0, none⟩ n cap xs (by rw [hs1]; exact hown.1) (hown.cells (g := g) rfl) s (by omega) (by omega) (by rw [hb1]; exact growslice_fits (by omega) (by omega))
        rw [hr] at hr2
        injection hr2 with e1 _
        subst e1
        exact .inr fun k hk => by simp [Value.ownBlock] at hk; omega
  obtain ⟨A', c', rfl⟩ := own_shape h2
  unfold Oper.wp execOp
  simp only [ho, resolve, invoke, builtin, Sem.run_bind, Sem.run_pure, Result.andThen_ok, List.map_toArray, List.map_cons, List.map_nil, hs, hx, hr]
  exact hK _ _ (h A' c' w' h2 h3 hn)
theorem app_row (hgd : o.guard = none) (sl x : Operand) (t e : TypeId) (z : Value) (size bytes : Nat) (ho : o.op = .call { callee := .builtin .append, args := #[sl, x], argTypes := #[t, t] })
    (ht : P.underlying t = some (.slice e)) (hinfo : (P.info? e).map (fun i => (i.zero, i.size, i.bytes)) = some (some z, size, bytes)) (hzs : z.cells.size = size) (hsz : 0 < size)
    (A : Option Addr) (n c : Nat) (xs : List Value) (hs : a.eval sl = .slice A n c) (hown : w.ownsRow 0 e size (.slice A n c) n xs)
    (ad : Addr) (m c2 : Nat) (news : List Value) (hx : a.eval x = .slice (some ad) m c2) (hl : news.length = m * size) (hnews : ∀ j u, news[j]? = some u → w.cell? (ad.add j) = some u) (h1 : ∀ u ∈ news, u.oneCell' = true)
    (hb : (n + m) * bytes ≤ 140737488355328) (hb2 : n + m ≤ 140737488355328)
    (h : ∀ A' c' w', w'.ownsRow 0 e size (.slice A' (n + m) c') (n + m) (xs ++ news) → w.grownBy w' (Value.ownBlock (.slice A n c)) → Near w (.slice A n c) (.slice A' (n + m) c') → wpList P ops Q rest (a.put o.dst (.slice A' (n + m) c')) w') :
    wpList P ops Q (o :: rest) a w := by
  obtain ⟨i, hi, hz, hs1, hb1⟩ := info_parts hinfo
  refine wpList_append_own_at w hgd sl x t ho 0 e i z size bytes ht hi hz hs1 hb1 hzs hsz (.slice A n c) n xs hs hown ad m c2 news hx hl hnews h1 (by simp only [maxLen]; omega) hb (Nat.zero_le _) ?_
  intro v' w' h2 h3 _ h4
  obtain ⟨A', c', rfl⟩ := own_shape h2
  exact h A' c' w' h2 h3 (h4.imp id fun h k hk => by rw [h] at hk; injection hk with hk; omega)
end

/-! ### texts -/
theorem wrap64_byte (c : UInt8) : wrap64 (c.toNat : Int) = c.toNat := by
  have := c.toNat_lt
  unfold wrap64; omega
theorem ret_int {k : IntKind} {a b : Int} (h : a = b) : Ending.returned (.int k a) = .returned (.int k b) := by rw [h]
theorem ret_bool {a b : Bool} (h : a = b) : Ending.returned (.bool a) = .returned (.bool b) := by rw [h]
theorem ret_str {a b : ByteArray} (h : a = b) : Ending.returned (.string a) = .returned (.string b) := by rw [h]
def toS (l : List UInt8) : ByteArray := ⟨l.toArray⟩
def toL (s : ByteArray) : List UInt8 := s.data.toList
theorem toL_toS (l : List UInt8) : toL (toS l) = l := rfl
theorem toS_toL (s : ByteArray) : toS (toL s) = s := rfl
theorem toL_length (s : ByteArray) : (toL s).length = s.size := by cases s; simp [toL, ByteArray.size]
theorem toS_list (l : List UInt8) : (toS l).toList = l := ByteArray.toList_eq _
theorem toS_inj {l m : List UInt8} (h : toS l = toS m) : l = m := congrArg toL h
theorem toS_size (l : List UInt8) : (toS l).size = l.length := by simp [toS, ByteArray.size]
def bcells (l : List UInt8) : List Value := l.map fun b => Value.int .u8 b.toNat
theorem bcells_toL (s : ByteArray) : Lib.strCells s = bcells (toL s) := rfl
theorem bcells_length (l : List UInt8) : (bcells l).length = l.length := by simp [bcells]
theorem bcells_append (l m : List UInt8) : bcells (l ++ m) = bcells l ++ bcells m := by simp [bcells]

theorem strOfNums_toS (l : List UInt8) : strOfNums (l.map fun b => (b.toNat : Int)) = toS l := by
  unfold strOfNums toS
  congr 2
  rw [List.map_map]
  conv => rhs; rw [← List.map_id l]
  apply List.map_congr_left
  intro b _
  simp
/-- 'string(b)' of bytes that are owned. -/
theorem conv_own {P : Program} {w : World} {e' src dst e n : Nat} {v : Value} {l : List UInt8} (hs : P.underlying src = some (.slice e)) (he : P.underlying e = some (.int .u8)) (hd : P.underlying dst = some .string)
    (h : w.ownsRow 0 e' 1 v n (bcells l)) : (convert src dst v).run P w = .ok (.string (toS l)) w := by
  have hl : l.length = n := by have := h.1; simp [bcells] at this; exact this
  rcases h.2 with ⟨rfl, rfl⟩ | ⟨g, cap, cur, rfl, _⟩
  · obtain rfl : l = [] := List.eq_nil_of_length_eq_zero hl
    exact run_convert_bytes_nil w src e hs he 0 0 dst hd
  · rw [← strOfNums_toS]
    refine run_convert_bytes_arg w src e hs he g 0 n cap _ (by simp [hl]) (fun i hi => ?_) dst hd
    have hc := h.cells (g := g) rfl i (.int .u8 (((l.map fun b => (b.toNat : Int)).getD i 0))) (by simp [bcells, List.getElem?_eq_getElem (show i < l.length by omega), List.getD_eq_getElem?_getD])
    have ha : (⟨g, 0, none⟩ : Addr).add i = ⟨g, 0 + i, none⟩ := by unfold Addr.add; split <;> simp_all
    rw [← ha]; exact hc

/-! ### slices that are read -/
/-- A slice (address A) of xs, each of sz cells as K says. -/
def Rows {α : Type} (K : World → α → List Value → Prop) (sz : Nat) (w : World) (A : Option Addr) (xs : List α) : Prop :=
  xs ≠ [] → ∃ b off, A = some ⟨b, off, none⟩ ∧ ∀ i (h : i < xs.length), ∃ cs, cs.length = sz ∧ K w xs[i] cs ∧ ∀ j u, cs[j]? = some u → w.cell? ⟨b, off + i * sz + j, none⟩ = some u
theorem Rows.nil {α : Type} {K : World → α → List Value → Prop} {sz : Nat} {w : World} {A : Option Addr} : Rows K sz w A [] := fun h => absurd rfl h
theorem cell_lt {w : World} {a : Addr} {v : Value} (h : w.cell? a = some v) : a.block < w.heap.size := World.block_lt_of_cell? w a h
theorem Rows.mv {α : Type} {K : World → α → List Value → Prop} {sz : Nat} {w w' : World} {A : Option Addr} {xs : List α} (h : Rows K sz w A xs) (hb : ∀ k, k < w.heap.size → w'.heap[k]? = w.heap[k]?) (hK : ∀ x cs, K w x cs → K w' x cs) : Rows K sz w' A xs := by
  intro hne
  obtain ⟨b, off, rfl, hc⟩ := h hne
  refine ⟨b, off, rfl, fun i hi => ?_⟩
  obtain ⟨cs, h1, h2, h3⟩ := hc i hi
  exact ⟨cs, h1, hK _ _ h2, fun j u hu => (World.cell?_of_block (hb b (cell_lt (h3 j u hu)))).trans (h3 j u hu)⟩
theorem Rows.below {α : Type} {K : World → α → List Value → Prop} {sz : Nat} {w w' : World} {A : Option Addr} {xs : List α} (h : Rows K sz w A xs) (hb : Below w.heap.size w w') (hK : ∀ x cs, K w x cs → K w' x cs) : Rows K sz w' A xs := h.mv hb.block hK

end Go.Proofs.Ytflgfbffglmmeaa
