/-
  Values, compared; topics that are few.
-/
import Derived.Test.YtflgfbffglmmeaaVal8
namespace Go.Proofs.Ytflgfbffglmmeaa
open Go.RowKit
set_option linter.unusedVariables false
set_option linter.unusedSimpArgs false
def Drawn (w w' : World) : Prop := ∃ n, w' = w.drewN n
theorem Drawn.refl (w : World) : Drawn w w := ⟨0, rfl⟩
theorem Drawn.step {w w' : World} (h : Drawn w w') (n : Nat) : Drawn w (w'.drewN n) := by
  obtain ⟨m, rfl⟩ := h
  exact ⟨m + n, by rw [World.drewN_drewN]⟩
theorem Drawn.heap {w w' : World} (h : Drawn w w') : w'.heap = w.heap := by
  obtain ⟨m, rfl⟩ := h; rfl
theorem Rows.drawn {α : Type} {K : World → α → List Value → Prop} {sz : Nat} {w w' : World} {A : Option Addr} {xs : List α} (h : Rows K sz w A xs) (hb : Drawn w w') (hK : ∀ x cs, K w x cs → K w' x cs) : Rows K sz w' A xs := h.mv (fun k _ => by rw [hb.heap]) hK
theorem KTop.drawn {w w' : World} (hb : Drawn w w') (x : TopicH) (cs : List Value) (h : KTop w x cs) : KTop w' x cs := ⟨h.1, h.2.drawn hb (fun _ _ h => h)⟩
theorem Hd.drawn {F : List Asn} {w w' : World} (h : Hd F w) (hb : Drawn w w') : Hd F w' := by
  obtain ⟨m, rfl⟩ := hb; exact h.drewN m
theorem take_eq_succ {α : Type} (a b : List α) (k : Nat) (ha : k < a.length) (hb : k < b.length) (h : a.take k = b.take k) (e : a[k] = b[k]) : a.take (k + 1) = b.take (k + 1) := by
  rw [List.take_succ_eq_append_getElem ha, List.take_succ_eq_append_getElem hb, h, e]
theorem ne_of_at {α : Type} (a b : List α) (k : Nat) (ha : k < a.length) (hb : k < b.length) (e : a[k] ≠ b[k]) : a ≠ b := fun h => e (by subst h; rfl)
section
variable {F : List Asn} {w : World} {g : Nat} {o : OSt} {i : ISt}
set_option maxRecDepth 100000 in
set_option maxHeartbeats 1000000 in
theorem sameI_calls (a b : List Int) (A B : Option Addr) (c d : Nat) (la : a.length ≤ 1000000000) (lb : b.length ≤ 1000000000) (hA : Rows KNum 1 w A a) (hB : Rows KNum 1 w B b) :
    Calls Try.prog 165 #[.slice A a.length c, .slice B b.length d] w fun en w' => en = .returned (.bool (decide (a = b))) ∧ Drawn w w' := by
  replace hA := Lib.hid hA
  replace hB := Lib.hid hB
  by_cases hl : a.length = b.length
  case neg =>
    have b0 : ((a.length : Int) != (b.length : Int)) = true := by simp; omega
    have b1 : (a.length != b.length) = true := by simp; omega
    have hn := Lib.hid (show decide (a = b) = false from decide_eq_false (fun e => hl (by rw [e])))
    clear hl
    go_enter Try.func165, Try.ntmps165
    go_wp2
    go_ret
    rw [hn.out]
    exact ⟨rfl, Drawn.refl _⟩
  have b0 : ((a.length : Int) != (b.length : Int)) = false := by simp; omega
  have b1 : (a.length != b.length) = false := by simp; omega
  replace hl := Lib.hid hl
  go_enter Try.func165, Try.ntmps165
  go_wp2_with fail
  go_loopw [5] (fun y wr => ∃ k : Nat, k ≤ a.length ∧ y = .int .i64 k ∧ Hid (a.take k = b.take k) ∧ Hid (Drawn w wr)) (fun y _ => a.length - (intOf y).toNat)
  case atStart => exact ⟨0, Nat.zero_le _, rfl, Lib.hid rfl, Lib.hid (Drawn.refl _)⟩
  case round =>
    obtain ⟨k, hk, rfl, HN, HW⟩ := hrel
    by_cases hlt : k < a.length
    · have hlb : k < b.length := by have := hl.out; omega
      obtain ⟨p, off, rfl, hc⟩ := (hA.out.drawn HW.out (fun _ _ h => h)) (by intro h; simp [h] at hlt)
      obtain ⟨q, off2, rfl, hd⟩ := (hB.out.drawn HW.out (fun _ _ h => h)) (by intro h; simp [h] at hlb)
      obtain ⟨cs, _, hcs, hcc⟩ := hc k hlt
      obtain ⟨ds, _, hds, hdd⟩ := hd k hlb
      have hcell0 : wr.cell? ⟨p, off + k, none⟩ = some (.int .i64 a[k]) := by have := hcc 0 (.int .i64 a[k]) (by rw [hcs]; rfl); simpa using this
      have hcell1 : wr.cell? ⟨q, off2 + k, none⟩ = some (.int .i64 b[k]) := by have := hdd 0 (.int .i64 b[k]) (by rw [hds]; rfl); simpa using this
      clear hc hcc hcs hd hdd hds
      have hst := Lib.hid (take_eq_succ a b k hlt hlb HN.out)
      have hne := Lib.hid (ne_of_at a b k hlt hlb)
      generalize a[k] = x at hcell0 hst hne
      generalize b[k] = y at hcell1 hst hne
      by_cases hxy : x = y
      · have b2 : (x != y) = false := by simp [hxy]
        have hn2 := Lib.hid (hst.out hxy)
        clear hxy
        go_wp2_with fail
        go_quiet (fail)
        go_wp2
        go_roundw
        case rel => exact ⟨k + 1, hlt, by go_num, hn2, Lib.hid (HW.out.step _)⟩
        case measure => simp [intOf]; omega
      · have b2 : (x != y) = true := bne_iff_ne.2 hxy
        have hn2 := Lib.hid (show decide (a = b) = false from decide_eq_false (hne.out hxy))
        clear hxy
        go_wp2_with fail
        go_quiet (fail)
        go_wp2
        go_ret
        rw [hn2.out]
        exact ⟨rfl, HW.out.step _⟩
    · obtain rfl : k = a.length := by omega
      have hn2 := Lib.hid (show decide (a = b) = true from decide_eq_true (by have h1 := HN.out; rw [List.take_length, hl.out, List.take_length] at h1; exact h1))
      go_wp2
      go_ret
      rw [hn2.out]
      exact ⟨rfl, HW.out⟩
theorem topic_eq (x y : Topic) : x = y ↔ x.name = y.name ∧ x.parts = y.parts := by cases x; cases y; simp
set_option maxRecDepth 100000 in
set_option maxHeartbeats 4000000 in
theorem sameT_calls (a b : List TopicH) (A B : Option Addr) (c d : Nat) (la : a.length ≤ 1000000000) (lb : b.length ≤ 1000000000) (za : ∀ h ∈ a, h.t.szd) (zb : ∀ h ∈ b, h.t.szd) (hA : Rows KTop 2 w A a) (hB : Rows KTop 2 w B b) :
    Calls Try.prog 110 #[.slice A a.length c, .slice B b.length d] w fun en w' => en = .returned (.bool (decide (a.map TopicH.t = b.map TopicH.t))) ∧ Drawn w w' := by
  replace hA := Lib.hid hA
  replace hB := Lib.hid hB
  replace za := Lib.hid za
  replace zb := Lib.hid zb
  by_cases hl : a.length = b.length
  case neg =>
    have b0 : ((a.length : Int) != (b.length : Int)) = true := by simp; omega
    have b1 : (a.length != b.length) = true := by simp; omega
    have hn := Lib.hid (show decide (a.map TopicH.t = b.map TopicH.t) = false from decide_eq_false (fun e => hl (by have := congrArg List.length e; simpa using this)))
    clear hl
    go_enter Try.func110, Try.ntmps110
    go_wp2
    go_ret
    rw [hn.out]
    exact ⟨rfl, Drawn.refl _⟩
  have b0 : ((a.length : Int) != (b.length : Int)) = false := by simp; omega
  have b1 : (a.length != b.length) = false := by simp; omega
  have hta : ∀ k, k < a.length → k < (a.map TopicH.t).length := fun k h => by simpa using h
  have htb : ∀ k, k < b.length → k < (b.map TopicH.t).length := fun k h => by simpa using h
  replace hta := Lib.hid hta
  replace htb := Lib.hid htb
  replace hl := Lib.hid hl
  go_enter Try.func110, Try.ntmps110
  go_wp2_with fail
  go_loopw [5] (fun y wr => ∃ k : Nat, k ≤ a.length ∧ y = .int .i64 k ∧ Hid ((a.map TopicH.t).take k = (b.map TopicH.t).take k) ∧ Hid (Drawn w wr)) (fun y _ => a.length - (intOf y).toNat)
  case atStart => exact ⟨0, Nat.zero_le _, rfl, Lib.hid rfl, Lib.hid (Drawn.refl _)⟩
  case round =>
    obtain ⟨k, hk, rfl, HN, HW⟩ := hrel
    by_cases hlt : k < a.length
    · have hlb : k < b.length := by have := hl.out; omega
      have RA := hA.out.drawn HW.out (KTop.drawn HW.out)
      have RB := hB.out.drawn HW.out (KTop.drawn HW.out)
      obtain ⟨p, off, rfl, hc⟩ := RA (by intro h; simp [h] at hlt)
      obtain ⟨q, off2, rfl, hd⟩ := RB (by intro h; simp [h] at hlb)
      obtain ⟨cs, _, hcs, hcc⟩ := hc k hlt
      obtain ⟨ds, _, hds, hdd⟩ := hd k hlb
      have ca0 : wr.cell? ⟨p, off + k * 2, none⟩ = some (.string (toS a[k].t.name)) := by have := hcc 0 (.string (toS a[k].t.name)) (by rw [hcs.1]; rfl); simpa using this
      have ca1 : wr.cell? ⟨p, off + k * 2 + 1, none⟩ = some (.slice a[k].A a[k].t.parts.length a[k].c) := hcc 1 (.slice a[k].A a[k].t.parts.length a[k].c) (by rw [hcs.1]; rfl)
      have cb0 : wr.cell? ⟨q, off2 + k * 2, none⟩ = some (.string (toS b[k].t.name)) := by have := hdd 0 (.string (toS b[k].t.name)) (by rw [hds.1]; rfl); simpa using this
      have cb1 : wr.cell? ⟨q, off2 + k * 2 + 1, none⟩ = some (.slice b[k].A b[k].t.parts.length b[k].c) := hdd 1 (.slice b[k].A b[k].t.parts.length b[k].c) (by rw [hds.1]; rfl)
      have PA := hcs.2
      have PB := hds.2
      clear RA RB hc hcc hcs hd hdd hds
      have z1 := za.out a[k] (List.getElem_mem hlt)
      have z2 := zb.out b[k] (List.getElem_mem hlb)
      have hst := take_eq_succ (a.map TopicH.t) (b.map TopicH.t) k (hta.out k hlt) (htb.out k hlb) HN.out
      have hne := ne_of_at (a.map TopicH.t) (b.map TopicH.t) k (hta.out k hlt) (htb.out k hlb)
      rw [List.getElem_map, List.getElem_map] at hst hne
      generalize a[k] = x at ca0 ca1 PA hst hne z1
      generalize b[k] = y at cb0 cb1 PB hst hne z2
      obtain ⟨⟨n1, p1⟩, A1, c1⟩ := x
      obtain ⟨⟨n2, p2⟩, A2, c2⟩ := y
      simp only at ca0 ca1 PA hst hne cb0 cb1 PB
      have l1 := z1.parts
      have l2 := z2.parts
      simp only at l1 l2
      clear z1 z2
      have HS := Lib.hid (fun n => sameI_calls p1 p2 A1 A2 c1 c2 l1 l2 (PA.drawn (Drawn.step (Drawn.refl wr) n) (fun _ _ h => h)) (PB.drawn (Drawn.step (Drawn.refl wr) n) (fun _ _ h => h)))
      clear PA PB
      replace hst := Lib.hid hst
      replace hne := Lib.hid hne
      have s1 : (toS n1).toList = n1 := toS_list _
      have s2 : (toS n2).toList = n2 := toS_list _
      by_cases hxy : n1 = n2
      case neg =>
        have b2 : (n1 == n2) = false := beq_eq_false_iff_ne.2 hxy
        have b3 : (n1 != n2) = true := bne_iff_ne.2 hxy
        have hn2 := Lib.hid (show decide (a.map TopicH.t = b.map TopicH.t) = false from decide_eq_false (hne.out (fun e => hxy (congrArg Topic.name e))))
        clear hxy
        go_wp2_with fail
        go_quiet (fail)
        go_wp2
        go_ret
        rw [hn2.out]
        exact ⟨rfl, HW.out.step _⟩
      have b2 : (n1 == n2) = true := beq_iff_eq.2 hxy
      have b3 : (n1 != n2) = false := by simp [hxy]
      cases hpp : decide (p1 = p2)
      · have hn2 := Lib.hid (show decide (a.map TopicH.t = b.map TopicH.t) = false from decide_eq_false (hne.out (fun e => of_decide_eq_false hpp (congrArg Topic.parts e))))
        rw [hpp] at HS
        clear hxy hpp
        go_wp2_with fail
        go_quiet ((go_at_call 165; exact Calls.quiet_of (HS.out _)))
        go_wp2
        go_ret
        rw [hn2.out]
        exact ⟨rfl, HW.out.step _⟩
      · have hn2 := Lib.hid (hst.out ((topic_eq _ _).2 ⟨hxy, of_decide_eq_true hpp⟩))
        rw [hpp] at HS
        clear hxy hpp
        go_wp2_with fail
        go_quiet ((go_at_call 165; exact Calls.quiet_of (HS.out _)))
        go_wp2
        go_roundw
        case rel => exact ⟨k + 1, hlt, by go_num, hn2, Lib.hid (HW.out.step _)⟩
        case measure => simp [intOf]; omega
    · obtain rfl : k = a.length := by omega
      have hn2 := Lib.hid (show decide (a.map TopicH.t = b.map TopicH.t) = true from decide_eq_true (by
        have h1 := HN.out
        rw [List.take_of_length_le (by simp), List.take_of_length_le (by simp [hl.out])] at h1
        exact h1))
      go_wp2
      go_ret
      rw [hn2.out]
      exact ⟨rfl, HW.out⟩
end
end Go.Proofs.Ytflgfbffglmmeaa
