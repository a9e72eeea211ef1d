/-
  Values, compared; topics that are few.
-/
import Derived.Test.YtflgfbffglmmeaaVal9
namespace Go.Proofs.Ytflgfbffglmmeaa
open Go.RowKit
set_option linter.unusedVariables false
set_option linter.unusedSimpArgs false
def tw (t : Topic) : Nat := t.name.length + 4 * t.parts.length + 6
def tsum : List Topic → Nat
  | [] => 0
  | t :: l => tw t + tsum l
def few (l : List Topic) : Int := if tsum l ≤ 1000 then 1 else 0
/-- What is known of a topic, and of a value, that comes in. -/
structure Topic.wsz (t : Topic) : Prop where
  name : t.name.length ≤ 140737488355328
  parts : t.parts.length ≤ 140737488355328
  nums : ∀ n ∈ t.parts, -9223372036854775808 ≤ n ∧ n ≤ 9223372036854775807
structure ValH.wsz (x : ValH) : Prop where
  producer : -9223372036854775808 ≤ x.producer ∧ x.producer ≤ 9223372036854775807
  epoch : -9223372036854775808 ≤ x.epoch ∧ x.epoch ≤ 9223372036854775807
  timeout : -9223372036854775808 ≤ x.timeout ∧ x.timeout ≤ 9223372036854775807
  state : -9223372036854775808 ≤ x.state ∧ x.state ≤ 9223372036854775807
  updated : -9223372036854775808 ≤ x.updated ∧ x.updated ≤ 9223372036854775807
  started : -9223372036854775808 ≤ x.started ∧ x.started ≤ 9223372036854775807
  many : x.ls.length ≤ 140737488355328
  tops : ∀ h ∈ x.ls, h.t.wsz
theorem tsum_append : ∀ (a b : List Topic), tsum (a ++ b) = tsum a + tsum b
  | [], b => by simp [tsum]
  | t :: a, b => by rw [List.cons_append, tsum, tsum, tsum_append a b]; omega
theorem tsum_take (l : List Topic) (k : Nat) : tsum (l.take k) ≤ tsum l := by
  have := tsum_append (l.take k) (l.drop k)
  rw [List.take_append_drop] at this; omega
theorem tsum_succ (l : List Topic) (k : Nat) (h : k < l.length) : tsum (l.take (k + 1)) = tsum (l.take k) + tw l[k] := by
  rw [List.take_succ_eq_append_getElem h, tsum_append]; simp [tsum]
section
variable {F : List Asn} {w : World} {g : Nat} {o : OSt} {i : ISt}
set_option maxRecDepth 100000 in
set_option maxHeartbeats 1000000 in
theorem few_calls (ls : List TopicH) (A : Option Addr) (c : Nat) (hl : ls.length ≤ 140737488355328) (hb : ∀ h ∈ ls, h.t.wsz) (hr : ∀ w', Hd F w' → Rows KTop 2 w' A ls) (H : Hd F w) :
    Calls Try.prog 40 #[.slice A ls.length c] w fun en w' => en = .returned (.int .i64 (few (ls.map TopicH.t))) ∧ Hd F w' := by
  have he : few (ls.map TopicH.t) = if tsum (ls.map TopicH.t) ≤ 1000 then 1 else 0 := rfl
  have hst : ∀ k (hk : k < ls.length), tsum ((ls.map TopicH.t).take (k + 1)) = tsum ((ls.map TopicH.t).take k) + (ls[k].t.name.length + 4 * ls[k].t.parts.length + 6) := by
    intro k hk
    rw [tsum_succ _ k (by simpa using hk)]; simp [tw]
  have hnl : (ls.map TopicH.t).length = ls.length := List.length_map _
  generalize few (ls.map TopicH.t) = R at he ⊢
  have htk := tsum_take (ls.map TopicH.t)
  generalize ls.map TopicH.t = ts at he hst hnl htk
  replace he := Lib.hid he
  replace hst := Lib.hid hst
  replace hnl := Lib.hid hnl
  replace htk := Lib.hid htk
  replace hr := Lib.hid hr
  replace hb := Lib.hid hb
  go_enter Try.func40, Try.ntmps40
  go_wp2_with fail
  go_loopw [3, 8] (fun x y wr => ∃ (k n : Nat), k ≤ ls.length ∧ n ≤ 1000 ∧ x = .int .i64 n ∧ y = .int .i64 k ∧ Hid (tsum (ts.take k) = n) ∧ Hd F wr) (fun _ y _ => ls.length - (intOf y).toNat)
  case atStart => exact ⟨0, 0, Nat.zero_le _, Nat.zero_le _, rfl, rfl, Lib.hid rfl, H⟩
  case round =>
    obtain ⟨k, n, hk, hn, rfl, rfl, HN, HW⟩ := hrel
    by_cases hlt : k < ls.length
    · obtain ⟨b, off, rfl, hc⟩ := (hr.out wr HW) (by intro h; simp [h] at hlt)
      obtain ⟨cs, _, hcs, hcc⟩ := hc k hlt
      have hcell0 : wr.cell? ⟨b, off + k * 2, none⟩ = some (.string (toS ls[k].t.name)) := by have := hcc 0 (.string (toS ls[k].t.name)) (by rw [hcs.1]; rfl); simpa using this
      have hcell1 : wr.cell? ⟨b, off + k * 2 + 1, none⟩ = some (.slice ls[k].A ls[k].t.parts.length ls[k].c) := hcc 1 (.slice ls[k].A ls[k].t.parts.length ls[k].c) (by rw [hcs.1]; rfl)
      clear hc hcc hcs
      have hbk := hb.out ls[k] (List.getElem_mem hlt)
      have hs1 := hst.out k hlt
      rw [HN.out] at hs1
      generalize ls[k] = x at hcell0 hcell1 hbk hs1
      obtain ⟨⟨nm, ps⟩, PA, pc⟩ := x
      simp only at hcell0 hcell1 hs1
      have hb1 := hbk.name
      have hb2 := hbk.parts
      simp only at hb1 hb2
      clear hbk
      have sz := toS_size nm
      have HZ := HW.alloc #[.string (toS nm), .slice PA ps.length pc] 190
      have cz := HZ.c
      have htk2 := htk.out (k + 1)
      rw [hs1] at htk2
      by_cases hbig : 1000 < n + (nm.length + 4 * ps.length + 6)
      · have b0 : decide ((1000 : Int) < (n : Int) + ((nm.length : Int) + 4 * (ps.length : Int) + 6)) = true := by simp; omega
        have hn2 := Lib.hid (he.out.trans (if_neg (by omega)))
        clear hs1 htk2
        go_wp2
        go_ret
        rw [hn2.out]
        exact ⟨rfl, HZ.t⟩
      · have b0 : decide ((1000 : Int) < (n : Int) + ((nm.length : Int) + 4 * (ps.length : Int) + 6)) = false := by simp; omega
        replace hs1 := Lib.hid hs1
        clear htk2
        have hle : n + (nm.length + 4 * ps.length + 6) ≤ 1000 := by omega
        go_wp2
        go_roundw
        case rel => exact ⟨k + 1, n + (nm.length + 4 * ps.length + 6), hlt, hle, by go_num, by go_num, hs1, HZ.t⟩
        case measure => simp [intOf]; omega
    · obtain rfl : k = ls.length := by omega
      have hn2 := Lib.hid (he.out.trans (if_pos (by have h1 := HN.out; rw [← hnl.out, List.take_length] at h1; rw [h1]; exact hn)))
      go_wp2
      go_ret
      rw [hn2.out]
      exact ⟨rfl, HW⟩
set_option maxRecDepth 100000 in
set_option maxHeartbeats 2000000 in
theorem same14_calls (x y : ValH) (zx : x.szd) (zy : y.szd) (hx : ∀ w', Hd F w' → Rows KTop 2 w' x.A x.ls) (hy : ∀ w', Hd F w' → Rows KTop 2 w' y.A y.ls) (H : Hd F w) :
    Calls Try.prog 42 #[.agg x.cells, .agg y.cells] w fun en w' => en = .returned (.bool (decide (x.v = y.v))) ∧ Hd F w' := by
  have HA := (H.alloc x.cells 37).alloc y.cells 37
  simp only [World.size_alloc] at HA
  have HS := sameT_calls x.ls y.ls x.A y.A x.c y.c zx.many zy.many zx.tops zy.tops (hx _ HA.t.t) (hy _ HA.t.t)
  have hne : ∀ (b : Bool), (b = true ↔ x.v = y.v) → decide (x.v = y.v) = b := by
    intro b h
    cases b
    · exact decide_eq_false (fun e => by have := h.2 e; cases this)
    · exact decide_eq_true (h.1 rfl)
  have hv : x.v = y.v ↔ (x.producer = y.producer ∧ x.epoch = y.epoch ∧ x.timeout = y.timeout ∧ x.state = y.state ∧ x.ls.map TopicH.t = y.ls.map TopicH.t ∧ x.updated = y.updated ∧ x.started = y.started) := by
    unfold ValH.v; simp
  generalize decide (x.v = y.v) = R at hne ⊢
  have hR : ∀ b : Bool, (b = true ↔ (x.producer = y.producer ∧ x.epoch = y.epoch ∧ x.timeout = y.timeout ∧ x.state = y.state ∧ x.ls.map TopicH.t = y.ls.map TopicH.t ∧ x.updated = y.updated ∧ x.started = y.started)) → R = b := fun b h => hne b (h.trans hv.symm)
  clear hne hv zx zy hx hy
  generalize x.ls.map TopicH.t = tx at hR HS
  generalize y.ls.map TopicH.t = ty at hR HS
  obtain ⟨p1, e1, t1, s1, l1, u1, st1, A1, c1⟩ := x
  obtain ⟨p2, e2, t2, s2, l2, u2, st2, A2, c2⟩ := y
  unfold ValH.cells at *
  simp only at hR HS HA ⊢
  have ca := HA.c
  have cb := HA.t.c
  by_cases q0 : p1 = p2
  case neg =>
    have b0 : (p1 == p2) = false := beq_eq_false_iff_ne.2 q0
    have hn := hR false (by simp [q0])
    replace hn := Lib.hid hn
    clear hR HS q0
    go_enter Try.func42, Try.ntmps42
    go_wp2
    go_ret
    rw [hn.out]
    exact ⟨rfl, HA.t.t⟩
  have b0 : (p1 == p2) = true := beq_iff_eq.2 q0
  by_cases q1 : e1 = e2
  case neg =>
    have b1 : (e1 == e2) = false := beq_eq_false_iff_ne.2 q1
    have hn := hR false (by simp [q1])
    replace hn := Lib.hid hn
    clear hR HS q0 q1
    go_enter Try.func42, Try.ntmps42
    go_wp2
    go_ret
    rw [hn.out]
    exact ⟨rfl, HA.t.t⟩
  have b1 : (e1 == e2) = true := beq_iff_eq.2 q1
  by_cases q2 : t1 = t2
  case neg =>
    have b2 : (t1 == t2) = false := beq_eq_false_iff_ne.2 q2
    have hn := hR false (by simp [q2])
    replace hn := Lib.hid hn
    clear hR HS q0 q1 q2
    go_enter Try.func42, Try.ntmps42
    go_wp2
    go_ret
    rw [hn.out]
    exact ⟨rfl, HA.t.t⟩
  have b2 : (t1 == t2) = true := beq_iff_eq.2 q2
  by_cases q3 : s1 = s2
  case neg =>
    have b3 : (s1 == s2) = false := beq_eq_false_iff_ne.2 q3
    have hn := hR false (by simp [q3])
    replace hn := Lib.hid hn
    clear hR HS q0 q1 q2 q3
    go_enter Try.func42, Try.ntmps42
    go_wp2
    go_ret
    rw [hn.out]
    exact ⟨rfl, HA.t.t⟩
  have b3 : (s1 == s2) = true := beq_iff_eq.2 q3
  by_cases q4 : u1 = u2
  case neg =>
    have b4 : (u1 == u2) = false := beq_eq_false_iff_ne.2 q4
    have hn := hR false (by simp [q4])
    replace hn := Lib.hid hn
    clear hR HS q0 q1 q2 q3 q4
    go_enter Try.func42, Try.ntmps42
    go_wp2
    go_ret
    rw [hn.out]
    exact ⟨rfl, HA.t.t⟩
  have b4 : (u1 == u2) = true := beq_iff_eq.2 q4
  by_cases q5 : st1 = st2
  case neg =>
    have b5 : (st1 == st2) = false := beq_eq_false_iff_ne.2 q5
    have hn := hR false (by simp [q5])
    replace hn := Lib.hid hn
    clear hR HS q0 q1 q2 q3 q4 q5
    go_enter Try.func42, Try.ntmps42
    go_wp2
    go_ret
    rw [hn.out]
    exact ⟨rfl, HA.t.t⟩
  have b5 : (st1 == st2) = true := beq_iff_eq.2 q5
  have hn := Lib.hid (hR (decide (tx = ty)) (by simp [q0, q1, q2, q3, q4, q5]))
  replace HS := Lib.hid HS
  clear hR q0 q1 q2 q3 q4 q5
  go_enter Try.func42, Try.ntmps42
  go_wp2_with fail
  refine HS.out.mono ?_
  rintro en w1 ⟨rfl, hdr⟩
  have HB := HA.drawn hdr
  clear hdr
  go_wp2
  go_ret
  rw [hn.out]
  exact ⟨rfl, HB.t.t⟩
end
end Go.Proofs.Ytflgfbffglmmeaa
