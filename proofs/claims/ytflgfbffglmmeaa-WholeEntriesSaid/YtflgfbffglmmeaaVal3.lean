/-
  Topics: may they be? With the handles of their partitions' rows.
-/
import Derived.Test.YtflgfbffglmmeaaVal2
namespace Go.Proofs.Ytflgfbffglmmeaa
open Go.RowKit
set_option linter.unusedVariables false
set_option linter.unusedSimpArgs false
/-- A topic, and where its partitions lie. -/
structure TopicH where
  t : Topic
  A : Option Addr
  c : Nat
def TopicH.cells (h : TopicH) : List Value := [.string (toS h.t.name), .slice h.A h.t.parts.length h.c]
def KTop (w : World) (h : TopicH) (cs : List Value) : Prop := cs = h.cells ∧ Rows KNum 1 w h.A h.t.parts
structure Topic.szd (t : Topic) : Prop where
  name : t.name.length ≤ 140737488355328
  parts : t.parts.length ≤ 1000000000
  nums : ∀ n ∈ t.parts, -9223372036854775808 ≤ n ∧ n ≤ 9223372036854775807
def scell (s : List UInt8) : List Value := [.string (toS s)]
theorem rows_get {α : Type} {K : World → α → List Value → Prop} {sz : Nat} {w : World} {A : Option Addr} {xs : List α} (h : Rows K sz w A xs) (k : Nat) (hk : k < xs.length) : ∃ cs, K w xs[k] cs := by
  obtain ⟨b, off, _, hc⟩ := h (by intro e; simp [e] at hk)
  obtain ⟨cs, _, h2, _⟩ := hc k hk
  exact ⟨cs, h2⟩
section
variable {F : List Asn} {w : World} {g : Nat} {o : OSt} {i : ISt}
set_option maxRecDepth 100000 in
set_option maxHeartbeats 1000000 in
theorem topicsOk_calls (ls : List TopicH) (A : Option Addr) (c : Nat) (hl : ls.length ≤ 1000000000) (hb : ∀ h ∈ ls, h.t.szd) (hr : ∀ w', Hd F w' → Rows KTop 2 w' A ls) (H : Hd F w) :
    Calls Try.prog 156 #[.slice A ls.length c] w fun en w' => en = .returned (.bool (topicsOk (ls.map TopicH.t))) ∧ Hd F w' := by
  have he : topicsOk (ls.map TopicH.t) = (ls.all (fun h => topicOk h.t) && rises ltS (ls.map (fun h => h.t.name))) := by
    unfold topicsOk; rw [List.all_map, List.map_map]; rfl
  generalize topicsOk (ls.map TopicH.t) = R at he ⊢
  have hnl : (ls.map (fun h : TopicH => h.t.name)).length = ls.length := List.length_map _
  have hng : ∀ k (hk : k < ls.length), (ls.map (fun h : TopicH => h.t.name)).take (k + 1) = (ls.map (fun h : TopicH => h.t.name)).take k ++ [ls[k].t.name] := by
    intro k hk
    rw [List.take_succ_eq_append_getElem (by simpa using hk)]; simp
  generalize hnames : ls.map (fun h : TopicH => h.t.name) = names at he hnl hng
  clear hnames
  replace he := Lib.hid he
  replace hr := Lib.hid hr
  replace hb := Lib.hid hb
  replace hnl := Lib.hid hnl
  replace hng := Lib.hid hng
  go_enter Try.func156, Try.ntmps156
  go_wp2_with fail
  go_loopw [3, 8] (fun x y wr => ∃ (k : Nat) (B : Option Addr) (e : Nat), k ≤ ls.length ∧ x = .slice B k e ∧ y = .int .i64 k ∧ Hid ((ls.take k).all (fun h => topicOk h.t) = true) ∧ Hd (Own 9 1 (.slice B k e) k ((names.take k).flatMap scell) :: F) wr) (fun _ y _ => ls.length - (intOf y).toNat)
  case atStart => exact ⟨0, none, 0, Nat.zero_le _, rfl, rfl, Lib.hid rfl, H.own_nil _ _⟩
  case round =>
    obtain ⟨k, B, e, hk, rfl, rfl, HN, HW⟩ := hrel
    by_cases hlt : k < ls.length
    · obtain ⟨b, off, rfl, hc⟩ := (hr.out wr HW.t) (by intro h; simp [h] at hlt)
      obtain ⟨cs, _, hcs, hcc⟩ := hc k hlt
      have hcell0 : wr.cell? ⟨b, off + k * 2, none⟩ = some (.string (toS ls[k].t.name)) := by have := hcc 0 (.string (toS ls[k].t.name)) (by rw [hcs.1]; rfl); simpa using this
      have hcell1 : wr.cell? ⟨b, off + k * 2 + 1, none⟩ = some (.slice ls[k].A ls[k].t.parts.length ls[k].c) := hcc 1 (.slice ls[k].A ls[k].t.parts.length ls[k].c) (by rw [hcs.1]; rfl)
      clear hc hcc hcs
      have HT := Lib.hid (all_take_succ (fun h : TopicH => topicOk h.t) ls k hlt)
      have HF := Lib.hid (all_false_at (fun h : TopicH => topicOk h.t) ls k hlt)
      have hbk := hb.out ls[k] (List.getElem_mem hlt)
      have hng2 := Lib.hid (hng.out k hlt)
      have hrp := Lib.hid (fun w' (h : Hd F w') => (by obtain ⟨cs, h2⟩ := rows_get (hr.out w' h) k hlt; exact h2.2 : Rows KNum 1 w' ls[k].A ls[k].t.parts))
      generalize ls[k] = x at hcell0 hcell1 HT HF hbk hng2 hrp
      obtain ⟨⟨nm, ps⟩, PA, pc⟩ := x
      simp only at hcell0 hcell1 HT HF hbk hng2 hrp
      have hb1 := hbk.name
      have hb2 := Lib.hid (show ps.length ≤ 140737488355328 by have := hbk.parts; simp only at this; omega)
      have hb3 := Lib.hid hbk.nums
      simp only at hb1
      clear hbk
      have hto : topicOk ⟨nm, ps⟩ = (!nm.isEmpty && decide (nm.length ≤ 32767) && partsOk ps) := rfl
      replace hto := Lib.hid hto
      have HZ := HW.alloc #[.string (toS nm), .slice PA ps.length pc] 190
      have cz := HZ.c
      have sz := toS_size nm
      cases hem : nm.isEmpty
      case true =>
        have hE : (toS nm).toList.isEmpty = true := by rw [toS_list]; exact hem
        have hn2 := Lib.hid (he.out.trans (by rw [HF.out (by rw [hto.out, hem]; rfl), Bool.false_and]))
        clear hem
        go_wp2
        go_ret
        rw [hn2.out]
        exact ⟨rfl, HZ.t.t⟩
      have hE : (toS nm).toList.isEmpty = false := by rw [toS_list]; exact hem
      by_cases hlen : 32767 < nm.length
      · have b0 : decide ((32767 : Int) < (nm.length : Int)) = true := by simp; omega
        have hn2 := Lib.hid (he.out.trans (by rw [HF.out (by rw [hto.out, hem, show decide (nm.length ≤ 32767) = false from decide_eq_false (by omega)]; rfl), Bool.false_and]))
        clear hem
        go_wp2
        go_ret
        rw [hn2.out]
        exact ⟨rfl, HZ.t.t⟩
      have b0 : decide ((32767 : Int) < (nm.length : Int)) = false := by simp; omega
      have HP := parts_calls ps PA pc hb2.out hb3.out (fun w' h => hrp.out w' h.t.t) HZ
      cases hpo : partsOk ps
      · have hn2 := Lib.hid (he.out.trans (by rw [HF.out (by rw [hto.out, hpo, Bool.and_false]), Bool.false_and]))
        rw [hpo] at HP
        replace HP := Lib.hid HP
        clear hem hpo
        go_wp2_with fail
        refine HP.out.mono ?_
        rintro en w1 ⟨rfl, HY⟩
        go_wp2
        go_ret
        rw [hn2.out]
        exact ⟨rfl, HY.t.t⟩
      have hn2 := Lib.hid (show (ls.take (k + 1)).all (fun h => topicOk h.t) = true by rw [HT.out, HN.out, hto.out, hem, hpo, show decide (nm.length ≤ 32767) = true from decide_eq_true (by omega)]; rfl)
      rw [hpo] at HP
      replace HP := Lib.hid HP
      clear hem hpo
      go_wp2_with fail
      refine HP.out.mono ?_
      rintro en w1 ⟨rfl, HY⟩
      have cy := HY.c
      have HZ := HY.t.allocO (.cells #[.string (toS nm)] 9)
      have hown := HZ.own
      have hbd1 : (k + 1) * 16 ≤ 140737488355328 := by omega
      have hbd2 : k + 1 ≤ 140737488355328 := by omega
      have K := fun w5 B' e' (ho : World.ownsRow w5 _ _ _ _ _ _) hg hn => own_grown (w' := w5) (v' := .slice B' (k + 1) e') (n' := k + 1) (xs' := (names.take k).flatMap scell ++ [.string (toS nm)]) HZ ho hg hn
      go_wp2_with (at_builtin; refine app_row rfl (.tmp 27) (.tmp 30) 131 9 (.string ⟨#[]⟩) 1 16 rfl Try.underlying131 info_str rfl (by decide) B k e _ rfl hown ⟨w1.heap.size, 0, none⟩ 1 1 [.string (toS nm)] rfl rfl (cell_arr _ _ _) (by intro u hu; simp at hu; rcases hu with rfl; rfl) hbd1 hbd2 ?_; intro B' e' w5 ho1 hg hn; have HK := K w5 B' e' ho1 hg hn; clear ho1 hg hn)
      go_roundw
      case rel => exact ⟨k + 1, B', e', hlt, rfl, by go_num, hn2, by rw [hng2.out, List.flatMap_append]; exact HK⟩
      case measure => simp [intOf]; omega
    · obtain rfl : k = ls.length := by omega
      rw [List.take_length] at HN
      rw [← hnl.out, List.take_length] at HW
      have hn2 := Lib.hid (he.out.trans (show _ = rises ltS names by rw [HN.out]; rfl))
      have HS := risingS_calls names B e (by rw [hnl.out]; omega) (fun w' h => rows_own (by decide) h.own (elems_flat scell (fun _ => rfl) (fun _ => rfl) names)) HW
      rw [hnl.out] at HS
      replace HS := Lib.hid HS
      go_wp2_with fail
      refine HS.out.mono ?_
      rintro en w1 ⟨rfl, HY⟩
      go_wp2
      go_ret
      rw [hn2.out]
      exact ⟨rfl, HY.t⟩
end
end Go.Proofs.Ytflgfbffglmmeaa
