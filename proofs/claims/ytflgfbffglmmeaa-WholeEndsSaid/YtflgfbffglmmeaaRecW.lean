/-
  Records, written.
-/
import Derived.Test.YtflgfbffglmmeaaHdr3
namespace Go.Proofs.Ytflgfbffglmmeaa
open Go.RowKit
set_option linter.unusedVariables false
set_option linter.unusedSimpArgs false
theorem OSt.hdrs_mono' (o : OSt) (hs : List Hdr) : o.b.length ≤ (o.hdrs hs).b.length := Nat.le_trans (OSt.pint_mono _ _) (hdrs_mono _ _)
/-- What is asked of a record that comes in. -/
structure Rec.szd (r : Rec) : Prop where
  time : -9223372036854775808 ≤ r.time ∧ r.time ≤ 9223372036854775807
  off : -9223372036854775808 ≤ r.offset ∧ r.offset ≤ 9223372036854775807
  key : r.key.d.length ≤ 140737488355328
  value : r.value.d.length ≤ 140737488355328
  many : r.headers.length ≤ 140737488355328
  hdrs : ∀ h ∈ r.headers, h.key.length ≤ 140737488355328 ∧ h.value.d.length ≤ 140737488355328
  body : (recBody r).b.length ≤ 140737488355328
section
variable {F : List Asn} {w : World} {g : Nat} {o : OSt} {i : ISt}
set_option maxRecDepth 100000 in
set_option maxHeartbeats 1000000 in
theorem rbody_calls (r : Rec) (A : Option Addr) (c : Nat) (hz : r.szd) (hr : ∀ w', Hd F w' → Rows KHdr 3 w' A r.headers) (H : Hd F w) :
    Calls Try.prog 159 #[.agg (r.cells A c)] w fun en w' => en = .returned (.tuple #[.string (toS (recBody r).text.1), .int .i64 (recBody r).text.2]) ∧ Hd F w' := by
  have he : recBody r = (((((⟨[0], 0⟩ : OSt).put (vint r.time)).pint r.offset).varied r.key).varied r.value).hdrs r.headers := rfl
  have l6 := hz.body
  generalize recBody r = S at he l6 ⊢
  rw [he] at l6
  have l5 := Lib.hid (Nat.le_trans (OSt.hdrs_mono' _ _) l6)
  have l4 := Lib.hid (Nat.le_trans (OSt.varied_mono _ _) l5.out)
  have l3 := Lib.hid (Nat.le_trans (OSt.varied_mono _ _) l4.out)
  have l2 := Lib.hid (Nat.le_trans (OSt.pint_mono _ _) l3.out)
  replace l6 := Lib.hid l6
  replace he := Lib.hid he
  replace hr := Lib.hid hr
  have h1 := Lib.hid hz.time
  have h2 := Lib.hid hz.off
  have h3 := Lib.hid hz.key
  have h4 := Lib.hid hz.value
  have h5 := Lib.hid hz.many
  have h6 := Lib.hid hz.hdrs
  clear hz
  obtain ⟨t, off, key, value, hs⟩ := r
  simp only at he hr h1 h2 h3 h4 h5 h6 l2 l3 l4 l5 l6
  unfold Rec.cells
  simp only
  have HA := ((H.alloc #[.int .i64 t, .int .i64 off, .bool key.nu, .string (toS key.d), .bool value.nu, .string (toS value.d), .slice A hs.length c] 91).alloc #[.slice none 0 0, .int .i64 0] 71).outnew
  simp only [World.size_alloc] at HA
  go_enter Try.func159, Try.ntmps159
  go_wp2_with fail
  refine (out_byte 0 (by decide) (by decide) HA (by decide)).mono ?_
  rintro en w1 ⟨rfl, HB⟩
  rw [show OSt.put ⟨[], 0⟩ [UInt8.ofNat (Int.toNat 0)] = ⟨[0], 0⟩ from rfl] at HB
  have cb := HB.t.c
  go_wp2_with fail
  refine (putlong_calls t h1.out.1 h1.out.2 HB l2.out).mono ?_
  rintro en w2 ⟨rfl, HC⟩
  have cc := HC.t.c
  go_wp2_with fail
  refine (putint_calls off h2.out.1 h2.out.2 HC l3.out).mono ?_
  rintro en w3 ⟨rfl, HD⟩
  have cd := HD.t.c
  go_wp2_with fail
  refine (putvaried_calls key h3.out HD l4.out).mono ?_
  rintro en w4 ⟨rfl, HE⟩
  have ce := HE.t.c
  go_wp2_with fail
  refine (putvaried_calls value h4.out HE l5.out).mono ?_
  rintro en w5 ⟨rfl, HG⟩
  have cg := HG.t.c
  go_wp2_with fail
  refine (hwrite_calls hs A c h5.out h6.out (fun o' w' h => hr.out w' h.t.t) HG l6.out).mono ?_
  rintro en w6 ⟨rfl, HI⟩
  rw [← he.out] at HI
  go_wp2_with fail
  refine (out_text HI).mono ?_
  rintro en w7 ⟨rfl, HJ⟩
  go_wp2
  go_ret2
  exact ⟨rfl, HJ.t.t⟩
set_option maxRecDepth 100000 in
set_option maxHeartbeats 1000000 in
theorem rwr_calls (r : Rec) (A : Option Addr) (c : Nat) (hz : r.szd) (hr : ∀ o' w', Hd (Out g o' :: F) w' → Rows KHdr 3 w' A r.headers) (H : Hd (Out g o :: F) w) (hl : (o.recd r).b.length ≤ 140737488355328) :
    Calls Try.prog 89 #[.pointer (some ⟨g, 0, none⟩), .agg (r.cells A c)] w fun en w' => en = .returned (.tuple #[]) ∧ Hd (Out g (o.recd r) :: F) w' := by
  have he : o.recd r = if r.right ≠ 0 then o.fail r.right else if (recBody r).e ≠ 0 then o.fail (recBody r).e else o.varied ⟨false, (recBody r).b⟩ := rfl
  have HA := (H.alloc (r.cells A c) 91).f2
  have hb := hz.body
  have N1 := rright_calls r A c hz.off.1 hz.off.2 hz.many (fun w' h => hr o w' h.d2) HA
  have N2 := fun w1 H => rbody_calls (F := Out g o :: Cel w.heap.size (r.cells A c) 91 :: F) (w := w1) r A c hz (fun w' h => hr o w' h.d2) H
  unfold OSt.text at N2
  clear hz
  generalize o.recd r = S at he hl ⊢
  generalize r.right = e1 at he N1
  generalize recBody r = B at he N2 hb
  obtain ⟨b, e2⟩ := B
  unfold Rec.cells at *
  simp only at he N2 hb
  replace he := Lib.hid he
  replace hl := Lib.hid hl
  replace hb := Lib.hid hb
  replace N1 := Lib.hid N1
  replace N2 := Lib.hid N2
  clear hr
  go_enter Try.func89, Try.ntmps89
  go_wp2_with fail
  refine N1.out.mono ?_
  rintro en w1 ⟨rfl, HB⟩
  by_cases q1 : e1 = 0
  case neg =>
    have b0 : (e1 != 0) = true := bne_iff_ne.2 q1
    have he2 := Lib.hid (he.out.trans (if_pos q1))
    clear q1
    go_wp2_with fail
    refine (out_fail e1 HB).mono ?_
    rintro en w2 ⟨rfl, HC⟩
    rw [← he2.out] at HC
    go_wp2
    (first | go_end0 | ((try simp only [Exit.inBlock, Exit.then]); refine bodyPost_ret (results_none rfl _ _ _) rfl ?_))
    exact ⟨rfl, HC.d2⟩
  have b0 : (e1 != 0) = false := by simp [q1]
  have he2 := Lib.hid (he.out.trans (if_neg (by simp [q1])))
  clear q1 he
  have cb := HB.t.c
  by_cases q2 : e2 = 0
  · have N3 := N2.out w1 HB
    rw [if_pos q2] at N3
    simp only at N3
    replace N3 := Lib.hid N3
    have he3 := Lib.hid (he2.out.trans (if_neg (by simp [q2])))
    have hl2 := Lib.hid (show (o.varied ⟨false, b⟩).b.length ≤ 140737488355328 from he3.out ▸ hl.out)
    clear q2 N2
    go_wp2_with fail
    refine N3.out.mono ?_
    rintro en w2 ⟨rfl, HC⟩
    go_wp2_with fail
    refine (putname_calls b hb.out HC hl2.out).mono ?_
    rintro en w3 ⟨rfl, HD⟩
    rw [← he3.out] at HD
    go_wp2
    (first | go_end0 | ((try simp only [Exit.inBlock, Exit.then]); refine bodyPost_ret (results_none rfl _ _ _) rfl ?_))
    exact ⟨rfl, HD.d2⟩
  · have N3 := N2.out w1 HB
    rw [if_neg q2] at N3
    simp only at N3
    replace N3 := Lib.hid N3
    have b2 : (e2 != 0) = true := bne_iff_ne.2 q2
    have he3 := Lib.hid (he2.out.trans (if_pos q2))
    clear q2 N2
    go_wp2_with fail
    refine N3.out.mono ?_
    rintro en w2 ⟨rfl, HC⟩
    go_wp2_with fail
    refine (out_fail e2 HC).mono ?_
    rintro en w3 ⟨rfl, HD⟩
    rw [← he3.out] at HD
    go_wp2
    (first | go_end0 | ((try simp only [Exit.inBlock, Exit.then]); refine bodyPost_ret (results_none rfl _ _ _) rfl ?_))
    exact ⟨rfl, HD.d2⟩
set_option maxRecDepth 100000 in
set_option maxHeartbeats 400000 in
theorem renc_calls (r : Rec) (A : Option Addr) (c : Nat) (hz : r.szd) (hr : ∀ w', Hd F w' → Rows KHdr 3 w' A r.headers) (H : Hd F w) (hl : ((⟨[], 0⟩ : OSt).recd r).b.length ≤ 140737488355328) :
    Calls Try.prog 44 #[.agg (r.cells A c)] w fun en w' => en = .returned (.tuple #[.string (toS (recEnc r).1), .int .i64 (recEnc r).2]) ∧ Hd F w' := by
  have HA := ((H.alloc (r.cells A c) 91).alloc #[.slice none 0 0, .int .i64 0] 71).outnew
  simp only [World.size_alloc] at HA
  have N1 := rwr_calls r A c hz (fun o' w' h => hr w' h.t.t) HA hl
  have cb := HA.t.c
  unfold recEnc
  generalize OSt.recd ⟨[], 0⟩ r = S at N1 ⊢
  clear hz hr hl
  replace N1 := Lib.hid N1
  unfold Rec.cells at *
  go_enter Try.func44, Try.ntmps44
  go_wp2_with fail
  refine N1.out.mono ?_
  rintro en w1 ⟨rfl, HB⟩
  go_wp2_with fail
  refine (out_text HB).mono ?_
  rintro en w2 ⟨rfl, HC⟩
  go_wp2
  go_ret2
  exact ⟨rfl, HC.t.t⟩
end
end Go.Proofs.Ytflgfbffglmmeaa
