/-
  Records, and what ends transactions: what is written is read back. No program in sight.
-/
import Derived.Test.YtflgfbffglmmeaaRecM
import Derived.Test.YtflgfbffglmmeaaPure
namespace Go.Proofs.Ytflgfbffglmmeaa
set_option linter.unusedVariables false
set_option linter.unusedSimpArgs false
def wVar (b : Blob) : List UInt8 := vint b.len ++ b.d
def wHdr (h : Hdr) : List UInt8 := wVar ⟨false, h.key⟩ ++ wVar h.value
def wHdrs (hs : List Hdr) : List UInt8 := vint hs.length ++ hs.flatMap wHdr
def wRec (r : Rec) : List UInt8 := [0] ++ (vint r.time ++ (vint r.offset ++ (wVar r.key ++ (wVar r.value ++ wHdrs r.headers))))
def Blob.vok (b : Blob) : Prop := b.right = true ∧ fitsB b.len 4 = true
def Hdr.vok (h : Hdr) : Prop := Blob.vok ⟨false, h.key⟩ ∧ h.value.vok
def i64' (n : Int) : Prop := -9223372036854775808 ≤ n ∧ n ≤ 9223372036854775807
structure Rec.vok (r : Rec) : Prop where
  time : i64' r.time
  off0 : 0 ≤ r.offset
  off : fitsB r.offset 4 = true
  key : r.key.vok
  value : r.value.vok
  many : fitsB r.headers.length 4 = true
  hdrs : ∀ h ∈ r.headers, h.vok
theorem pint_ok (o : OSt) {n : Int} (h : fitsB n 4 = true) : o.pint n = o.put (vint n) := if_pos h
theorem varied_ok (o : OSt) {b : Blob} (h : b.vok) : o.varied b = o.put (wVar b) := by
  unfold OSt.varied OSt.bw wVar
  rw [pint_ok _ h.2, if_pos h.1, OSt.put_put]
theorem hdr_ok (o : OSt) {h : Hdr} (k : h.vok) : o.hdr h = o.put (wHdr h) := by
  unfold OSt.hdr wHdr
  rw [varied_ok _ k.1, varied_ok _ k.2, OSt.put_put]
theorem hdrs_fold : ∀ (hs : List Hdr) (o : OSt), (∀ h ∈ hs, h.vok) → hs.foldl OSt.hdr o = o.put (hs.flatMap wHdr)
  | [], o, _ => by simp [OSt.put_nil]
  | h :: t, o, k => by
    rw [List.foldl_cons, hdr_ok _ (k h (by simp)), hdrs_fold t _ (fun x hx => k x (by simp [hx])), OSt.put_put, List.flatMap_cons]
theorem hdrs_ok (o : OSt) {hs : List Hdr} (h : fitsB hs.length 4 = true) (k : ∀ h ∈ hs, h.vok) : o.hdrs hs = o.put (wHdrs hs) := by
  unfold OSt.hdrs wHdrs
  rw [pint_ok _ h, hdrs_fold _ _ k, OSt.put_put]
theorem put0 (x y : List UInt8) : OSt.put ⟨x, 0⟩ y = ⟨x ++ y, 0⟩ := rfl
theorem body_ok {r : Rec} (h : r.vok) : recBody r = ⟨wRec r, 0⟩ := by
  unfold recBody wRec
  rw [pint_ok _ h.off, varied_ok _ h.key, varied_ok _ h.value, hdrs_ok _ h.many h.hdrs]
  simp only [put0, List.append_assoc]
theorem right_ok {r : Rec} (h : r.vok) : r.right = 0 := by
  unfold Rec.right
  rw [if_neg (by have := h.off0; have := h.off; intro k; rcases k with k | k; omega; rw [h.off] at k; cases k), h.key.1, h.value.1]
  rw [if_neg (by decide), if_pos]
  exact List.all_eq_true.2 fun x hx => (h.hdrs x hx).2.1
theorem vok_len {l : List UInt8} (h : fitsB (l.length : Int) 4 = true) : Blob.vok ⟨false, l⟩ := ⟨rfl, h⟩
theorem recd_ok (o : OSt) {r : Rec} (h : r.vok) (hl : fitsB (wRec r).length 4 = true) : o.recd r = o.put (wVar ⟨false, wRec r⟩) := by
  unfold OSt.recd
  rw [right_ok h, body_ok h, if_neg (fun h => h rfl), if_neg (fun h => h rfl), varied_ok _ (vok_len hl)]
theorem var_full {b : Blob} (h : b.vok) (d r : List UInt8) : ISt.varB ⟨d, wVar b ++ r, 0⟩ = b ∧ ISt.varBS ⟨d, wVar b ++ r, 0⟩ = ⟨d ++ wVar b, r, 0⟩ :=
  ⟨varB_full b h.1 h.2 d r, (reads_varB b h.1 h.2).full d r⟩
theorem name_full {l : List UInt8} (h : Blob.vok ⟨false, l⟩) (d r : List UInt8) : ISt.nameB ⟨d, wVar ⟨false, l⟩ ++ r, 0⟩ = ⟨false, l⟩ ∧ ISt.nameS ⟨d, wVar ⟨false, l⟩ ++ r, 0⟩ = ⟨d ++ wVar ⟨false, l⟩, r, 0⟩ := by
  obtain ⟨h1, h2⟩ := var_full h d r
  refine ⟨h1, ?_⟩
  unfold ISt.nameS
  rw [h1, h2]; rfl
theorem hgo_full : ∀ (hs acc : List Hdr) (d r : List UInt8), (∀ h ∈ hs, h.vok) → hgo hs.length acc ⟨d, hs.flatMap wHdr ++ r, 0⟩ = (acc ++ hs, ⟨d ++ hs.flatMap wHdr, r, 0⟩)
  | [], acc, d, r, _ => by simp [hgo]
  | h :: t, acc, d, r, k => by
    have kh := k h (by simp)
    have e : (h :: t).flatMap wHdr ++ r = wVar ⟨false, h.key⟩ ++ (wVar h.value ++ (t.flatMap wHdr ++ r)) := by simp [wHdr]
    rw [e]
    obtain ⟨a1, a2⟩ := name_full kh.1 d (wVar h.value ++ (t.flatMap wHdr ++ r))
    obtain ⟨b1, b2⟩ := var_full kh.2 (d ++ wVar ⟨false, h.key⟩) (t.flatMap wHdr ++ r)
    rw [List.length_cons, hgo, a1, a2, b1, b2, if_pos rfl, hgo_full t _ _ r (fun x hx => k x (by simp [hx]))]
    simp [wHdr]
theorem vput_ne (n : Nat) : 0 < (vput n).length := by
  rw [vput]; split <;> simp
theorem hdrs_len : ∀ (hs : List Hdr), 2 * hs.length ≤ (hs.flatMap wHdr).length
  | [] => by simp
  | h :: t => by
    have := hdrs_len t
    have h1 := vput_ne (foldN (Blob.len ⟨false, h.key⟩))
    have h2 := vput_ne (foldN (Blob.len h.value))
    simp only [List.flatMap_cons, List.length_append, List.length_cons, wHdr, wVar, vint]
    omega
theorem hdrs_full {hs : List Hdr} (h : fitsB hs.length 4 = true) (k : ∀ h ∈ hs, h.vok) (d r : List UInt8) : ISt.hdrs ⟨d, wHdrs hs ++ r, 0⟩ = (hs, ⟨d ++ wHdrs hs, r, 0⟩) := by
  have e1 := v32_full _ h d (hs.flatMap wHdr ++ r)
  have e2 := (reads_v32 _ h).full d (hs.flatMap wHdr ++ r)
  have e3 : wHdrs hs ++ r = vint hs.length ++ (hs.flatMap wHdr ++ r) := by simp [wHdrs]
  unfold ISt.hdrs
  rw [e3, e1, e2, if_neg (by simp), if_neg (by omega), if_neg, Int.toNat_natCast, hgo_full _ _ _ _ k]
  · simp [wHdrs]
  · have := hdrs_len hs
    rw [List.length_append]
    omega
theorem rx_full {r : Rec} (h : r.vok) : (ISt.rx3 ⟨[], wRec r, 0⟩).2 = ⟨wRec r, [], 0⟩ ∧ ISt.rxV ⟨[], wRec r, 0⟩ = r := by
  obtain ⟨i, hi⟩ : ∃ i : ISt, i = ⟨[], wRec r, 0⟩ := ⟨_, rfl⟩
  rw [← hi]
  have e1 : i.rx1 = ⟨[0], vint r.time ++ (vint r.offset ++ (wVar r.key ++ (wVar r.value ++ wHdrs r.headers))), 0⟩ := by
    rw [hi]; unfold wRec ISt.rx1
    have a := int_full 0 1 (by decide) (by decide) [] (vint r.time ++ (vint r.offset ++ (wVar r.key ++ (wVar r.value ++ wHdrs r.headers))))
    have b := (reads_int 0 1).full [] (vint r.time ++ (vint r.offset ++ (wVar r.key ++ (wVar r.value ++ wHdrs r.headers))))
    rw [show be 0 1 = [0] from rfl] at a b
    rw [a, b, if_pos rfl]; rfl
  have e2 : i.rx1.varV 64 = r.time := by rw [e1, v64_full _ h.time.1 h.time.2]
  have e3 : i.rx1.varS 64 = ⟨[0] ++ vint r.time, vint r.offset ++ (wVar r.key ++ (wVar r.value ++ wHdrs r.headers)), 0⟩ := by rw [e1]; exact (reads_v64 _ h.time.1 h.time.2).full _ _
  have e4 : (i.rx1.varS 64).varV 32 = r.offset := by rw [e3, v32_full _ h.off]
  have e5 : i.rx2 = ⟨([0] ++ vint r.time) ++ vint r.offset, wVar r.key ++ (wVar r.value ++ wHdrs r.headers), 0⟩ := by
    unfold ISt.rx2; rw [e4, if_neg (by have := h.off0; omega), e3]; exact (reads_v32 _ h.off).full _ _
  obtain ⟨a1, a2⟩ := var_full h.key (([0] ++ vint r.time) ++ vint r.offset) (wVar r.value ++ wHdrs r.headers)
  obtain ⟨b1, b2⟩ := var_full h.value ((([0] ++ vint r.time) ++ vint r.offset) ++ wVar r.key) (wHdrs r.headers)
  have c1 := hdrs_full h.many h.hdrs (((([0] ++ vint r.time) ++ vint r.offset) ++ wVar r.key) ++ wVar r.value) []
  rw [List.append_nil] at c1
  have e6 : i.rx3 = (r.headers, ⟨(((([0] ++ vint r.time) ++ vint r.offset) ++ wVar r.key) ++ wVar r.value) ++ wHdrs r.headers, [], 0⟩) := by
    unfold ISt.rx3; rw [e5, a2, b2, c1]
  refine ⟨by rw [e6]; simp [wRec], ?_⟩
  unfold ISt.rxV
  rw [e2, e4, e6, e5, a2, a1, b1]
theorem rec_full {r : Rec} (h : r.vok) (hl : fitsB (wRec r).length 4 = true) (d t : List UInt8) : ISt.recV ⟨d, wVar ⟨false, wRec r⟩ ++ t, 0⟩ = r ∧ ISt.recS ⟨d, wVar ⟨false, wRec r⟩ ++ t, 0⟩ = ⟨d ++ wVar ⟨false, wRec r⟩, t, 0⟩ := by
  obtain ⟨a1, a2⟩ := name_full (vok_len hl) d t
  obtain ⟨b1, b2⟩ := rx_full h
  have b3 : (recIn (wRec r)).e = 0 := by unfold recIn; rw [b1]; rfl
  unfold ISt.recV ISt.recS
  simp only [a1, a2, b3, b2, ne_eq, not_true_eq_false, if_false, and_self]
theorem rec_rt {r : Rec} (h : r.vok) (hl : fitsB (wRec r).length 4 = true) : recEnc r = (wVar ⟨false, wRec r⟩, 0) ∧ recDec (wVar ⟨false, wRec r⟩) = (r, 0) := by
  obtain ⟨a1, a2⟩ := rec_full h hl [] []
  rw [List.append_nil] at a1 a2
  refine ⟨?_, ?_⟩
  · unfold recEnc; rw [recd_ok _ h hl, put0, List.nil_append]; rfl
  · unfold recDec recDecS
    rw [a1, a2]
    rfl
end Go.Proofs.Ytflgfbffglmmeaa
