/-
  Records, their headers, and what ends transactions: what is written and read, as plain functions.
-/
import Derived.Test.YtflgfbffglmmeaaBlob
import Derived.Test.YtflgfbffglmmeaaLib2
namespace Go.Proofs.Ytflgfbffglmmeaa
open Go.RowKit
set_option linter.unusedVariables false
set_option linter.unusedSimpArgs false
structure Hdr where
  key : List UInt8
  value : Blob
  deriving DecidableEq
structure Rec where
  time : Int
  offset : Int
  key : Blob
  value : Blob
  headers : List Hdr
  deriving DecidableEq
def rzero : Rec := ⟨0, 0, ⟨false, []⟩, ⟨false, []⟩, []⟩
def KHdr (_ : World) (h : Hdr) (cs : List Value) : Prop := cs = [.string (toS h.key), .bool h.value.nu, .string (toS h.value.d)]
def KRec (w : World) (r : Rec) (cs : List Value) : Prop :=
  ∃ A c, cs = [.int .i64 r.time, .int .i64 r.offset, .bool r.key.nu, .string (toS r.key.d), .bool r.value.nu, .string (toS r.value.d), .slice A r.headers.length c] ∧ Rows KHdr 3 w A r.headers
/-! ### headers -/
def OSt.hdr (o : OSt) (h : Hdr) : OSt := (o.varied ⟨false, h.key⟩).varied h.value
def OSt.hdrs (o : OSt) (hs : List Hdr) : OSt := hs.foldl OSt.hdr (o.pint hs.length)
def hgo : Nat → List Hdr → ISt → List Hdr × ISt
  | 0, acc, i => (acc, i)
  | n + 1, acc, i => if i.nameS.varBS.e = 0 then hgo n (acc ++ [⟨i.nameB.d, i.nameS.varB⟩]) i.nameS.varBS else ([], i.nameS.varBS)
def ISt.hdrs (i : ISt) : List Hdr × ISt :=
  if (i.varS 32).e ≠ 0 then ([], i.varS 32) else if i.varV 32 < 0 then ([], (i.varS 32).fail 4) else if ((i.varS 32).r.length / 2 : Nat) < i.varV 32 then ([], (i.varS 32).fail 1) else hgo (i.varV 32).toNat [] (i.varS 32)
/-! ### records -/
def Rec.right (r : Rec) : Int := if r.offset < 0 ∨ fitsB r.offset 4 = false then 11 else if (r.key.right && r.value.right) = false then 4 else if r.headers.all (fun h => h.value.right) then 0 else 4
def recBody (r : Rec) : OSt := (((((⟨[0], 0⟩ : OSt).put (vint r.time)).pint r.offset).varied r.key).varied r.value).hdrs r.headers
def OSt.recd (o : OSt) (r : Rec) : OSt := if r.right ≠ 0 then o.fail r.right else if (recBody r).e ≠ 0 then o.fail (recBody r).e else o.varied ⟨false, (recBody r).b⟩
def recEnc (r : Rec) : List UInt8 × Int := ((⟨[], 0⟩ : OSt).recd r).text
def ISt.rx1 (i : ISt) : ISt := if i.intV 1 = 0 then i.intS 1 else (i.intS 1).fail 8
def ISt.rx2 (i : ISt) : ISt := if (i.rx1.varS 64).varV 32 < 0 then ((i.rx1.varS 64).varS 32).fail 11 else (i.rx1.varS 64).varS 32
def ISt.rx3 (i : ISt) : List Hdr × ISt := i.rx2.varBS.varBS.hdrs
def ISt.rxV (i : ISt) : Rec := ⟨i.rx1.varV 64, (i.rx1.varS 64).varV 32, i.rx2.varB, i.rx2.varBS.varB, i.rx3.1⟩
def recIn (l : List UInt8) : ISt := (ISt.rx3 ⟨[], l, 0⟩).2.close
def ISt.recS (i : ISt) : ISt := if i.nameS.e ≠ 0 then i.nameS else if (recIn i.nameB.d).e ≠ 0 then i.nameS.fail (recIn i.nameB.d).e else i.nameS
def ISt.recV (i : ISt) : Rec := if i.nameS.e ≠ 0 then rzero else if (recIn i.nameB.d).e ≠ 0 then rzero else ISt.rxV ⟨[], i.nameB.d, 0⟩
def recDecS (l : List UInt8) : ISt := (ISt.recS ⟨[], l, 0⟩).close
def recDec (l : List UInt8) : Rec × Int := if (recDecS l).e = 0 then (ISt.recV ⟨[], l, 0⟩, 0) else (rzero, (recDecS l).e)
/-! ### what ends transactions -/
def ISt.verS (i : ISt) : ISt := if i.intV 2 = 0 then i.intS 2 else (i.intS 2).fail 7
def ckey (kind : Int) : List UInt8 × Int := if kind = 0 ∨ kind = 1 then (be 0 2 ++ be kind 2, 0) else ([], 12)
def cval (epoch : Int) : List UInt8 × Int := if epoch < 0 then ([], 11) else OSt.text ((⟨be 0 2, 0⟩ : OSt).int epoch 4)
def crkS (l : List UInt8) : ISt := (fun i : ISt => if i.intV 2 = 0 ∨ i.intV 2 = 1 then i.intS 2 else (i.intS 2).fail 12) (ISt.verS ⟨[], l, 0⟩)
def crk (l : List UInt8) : Int × Int := if (crkS l).close.e = 0 then ((ISt.verS ⟨[], l, 0⟩).intV 2, 0) else (0, (crkS l).close.e)
def crvS (l : List UInt8) : ISt := (fun i : ISt => if i.intV 4 < 0 then (i.intS 4).fail 11 else i.intS 4) (ISt.verS ⟨[], l, 0⟩)
def crv (l : List UInt8) : Int × Int := if (crvS l).close.e = 0 then ((ISt.verS ⟨[], l, 0⟩).intV 4, 0) else (0, (crvS l).close.e)
def crec (kind epoch : Int) : Rec × Int := if (ckey kind).2 ≠ 0 then (rzero, (ckey kind).2) else if (cval epoch).2 ≠ 0 then (rzero, (cval epoch).2) else (⟨0, 0, ⟨false, (ckey kind).1⟩, ⟨false, (cval epoch).1⟩, []⟩, 0)
def cread (r : Rec) : Int × Int × Int :=
  if r.key.nu = true ∨ r.value.nu = true ∨ r.headers ≠ [] ∨ r.offset ≠ 0 then (0, 0, 12) else if (crk r.key.d).2 ≠ 0 then (0, 0, (crk r.key.d).2) else if (crv r.value.d).2 ≠ 0 then (0, 0, (crv r.value.d).2) else ((crk r.key.d).1, (crv r.value.d).1, 0)
end Go.Proofs.Ytflgfbffglmmeaa
