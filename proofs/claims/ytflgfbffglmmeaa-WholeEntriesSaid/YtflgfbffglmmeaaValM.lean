/-
  Keys and values of the log of transactions: what is written and read, as plain functions.
-/
import Derived.Test.YtflgfbffglmmeaaVersion
import Derived.Test.YtflgfbffglmmeaaLib2
namespace Go.Proofs.Ytflgfbffglmmeaa
open Go.RowKit
set_option linter.unusedVariables false
set_option linter.unusedSimpArgs false
structure Topic where
  name : List UInt8
  parts : List Int
  deriving DecidableEq
structure TVal where
  producer : Int
  epoch : Int
  timeout : Int
  state : Int
  topics : List Topic
  updated : Int
  started : Int
  deriving DecidableEq
def vzero : TVal := ⟨0, 0, 0, 0, [], 0, 0⟩
def KNum (_ : World) (n : Int) (cs : List Value) : Prop := cs = [.int .i64 n]
def KStr (_ : World) (s : List UInt8) (cs : List Value) : Prop := cs = [.string (toS s)]
def KTopic (w : World) (t : Topic) (cs : List Value) : Prop := ∃ A c, cs = [.string (toS t.name), .slice A t.parts.length c] ∧ Rows KNum 1 w A t.parts
/-- Is each one above the one ahead of it? -/
def risesTo {α : Type} (lt : α → α → Bool) (l : List α) (k : Nat) : Bool := (List.range (k - 1)).all fun i => match l[i]?, l[i + 1]? with
  | some a, some b => lt a b
  | _, _ => true
def rises {α : Type} (lt : α → α → Bool) (l : List α) : Bool := risesTo lt l l.length
def ltI (a b : Int) : Bool := decide (a < b)
def ltS (a b : List UInt8) : Bool := Op.bytesLess a b
def partsOk (l : List Int) : Bool := l.all (fun n => decide (0 ≤ n) && fitsB n 4) && (decide (0 < l.length) && rises ltI l)
def topicOk (t : Topic) : Bool := !t.name.isEmpty && decide (t.name.length ≤ 32767) && partsOk t.parts
def topicsOk (l : List Topic) : Bool := l.all topicOk && rises ltS (l.map Topic.name)
def idle (s : Int) : Bool := decide (s = 0) || decide (4 ≤ s)
def TVal.check (v : TVal) : Int :=
  if v.producer < 0 ∨ v.epoch < 0 ∨ fitsB v.epoch 2 = false ∨ v.timeout < 0 ∨ fitsB v.timeout 4 = false ∨ v.updated < 0 ∨ v.started < -1 then 11
  else if v.state < 0 ∨ 7 ≤ v.state then 12
  else if idle v.state ≠ decide (v.topics.length = 0) ∨ decide (v.state = 0) ≠ decide (v.started = -1) then 10
  else if topicsOk v.topics = false then 13 else 0
/-! ### topics -/
def OSt.ints (o : OSt) (l : List Int) : OSt := l.foldl (fun o n => o.int n 4) o
def OSt.topic (o : OSt) (t : Topic) : OSt := ((o.fixed ⟨false, t.name⟩ 2).int t.parts.length 4).ints t.parts
def OSt.topics (o : OSt) (l : List Topic) : OSt := l.foldl OSt.topic (o.int l.length 4)
/-- How many things there are, each of at least so many bytes. -/
def ISt.cntV (i : ISt) (size each : Nat) : Nat := if (i.intS size).e ≠ 0 then 0 else if i.intV size < 0 then 0 else if ((i.intS size).r.length / each : Nat) < i.intV size then 0 else (i.intV size).toNat
def ISt.cntS (i : ISt) (size each : Nat) : ISt := if (i.intS size).e ≠ 0 then i.intS size else if i.intV size < 0 then (i.intS size).fail 4 else if ((i.intS size).r.length / each : Nat) < i.intV size then (i.intS size).fail 1 else i.intS size
def pgo : Nat → List Int → ISt → List Int × ISt
  | 0, acc, i => (acc, i)
  | n + 1, acc, i => pgo n (acc ++ [i.intV 4]) (i.intS 4)
def ISt.topic (i : ISt) : Topic × ISt := (⟨i.textB.d, (pgo (i.textS.cntV 4 4) [] (i.textS.cntS 4 4)).1⟩, (pgo (i.textS.cntV 4 4) [] (i.textS.cntS 4 4)).2)
def tgo : Nat → List Topic → ISt → List Topic × ISt
  | 0, acc, i => (acc, i)
  | n + 1, acc, i => if i.topic.2.e = 0 then tgo n (acc ++ [i.topic.1]) i.topic.2 else ([], i.topic.2)
def ISt.topics (i : ISt) : List Topic × ISt := tgo (i.cntV 4 6) [] (i.cntS 4 6)
/-! ### values -/
def OSt.val (o : OSt) (v : TVal) : OSt := ((((((((o.int 0 2).int v.producer 8).int v.epoch 2).int v.timeout 4).int v.state 1).topics v.topics).int v.updated 8).int v.started 8)
def valEnc (v : TVal) : List UInt8 × Int := if v.check ≠ 0 then ([], v.check) else (OSt.val ⟨[], 0⟩ v).text
def ISt.va (i : ISt) : ISt := if i.intV 2 = 0 then i.intS 2 else (i.intS 2).fail 7
def ISt.vb (i : ISt) : ISt := (((i.va.intS 8).intS 2).intS 4).intS 1
def ISt.vc (i : ISt) : ISt := i.vb.topics.2
def ISt.valV (i : ISt) : TVal := ⟨i.va.intV 8, (i.va.intS 8).intV 2, ((i.va.intS 8).intS 2).intV 4, (((i.va.intS 8).intS 2).intS 4).intV 1, i.vb.topics.1, i.vc.intV 8, (i.vc.intS 8).intV 8⟩
def valS (l : List UInt8) : ISt := (((ISt.vc ⟨[], l, 0⟩).intS 8).intS 8).close
def valE (l : List UInt8) : Int := if (valS l).e = 0 then (ISt.valV ⟨[], l, 0⟩).check else (valS l).e
def valDec (l : List UInt8) : TVal × Int := if valE l = 0 then (ISt.valV ⟨[], l, 0⟩, 0) else (vzero, valE l)
/-! ### keys -/
def keyEnc (l : List UInt8) : List UInt8 × Int := if kright l = false then ([], 4) else OSt.text (((⟨[], 0⟩ : OSt).int 0 2).fixed ⟨false, l⟩ 2)
def keyI (l : List UInt8) : ISt := ISt.va ⟨[], l, 0⟩
def keyD (l : List UInt8) : List UInt8 := (keyI l).textB.d
def keyS (l : List UInt8) : ISt := (if (keyD l).isEmpty then (keyI l).textS.fail 4 else (keyI l).textS).close
def keyDec (l : List UInt8) : List UInt8 × Int := if (keyS l).e = 0 then (keyD l, 0) else ([], (keyS l).e)
end Go.Proofs.Ytflgfbffglmmeaa
