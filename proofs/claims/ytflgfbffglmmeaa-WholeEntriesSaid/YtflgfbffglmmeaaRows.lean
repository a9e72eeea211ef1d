/-
  No cell of these rows narrows 'for every input' (looked for: loops, veiled, ifaces, maps, wideKeys, modest, calm, conditions, laid).
  DERIVED. THE GIVEN ROWS OF THIS SEAT. 10 by the template 'for every input the law returns true; each argument reads behind the call as it read before'; 0 by the template 'total and deterministic' (their statements: YtflgfbffglmmeaaTotals.lean).
  GIVEN WITH THE SEED: the statements are not yours to turn. If you find one false, say at which input.
  Laid BY PROGRAM, IN A SANDBOX (cutbox-rows.mjs): the forced cells as the released guide's own fill.sh prints them over the translation 9cba628a0acc7be4… (all of the seat's roots in one cut). By AI agents, Wed Nov 11 2026. No macro, syntax, notation, axiom, sorry.
-/
import Derived.Test.YtflgfbffglmmeaaChecked
import GoSem.Claim
import GoSem.ClaimJoined
import GoSem.ClaimMapViews
import Derived.JoinedTies
import Derived.KernelRfl
namespace Go.Proofs.Ytflgfbffglmmeaa
/- THE CELL 'sum', in the pinned program and in every row, IS THE sha256 OF THE DUMP (.gsa) THAT YtflgfbffglmmeaaProg.lean LOADS. Nothing in Lean hashes anything: it is a label: what it is worth is what the hold of that sum in a sandbox is worth. -/
noncomputable def Try.pinned : Pinned := { name := "ytflgfbffglmmeaa", sum := "9cba628a0acc7be41295091b452e3034d706fc481ebe05c7da08193c6857047f", checked := Try.checked }
namespace Rows
def none {H : Type} : Left H := { results := [], args := [] }

/-- 'cursitorlaw15.JournalApplies': WHATEVER THE INPUT: true; the input reads as it did. -/
def journalAppliesSpec : ChangeSpec := { name := "journalApplies", fn := fun _ => fun
  | [d] => { results := [.lit (.bool true)], args := [d] }
  | _ => none }
def journalAppliesRow : OpenClaim := { program := "ytflgfbffglmmeaa", sum := "9cba628a0acc7be41295091b452e3034d706fc481ebe05c7da08193c6857047f", func := "cursitor/cursitorlaw15.JournalApplies", spec := "journalApplies", unfollowed := true, recurses := true, apart := false }
def JournalAppliesSaid : Prop := journalAppliesRow.holds Try.pinned (OpenSpec.ofChange journalAppliesSpec)

/-- ITS FALSE NEIGHBOUR: 'it returns false'. Refute it at one input. -/
def journalAppliesWrong : ChangeSpec := { name := "journalApplies", fn := fun _ => fun
  | [d] => { results := [.lit (.bool false)], args := [d] }
  | _ => none }
def JournalAppliesWrongFalsely : Prop := journalAppliesRow.holds Try.pinned (OpenSpec.ofChange journalAppliesWrong)

/-- 'cursitorlaw20.ProduceBatches': WHATEVER THE INPUT: true; the input reads as it did. -/
def produceBatchesSpec : ChangeSpec := { name := "produceBatches", fn := fun _ => fun
  | [d1, d2] => { results := [.lit (.bool true)], args := [d1, d2] }
  | _ => none }
def produceBatchesRow : OpenClaim := { program := "ytflgfbffglmmeaa", sum := "9cba628a0acc7be41295091b452e3034d706fc481ebe05c7da08193c6857047f", func := "cursitor/cursitorlaw20.ProduceBatches", spec := "produceBatches", inPlace := ["internal/abi.NoEscape"], apart := false }
def ProduceBatchesSaid : Prop := produceBatchesRow.holds Try.pinned (OpenSpec.ofChange produceBatchesSpec)

/-- ITS FALSE NEIGHBOUR: 'it returns false'. Refute it at one input. -/
def produceBatchesWrong : ChangeSpec := { name := "produceBatches", fn := fun _ => fun
  | [d1, d2] => { results := [.lit (.bool false)], args := [d1, d2] }
  | _ => none }
def ProduceBatchesWrongFalsely : Prop := produceBatchesRow.holds Try.pinned (OpenSpec.ofChange produceBatchesWrong)

/-- 'cursitortop.WholeFields': WHATEVER THE INPUT: true; the input reads as it did. -/
def wholeFieldsSpec : ChangeSpec := { name := "wholeFields", fn := fun _ => fun
  | [d1, d2, d3] => { results := [.lit (.bool true)], args := [d1, d2, d3] }
  | _ => none }
def wholeFieldsRow : OpenClaim := { program := "ytflgfbffglmmeaa", sum := "9cba628a0acc7be41295091b452e3034d706fc481ebe05c7da08193c6857047f", func := "cursitor/cursitortop.WholeFields", spec := "wholeFields", unfollowed := true, recurses := true, apart := false }
def WholeFieldsSaid : Prop := wholeFieldsRow.holds Try.pinned (OpenSpec.ofChange wholeFieldsSpec)

/-- ITS FALSE NEIGHBOUR: 'it returns false'. Refute it at one input. -/
def wholeFieldsWrong : ChangeSpec := { name := "wholeFields", fn := fun _ => fun
  | [d1, d2, d3] => { results := [.lit (.bool false)], args := [d1, d2, d3] }
  | _ => none }
def WholeFieldsWrongFalsely : Prop := wholeFieldsRow.holds Try.pinned (OpenSpec.ofChange wholeFieldsWrong)

/-- 'cursitortop.WholeEntries': WHATEVER THE INPUT: true; the input reads as it did. -/
def wholeEntriesSpec : ChangeSpec := { name := "wholeEntries", fn := fun _ => fun
  | [d1, d2, d3] => { results := [.lit (.bool true)], args := [d1, d2, d3] }
  | _ => none }
def wholeEntriesRow : OpenClaim := { program := "ytflgfbffglmmeaa", sum := "9cba628a0acc7be41295091b452e3034d706fc481ebe05c7da08193c6857047f", func := "cursitor/cursitortop.WholeEntries", spec := "wholeEntries", apart := false }
def WholeEntriesSaid : Prop := wholeEntriesRow.holds Try.pinned (OpenSpec.ofChange wholeEntriesSpec)

/-- ITS FALSE NEIGHBOUR: 'it returns false'. Refute it at one input. -/
def wholeEntriesWrong : ChangeSpec := { name := "wholeEntries", fn := fun _ => fun
  | [d1, d2, d3] => { results := [.lit (.bool false)], args := [d1, d2, d3] }
  | _ => none }
def WholeEntriesWrongFalsely : Prop := wholeEntriesRow.holds Try.pinned (OpenSpec.ofChange wholeEntriesWrong)

/-- 'cursitortop.WholeEnds': WHATEVER THE INPUT: true; the input reads as it did. -/
def wholeEndsSpec : ChangeSpec := { name := "wholeEnds", fn := fun _ => fun
  | [d1, d2, d3] => { results := [.lit (.bool true)], args := [d1, d2, d3] }
  | _ => none }
def wholeEndsRow : OpenClaim := { program := "ytflgfbffglmmeaa", sum := "9cba628a0acc7be41295091b452e3034d706fc481ebe05c7da08193c6857047f", func := "cursitor/cursitortop.WholeEnds", spec := "wholeEnds", apart := false }
def WholeEndsSaid : Prop := wholeEndsRow.holds Try.pinned (OpenSpec.ofChange wholeEndsSpec)

/-- ITS FALSE NEIGHBOUR: 'it returns false'. Refute it at one input. -/
def wholeEndsWrong : ChangeSpec := { name := "wholeEnds", fn := fun _ => fun
  | [d1, d2, d3] => { results := [.lit (.bool false)], args := [d1, d2, d3] }
  | _ => none }
def WholeEndsWrongFalsely : Prop := wholeEndsRow.holds Try.pinned (OpenSpec.ofChange wholeEndsWrong)

/-- 'cursitortop.WholeTxns': WHATEVER THE INPUT: true; the input reads as it did. -/
def wholeTxnsSpec : ChangeSpec := { name := "wholeTxns", fn := fun _ => fun
  | [d1, d2, d3] => { results := [.lit (.bool true)], args := [d1, d2, d3] }
  | _ => none }
def wholeTxnsRow : OpenClaim := { program := "ytflgfbffglmmeaa", sum := "9cba628a0acc7be41295091b452e3034d706fc481ebe05c7da08193c6857047f", func := "cursitor/cursitortop.WholeTxns", spec := "wholeTxns", unfollowed := true, recurses := true, apart := false }
def WholeTxnsSaid : Prop := wholeTxnsRow.holds Try.pinned (OpenSpec.ofChange wholeTxnsSpec)

/-- ITS FALSE NEIGHBOUR: 'it returns false'. Refute it at one input. -/
def wholeTxnsWrong : ChangeSpec := { name := "wholeTxns", fn := fun _ => fun
  | [d1, d2, d3] => { results := [.lit (.bool false)], args := [d1, d2, d3] }
  | _ => none }
def WholeTxnsWrongFalsely : Prop := wholeTxnsRow.holds Try.pinned (OpenSpec.ofChange wholeTxnsWrong)

/-- 'cursitortop.WholeMarkers': WHATEVER THE INPUT: true; the input reads as it did. -/
def wholeMarkersSpec : ChangeSpec := { name := "wholeMarkers", fn := fun _ => fun
  | [d1, d2] => { results := [.lit (.bool true)], args := [d1, d2] }
  | _ => none }
def wholeMarkersRow : OpenClaim := { program := "ytflgfbffglmmeaa", sum := "9cba628a0acc7be41295091b452e3034d706fc481ebe05c7da08193c6857047f", func := "cursitor/cursitortop.WholeMarkers", spec := "wholeMarkers", apart := false }
def WholeMarkersSaid : Prop := wholeMarkersRow.holds Try.pinned (OpenSpec.ofChange wholeMarkersSpec)

/-- ITS FALSE NEIGHBOUR: 'it returns false'. Refute it at one input. -/
def wholeMarkersWrong : ChangeSpec := { name := "wholeMarkers", fn := fun _ => fun
  | [d1, d2] => { results := [.lit (.bool false)], args := [d1, d2] }
  | _ => none }
def WholeMarkersWrongFalsely : Prop := wholeMarkersRow.holds Try.pinned (OpenSpec.ofChange wholeMarkersWrong)

/-- 'cursitortop.WholeChunks': WHATEVER THE INPUT: true; the input reads as it did. -/
def wholeChunksSpec : ChangeSpec := { name := "wholeChunks", fn := fun _ => fun
  | [d1, d2, d3] => { results := [.lit (.bool true)], args := [d1, d2, d3] }
  | _ => none }
def wholeChunksRow : OpenClaim := { program := "ytflgfbffglmmeaa", sum := "9cba628a0acc7be41295091b452e3034d706fc481ebe05c7da08193c6857047f", func := "cursitor/cursitortop.WholeChunks", spec := "wholeChunks", apart := false }
def WholeChunksSaid : Prop := wholeChunksRow.holds Try.pinned (OpenSpec.ofChange wholeChunksSpec)

/-- ITS FALSE NEIGHBOUR: 'it returns false'. Refute it at one input. -/
def wholeChunksWrong : ChangeSpec := { name := "wholeChunks", fn := fun _ => fun
  | [d1, d2, d3] => { results := [.lit (.bool false)], args := [d1, d2, d3] }
  | _ => none }
def WholeChunksWrongFalsely : Prop := wholeChunksRow.holds Try.pinned (OpenSpec.ofChange wholeChunksWrong)

/-- 'cursitortop.WholeTorn': WHATEVER THE INPUT: true; the input reads as it did. -/
def wholeTornSpec : ChangeSpec := { name := "wholeTorn", fn := fun _ => fun
  | [d1, d2, d3] => { results := [.lit (.bool true)], args := [d1, d2, d3] }
  | _ => none }
def wholeTornRow : OpenClaim := { program := "ytflgfbffglmmeaa", sum := "9cba628a0acc7be41295091b452e3034d706fc481ebe05c7da08193c6857047f", func := "cursitor/cursitortop.WholeTorn", spec := "wholeTorn", inPlace := ["internal/abi.NoEscape"], apart := false }
def WholeTornSaid : Prop := wholeTornRow.holds Try.pinned (OpenSpec.ofChange wholeTornSpec)

/-- ITS FALSE NEIGHBOUR: 'it returns false'. Refute it at one input. -/
def wholeTornWrong : ChangeSpec := { name := "wholeTorn", fn := fun _ => fun
  | [d1, d2, d3] => { results := [.lit (.bool false)], args := [d1, d2, d3] }
  | _ => none }
def WholeTornWrongFalsely : Prop := wholeTornRow.holds Try.pinned (OpenSpec.ofChange wholeTornWrong)

/-- 'cursitortop.WholeLog': WHATEVER THE INPUT: true; the input reads as it did. -/
def wholeLogSpec : ChangeSpec := { name := "wholeLog", fn := fun _ => fun
  | [d] => { results := [.lit (.bool true)], args := [d] }
  | _ => none }
def wholeLogRow : OpenClaim := { program := "ytflgfbffglmmeaa", sum := "9cba628a0acc7be41295091b452e3034d706fc481ebe05c7da08193c6857047f", func := "cursitor/cursitortop.WholeLog", spec := "wholeLog", unfollowed := true, recurses := true, apart := false }
def WholeLogSaid : Prop := wholeLogRow.holds Try.pinned (OpenSpec.ofChange wholeLogSpec)

/-- ITS FALSE NEIGHBOUR: 'it returns false'. Refute it at one input. -/
def wholeLogWrong : ChangeSpec := { name := "wholeLog", fn := fun _ => fun
  | [d] => { results := [.lit (.bool false)], args := [d] }
  | _ => none }
def WholeLogWrongFalsely : Prop := wholeLogRow.holds Try.pinned (OpenSpec.ofChange wholeLogWrong)

/- THE SECOND FORM. 'bulk': how many values and letters a reading holds, each counted each time it is reached (what is shared counts as often as it is met; a slice's spare places count too). A statement '..UptoSaid' is the law's where the arguments, and the package variables that the reading takes, are together of bulk at most 1048576: NARROWER than '..Said'. Prove '..Said' where nothing that the law and all that it calls make is longer than what came in: it says more and counts as full. Else prove '..UptoSaid'. A law counts once. -/
mutual
def uptoBulk {H : Type} : DataW H → Nat
  | .lit (.string bytes) => bytes.length + 1
  | .lit _ => 1
  | .nil => 1
  | .ptr d => uptoBulk d + 1
  | .slice elems spare => uptoBulkAll elems + uptoBulkAll spare + 1
  | .agg parts => uptoBulkAll parts + 1
  | .iface _ d => uptoBulk d + 1
  | .map entries => uptoBulkEntries entries + 1
  | .held _ => 1
def uptoBulkAll {H : Type} : List (DataW H) → Nat
  | [] => 0
  | d :: r => uptoBulk d + uptoBulkAll r
def uptoBulkEntries {H : Type} : List (Lit × DataW H) → Nat
  | [] => 0
  | x :: r => uptoBulkEntry x + uptoBulkEntries r
def uptoBulkEntry {H : Type} : Lit × DataW H → Nat
  | (.string bytes, d) => bytes.length + uptoBulk d + 1
  | (_, d) => uptoBulk d + 1
 end
def uptoSmall : (H : Type) → List (DataW H) → Bool := fun _ ds => decide (uptoBulkAll ds ≤ 1048576)
def OpenSpec.upto (s : _root_.Go.ChangeSpec) : _root_.Go.OpenSpec := { _root_.Go.OpenSpec.ofChange s with cond := some uptoSmall }

/-- 'cursitorlaw15.JournalApplies', WHERE WHAT IT READS IS OF BULK AT MOST 1048576: true; the input reads as it did. -/
def journalAppliesUptoRow : OpenClaim := { program := "ytflgfbffglmmeaa", sum := "9cba628a0acc7be41295091b452e3034d706fc481ebe05c7da08193c6857047f", func := "cursitor/cursitorlaw15.JournalApplies", spec := "journalApplies", unfollowed := true, recurses := true, apart := false, narrowed := true }
def JournalAppliesUptoSaid : Prop := journalAppliesUptoRow.holds Try.pinned (OpenSpec.upto journalAppliesSpec)

/-- 'cursitorlaw20.ProduceBatches', WHERE WHAT IT READS IS OF BULK AT MOST 1048576: true; the input reads as it did. -/
def produceBatchesUptoRow : OpenClaim := { program := "ytflgfbffglmmeaa", sum := "9cba628a0acc7be41295091b452e3034d706fc481ebe05c7da08193c6857047f", func := "cursitor/cursitorlaw20.ProduceBatches", spec := "produceBatches", inPlace := ["internal/abi.NoEscape"], apart := false, narrowed := true }
def ProduceBatchesUptoSaid : Prop := produceBatchesUptoRow.holds Try.pinned (OpenSpec.upto produceBatchesSpec)

/-- 'cursitortop.WholeFields', WHERE WHAT IT READS IS OF BULK AT MOST 1048576: true; the input reads as it did. -/
def wholeFieldsUptoRow : OpenClaim := { program := "ytflgfbffglmmeaa", sum := "9cba628a0acc7be41295091b452e3034d706fc481ebe05c7da08193c6857047f", func := "cursitor/cursitortop.WholeFields", spec := "wholeFields", unfollowed := true, recurses := true, apart := false, narrowed := true }
def WholeFieldsUptoSaid : Prop := wholeFieldsUptoRow.holds Try.pinned (OpenSpec.upto wholeFieldsSpec)

/-- 'cursitortop.WholeEntries', WHERE WHAT IT READS IS OF BULK AT MOST 1048576: true; the input reads as it did. -/
def wholeEntriesUptoRow : OpenClaim := { program := "ytflgfbffglmmeaa", sum := "9cba628a0acc7be41295091b452e3034d706fc481ebe05c7da08193c6857047f", func := "cursitor/cursitortop.WholeEntries", spec := "wholeEntries", apart := false, narrowed := true }
def WholeEntriesUptoSaid : Prop := wholeEntriesUptoRow.holds Try.pinned (OpenSpec.upto wholeEntriesSpec)

/-- 'cursitortop.WholeEnds', WHERE WHAT IT READS IS OF BULK AT MOST 1048576: true; the input reads as it did. -/
def wholeEndsUptoRow : OpenClaim := { program := "ytflgfbffglmmeaa", sum := "9cba628a0acc7be41295091b452e3034d706fc481ebe05c7da08193c6857047f", func := "cursitor/cursitortop.WholeEnds", spec := "wholeEnds", apart := false, narrowed := true }
def WholeEndsUptoSaid : Prop := wholeEndsUptoRow.holds Try.pinned (OpenSpec.upto wholeEndsSpec)

/-- 'cursitortop.WholeTxns', WHERE WHAT IT READS IS OF BULK AT MOST 1048576: true; the input reads as it did. -/
def wholeTxnsUptoRow : OpenClaim := { program := "ytflgfbffglmmeaa", sum := "9cba628a0acc7be41295091b452e3034d706fc481ebe05c7da08193c6857047f", func := "cursitor/cursitortop.WholeTxns", spec := "wholeTxns", unfollowed := true, recurses := true, apart := false, narrowed := true }
def WholeTxnsUptoSaid : Prop := wholeTxnsUptoRow.holds Try.pinned (OpenSpec.upto wholeTxnsSpec)

/-- 'cursitortop.WholeMarkers', WHERE WHAT IT READS IS OF BULK AT MOST 1048576: true; the input reads as it did. -/
def wholeMarkersUptoRow : OpenClaim := { program := "ytflgfbffglmmeaa", sum := "9cba628a0acc7be41295091b452e3034d706fc481ebe05c7da08193c6857047f", func := "cursitor/cursitortop.WholeMarkers", spec := "wholeMarkers", apart := false, narrowed := true }
def WholeMarkersUptoSaid : Prop := wholeMarkersUptoRow.holds Try.pinned (OpenSpec.upto wholeMarkersSpec)

/-- 'cursitortop.WholeChunks', WHERE WHAT IT READS IS OF BULK AT MOST 1048576: true; the input reads as it did. -/
def wholeChunksUptoRow : OpenClaim := { program := "ytflgfbffglmmeaa", sum := "9cba628a0acc7be41295091b452e3034d706fc481ebe05c7da08193c6857047f", func := "cursitor/cursitortop.WholeChunks", spec := "wholeChunks", apart := false, narrowed := true }
def WholeChunksUptoSaid : Prop := wholeChunksUptoRow.holds Try.pinned (OpenSpec.upto wholeChunksSpec)

/-- 'cursitortop.WholeTorn', WHERE WHAT IT READS IS OF BULK AT MOST 1048576: true; the input reads as it did. -/
def wholeTornUptoRow : OpenClaim := { program := "ytflgfbffglmmeaa", sum := "9cba628a0acc7be41295091b452e3034d706fc481ebe05c7da08193c6857047f", func := "cursitor/cursitortop.WholeTorn", spec := "wholeTorn", inPlace := ["internal/abi.NoEscape"], apart := false, narrowed := true }
def WholeTornUptoSaid : Prop := wholeTornUptoRow.holds Try.pinned (OpenSpec.upto wholeTornSpec)

/-- 'cursitortop.WholeLog', WHERE WHAT IT READS IS OF BULK AT MOST 1048576: true; the input reads as it did. -/
def wholeLogUptoRow : OpenClaim := { program := "ytflgfbffglmmeaa", sum := "9cba628a0acc7be41295091b452e3034d706fc481ebe05c7da08193c6857047f", func := "cursitor/cursitortop.WholeLog", spec := "wholeLog", unfollowed := true, recurses := true, apart := false, narrowed := true }
def WholeLogUptoSaid : Prop := wholeLogUptoRow.holds Try.pinned (OpenSpec.upto wholeLogSpec)

end Rows
end Go.Proofs.Ytflgfbffglmmeaa
