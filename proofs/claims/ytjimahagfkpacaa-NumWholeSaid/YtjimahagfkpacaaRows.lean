/-
  No cell of these rows narrows 'for every input' (looked for: loops, veiled, ifaces, maps, wideKeys, modest, calm, conditions, laid).
  DERIVED. THE GIVEN ROWS OF THIS SEAT. 6 by the template 'for every input the law returns true; each argument reads behind the call as it read before'; 0 by the template 'total and deterministic' (their statements: YtjimahagfkpacaaTotals.lean).
  GIVEN WITH THE SEED: the statements are not yours to turn. If you find one false, say at which input.
  Laid BY PROGRAM, IN A SANDBOX (cutbox-rows.mjs): the forced cells as the released guide's own fill.sh prints them over the translation b7cf38793e4ebcb8… (all of the seat's roots in one cut). By AI agents, Wed Nov 11 2026. No macro, syntax, notation, axiom, sorry.
-/
import Derived.Test.YtjimahagfkpacaaChecked
import GoSem.Claim
import GoSem.ClaimJoined
import GoSem.ClaimMapViews
import Derived.JoinedTies
import Derived.KernelRfl
namespace Go.Proofs.Ytjimahagfkpacaa
/- THE CELL 'sum', in the pinned program and in every row, IS THE sha256 OF THE DUMP (.gsa) THAT YtjimahagfkpacaaProg.lean LOADS. Nothing in Lean hashes anything: it is a label: what it is worth is what the hold of that sum in a sandbox is worth. -/
noncomputable def Try.pinned : Pinned := { name := "ytjimahagfkpacaa", sum := "b7cf38793e4ebcb835f3223013f551fb4d8ac2e9e619aabd5f08dd4a2c6fdadb", checked := Try.checked }
namespace Rows
def none {H : Type} : Left H := { results := [], args := [] }

/-- 'tallagelaw01.NumSums': WHATEVER THE INPUT: true; the input reads as it did. -/
def numSumsSpec : ChangeSpec := { name := "numSums", fn := fun _ => fun
  | [d1, d2] => { results := [.lit (.bool true)], args := [d1, d2] }
  | _ => none }
def numSumsRow : OpenClaim := { program := "ytjimahagfkpacaa", sum := "b7cf38793e4ebcb835f3223013f551fb4d8ac2e9e619aabd5f08dd4a2c6fdadb", func := "tallage/tallagelaw01.NumSums", spec := "numSums", named := ["math/bits.divideError", "math/bits.overflowError"], apart := false }
def NumSumsSaid : Prop := numSumsRow.holds Try.pinned (OpenSpec.ofChange numSumsSpec)

/-- ITS FALSE NEIGHBOUR: 'it returns false'. Refute it at one input. -/
def numSumsWrong : ChangeSpec := { name := "numSums", fn := fun _ => fun
  | [d1, d2] => { results := [.lit (.bool false)], args := [d1, d2] }
  | _ => none }
def NumSumsWrongFalsely : Prop := numSumsRow.holds Try.pinned (OpenSpec.ofChange numSumsWrong)

/-- 'tallagelaw01.NumLists': WHATEVER THE INPUT: true; the input reads as it did. -/
def numListsSpec : ChangeSpec := { name := "numLists", fn := fun _ => fun
  | [d] => { results := [.lit (.bool true)], args := [d] }
  | _ => none }
def numListsRow : OpenClaim := { program := "ytjimahagfkpacaa", sum := "b7cf38793e4ebcb835f3223013f551fb4d8ac2e9e619aabd5f08dd4a2c6fdadb", func := "tallage/tallagelaw01.NumLists", spec := "numLists", inPlace := ["math/bits.Add64"], apart := false }
def NumListsSaid : Prop := numListsRow.holds Try.pinned (OpenSpec.ofChange numListsSpec)

/-- ITS FALSE NEIGHBOUR: 'it returns false'. Refute it at one input. -/
def numListsWrong : ChangeSpec := { name := "numLists", fn := fun _ => fun
  | [d] => { results := [.lit (.bool false)], args := [d] }
  | _ => none }
def NumListsWrongFalsely : Prop := numListsRow.holds Try.pinned (OpenSpec.ofChange numListsWrong)

/-- 'tallagelaw01.NumSplits': WHATEVER THE INPUT: true; the input reads as it did. -/
def numSplitsSpec : ChangeSpec := { name := "numSplits", fn := fun _ => fun
  | [d1, d2] => { results := [.lit (.bool true)], args := [d1, d2] }
  | _ => none }
def numSplitsRow : OpenClaim := { program := "ytjimahagfkpacaa", sum := "b7cf38793e4ebcb835f3223013f551fb4d8ac2e9e619aabd5f08dd4a2c6fdadb", func := "tallage/tallagelaw01.NumSplits", spec := "numSplits", inPlace := ["math/bits.Add64"], unfollowed := true, recurses := true, named := ["math/bits.divideError", "math/bits.overflowError"], apart := false }
def NumSplitsSaid : Prop := numSplitsRow.holds Try.pinned (OpenSpec.ofChange numSplitsSpec)

/-- ITS FALSE NEIGHBOUR: 'it returns false'. Refute it at one input. -/
def numSplitsWrong : ChangeSpec := { name := "numSplits", fn := fun _ => fun
  | [d1, d2] => { results := [.lit (.bool false)], args := [d1, d2] }
  | _ => none }
def NumSplitsWrongFalsely : Prop := numSplitsRow.holds Try.pinned (OpenSpec.ofChange numSplitsWrong)

/-- 'tallagelaw01.NumWhole': WHATEVER THE INPUT: true; the input reads as it did. -/
def numWholeSpec : ChangeSpec := { name := "numWhole", fn := fun _ => fun
  | [d1, d2] => { results := [.lit (.bool true)], args := [d1, d2] }
  | _ => none }
def numWholeRow : OpenClaim := { program := "ytjimahagfkpacaa", sum := "b7cf38793e4ebcb835f3223013f551fb4d8ac2e9e619aabd5f08dd4a2c6fdadb", func := "tallage/tallagelaw01.NumWhole", spec := "numWhole", inPlace := ["math/bits.Add64"], unfollowed := true, recurses := true, named := ["math/bits.divideError", "math/bits.overflowError"], apart := false }
def NumWholeSaid : Prop := numWholeRow.holds Try.pinned (OpenSpec.ofChange numWholeSpec)

/-- ITS FALSE NEIGHBOUR: 'it returns false'. Refute it at one input. -/
def numWholeWrong : ChangeSpec := { name := "numWhole", fn := fun _ => fun
  | [d1, d2] => { results := [.lit (.bool false)], args := [d1, d2] }
  | _ => none }
def NumWholeWrongFalsely : Prop := numWholeRow.holds Try.pinned (OpenSpec.ofChange numWholeWrong)

/-- 'tallagelaw01.NumTurned': WHATEVER THE INPUT: true; the input reads as it did. -/
def numTurnedSpec : ChangeSpec := { name := "numTurned", fn := fun _ => fun
  | [d1, d2] => { results := [.lit (.bool true)], args := [d1, d2] }
  | _ => none }
def numTurnedRow : OpenClaim := { program := "ytjimahagfkpacaa", sum := "b7cf38793e4ebcb835f3223013f551fb4d8ac2e9e619aabd5f08dd4a2c6fdadb", func := "tallage/tallagelaw01.NumTurned", spec := "numTurned", inPlace := ["math/bits.Add64"], apart := false }
def NumTurnedSaid : Prop := numTurnedRow.holds Try.pinned (OpenSpec.ofChange numTurnedSpec)

/-- ITS FALSE NEIGHBOUR: 'it returns false'. Refute it at one input. -/
def numTurnedWrong : ChangeSpec := { name := "numTurned", fn := fun _ => fun
  | [d1, d2] => { results := [.lit (.bool false)], args := [d1, d2] }
  | _ => none }
def NumTurnedWrongFalsely : Prop := numTurnedRow.holds Try.pinned (OpenSpec.ofChange numTurnedWrong)

/-- 'tallagelaw01.NumBack': WHATEVER THE INPUT: true; the input reads as it did. -/
def numBackSpec : ChangeSpec := { name := "numBack", fn := fun _ => fun
  | [d1, d2] => { results := [.lit (.bool true)], args := [d1, d2] }
  | _ => none }
def numBackRow : OpenClaim := { program := "ytjimahagfkpacaa", sum := "b7cf38793e4ebcb835f3223013f551fb4d8ac2e9e619aabd5f08dd4a2c6fdadb", func := "tallage/tallagelaw01.NumBack", spec := "numBack", named := ["math/bits.divideError", "math/bits.overflowError"], apart := false }
def NumBackSaid : Prop := numBackRow.holds Try.pinned (OpenSpec.ofChange numBackSpec)

/-- ITS FALSE NEIGHBOUR: 'it returns false'. Refute it at one input. -/
def numBackWrong : ChangeSpec := { name := "numBack", fn := fun _ => fun
  | [d1, d2] => { results := [.lit (.bool false)], args := [d1, d2] }
  | _ => none }
def NumBackWrongFalsely : Prop := numBackRow.holds Try.pinned (OpenSpec.ofChange numBackWrong)

/- THE SECOND FORM. 'bulk': how many values and letters a reading holds, each counted each time it is reached (what is shared counts as often as it is met; a slice's spare places count too). A statement '..UptoSaid' is the law's where the arguments, and the package variables that the reading takes, are together of bulk at most 1048576: NARROWER than '..Said'. Prove '..Said' where nothing that the law and all that it calls make is longer than what came in: it says more and counts as full. Else prove '..UptoSaid'. A law counts once. -/
mutual
def uptoBulk {H : Type} : DataW H → Nat
  | .lit (.string bytes) => bytes.length + 1
  | .lit _ => 1
  | .nil => 1
  | .ptr d => uptoBulk d + 1
  | .slice elems spare => uptoBulkAll elems + uptoBulkAll spare + 1
  | .agg parts => uptoBulkAll parts + 1
  | .iface _ d => uptoBulk d + 1
  | .map entries => uptoBulkEntries entries + 1
  | .held _ => 1
def uptoBulkAll {H : Type} : List (DataW H) → Nat
  | [] => 0
  | d :: r => uptoBulk d + uptoBulkAll r
def uptoBulkEntries {H : Type} : List (Lit × DataW H) → Nat
  | [] => 0
  | x :: r => uptoBulkEntry x + uptoBulkEntries r
def uptoBulkEntry {H : Type} : Lit × DataW H → Nat
  | (.string bytes, d) => bytes.length + uptoBulk d + 1
  | (_, d) => uptoBulk d + 1
 end
def uptoSmall : (H : Type) → List (DataW H) → Bool := fun _ ds => decide (uptoBulkAll ds ≤ 1048576)
def OpenSpec.upto (s : _root_.Go.ChangeSpec) : _root_.Go.OpenSpec := { _root_.Go.OpenSpec.ofChange s with cond := some uptoSmall }

/-- 'tallagelaw01.NumSums', WHERE WHAT IT READS IS OF BULK AT MOST 1048576: true; the input reads as it did. -/
def numSumsUptoRow : OpenClaim := { program := "ytjimahagfkpacaa", sum := "b7cf38793e4ebcb835f3223013f551fb4d8ac2e9e619aabd5f08dd4a2c6fdadb", func := "tallage/tallagelaw01.NumSums", spec := "numSums", named := ["math/bits.divideError", "math/bits.overflowError"], apart := false, narrowed := true }
def NumSumsUptoSaid : Prop := numSumsUptoRow.holds Try.pinned (OpenSpec.upto numSumsSpec)

/-- 'tallagelaw01.NumLists', WHERE WHAT IT READS IS OF BULK AT MOST 1048576: true; the input reads as it did. -/
def numListsUptoRow : OpenClaim := { program := "ytjimahagfkpacaa", sum := "b7cf38793e4ebcb835f3223013f551fb4d8ac2e9e619aabd5f08dd4a2c6fdadb", func := "tallage/tallagelaw01.NumLists", spec := "numLists", inPlace := ["math/bits.Add64"], apart := false, narrowed := true }
def NumListsUptoSaid : Prop := numListsUptoRow.holds Try.pinned (OpenSpec.upto numListsSpec)

/-- 'tallagelaw01.NumSplits', WHERE WHAT IT READS IS OF BULK AT MOST 1048576: true; the input reads as it did. -/
def numSplitsUptoRow : OpenClaim := { program := "ytjimahagfkpacaa", sum := "b7cf38793e4ebcb835f3223013f551fb4d8ac2e9e619aabd5f08dd4a2c6fdadb", func := "tallage/tallagelaw01.NumSplits", spec := "numSplits", inPlace := ["math/bits.Add64"], unfollowed := true, recurses := true, named := ["math/bits.divideError", "math/bits.overflowError"], apart := false, narrowed := true }
def NumSplitsUptoSaid : Prop := numSplitsUptoRow.holds Try.pinned (OpenSpec.upto numSplitsSpec)

/-- 'tallagelaw01.NumWhole', WHERE WHAT IT READS IS OF BULK AT MOST 1048576: true; the input reads as it did. -/
def numWholeUptoRow : OpenClaim := { program := "ytjimahagfkpacaa", sum := "b7cf38793e4ebcb835f3223013f551fb4d8ac2e9e619aabd5f08dd4a2c6fdadb", func := "tallage/tallagelaw01.NumWhole", spec := "numWhole", inPlace := ["math/bits.Add64"], unfollowed := true, recurses := true, named := ["math/bits.divideError", "math/bits.overflowError"], apart := false, narrowed := true }
def NumWholeUptoSaid : Prop := numWholeUptoRow.holds Try.pinned (OpenSpec.upto numWholeSpec)

/-- 'tallagelaw01.NumTurned', WHERE WHAT IT READS IS OF BULK AT MOST 1048576: true; the input reads as it did. -/
def numTurnedUptoRow : OpenClaim := { program := "ytjimahagfkpacaa", sum := "b7cf38793e4ebcb835f3223013f551fb4d8ac2e9e619aabd5f08dd4a2c6fdadb", func := "tallage/tallagelaw01.NumTurned", spec := "numTurned", inPlace := ["math/bits.Add64"], apart := false, narrowed := true }
def NumTurnedUptoSaid : Prop := numTurnedUptoRow.holds Try.pinned (OpenSpec.upto numTurnedSpec)

/-- 'tallagelaw01.NumBack', WHERE WHAT IT READS IS OF BULK AT MOST 1048576: true; the input reads as it did. -/
def numBackUptoRow : OpenClaim := { program := "ytjimahagfkpacaa", sum := "b7cf38793e4ebcb835f3223013f551fb4d8ac2e9e619aabd5f08dd4a2c6fdadb", func := "tallage/tallagelaw01.NumBack", spec := "numBack", named := ["math/bits.divideError", "math/bits.overflowError"], apart := false, narrowed := true }
def NumBackUptoSaid : Prop := numBackUptoRow.holds Try.pinned (OpenSpec.upto numBackSpec)

end Rows
end Go.Proofs.Ytjimahagfkpacaa
