/-
  No cell of these rows narrows 'for every input' (looked for: loops, veiled, ifaces, maps, wideKeys, modest, calm, conditions, laid).
  DERIVED. THE GIVEN ROWS OF THIS SEAT. 6 by the template 'for every input the law returns true; each argument reads behind the call as it read before'; 0 by the template 'total and deterministic' (their statements: YtfcemlcocdhmfaaTotals.lean).
  GIVEN WITH THE SEED: the statements are not yours to turn. If you find one false, say at which input.
  Laid BY PROGRAM, IN A SANDBOX (cutbox-rows.mjs): the forced cells as the released guide's own fill.sh prints them over the translation ddd29037791e0b1a… (all of the seat's roots in one cut). By AI agents, Wed Nov 11 2026. No macro, syntax, notation, axiom, sorry.
-/
import Derived.Test.YtfcemlcocdhmfaaChecked
import GoSem.Claim
import GoSem.ClaimJoined
import GoSem.ClaimMapViews
import Derived.JoinedTies
import Derived.KernelRfl
namespace Go.Proofs.Ytfcemlcocdhmfaa
/- THE CELL 'sum', in the pinned program and in every row, IS THE sha256 OF THE DUMP (.gsa) THAT YtfcemlcocdhmfaaProg.lean LOADS. Nothing in Lean hashes anything: it is a label: what it is worth is what the hold of that sum in a sandbox is worth. -/
noncomputable def Try.pinned : Pinned := { name := "ytfcemlcocdhmfaa", sum := "ddd29037791e0b1a1ac3eb3784615683d45138f66441753f24ff34c29388aa54", checked := Try.checked }
namespace Rows
def none {H : Type} : Left H := { results := [], args := [] }

/-- 'tallagelaw12.MergeAll': WHATEVER THE INPUT: true; the input reads as it did. -/
def mergeAllSpec : ChangeSpec := { name := "mergeAll", fn := fun _ => fun
  | [d] => { results := [.lit (.bool true)], args := [d] }
  | _ => none }
def mergeAllRow : OpenClaim := { program := "ytfcemlcocdhmfaa", sum := "ddd29037791e0b1a1ac3eb3784615683d45138f66441753f24ff34c29388aa54", func := "tallage/tallagelaw12.MergeAll", spec := "mergeAll", inPlace := ["internal/bytealg.Compare"], unfollowed := true, recurses := true, apart := false }
def MergeAllSaid : Prop := mergeAllRow.holds Try.pinned (OpenSpec.ofChange mergeAllSpec)

/-- ITS FALSE NEIGHBOUR: 'it returns false'. Refute it at one input. -/
def mergeAllWrong : ChangeSpec := { name := "mergeAll", fn := fun _ => fun
  | [d] => { results := [.lit (.bool false)], args := [d] }
  | _ => none }
def MergeAllWrongFalsely : Prop := mergeAllRow.holds Try.pinned (OpenSpec.ofChange mergeAllWrong)

/-- 'tallagelaw12.MergeTurned': WHATEVER THE INPUT: true; the input reads as it did. -/
def mergeTurnedSpec : ChangeSpec := { name := "mergeTurned", fn := fun _ => fun
  | [d1, d2] => { results := [.lit (.bool true)], args := [d1, d2] }
  | _ => none }
def mergeTurnedRow : OpenClaim := { program := "ytfcemlcocdhmfaa", sum := "ddd29037791e0b1a1ac3eb3784615683d45138f66441753f24ff34c29388aa54", func := "tallage/tallagelaw12.MergeTurned", spec := "mergeTurned", inPlace := ["internal/bytealg.Compare"], unfollowed := true, recurses := true, apart := false }
def MergeTurnedSaid : Prop := mergeTurnedRow.holds Try.pinned (OpenSpec.ofChange mergeTurnedSpec)

/-- ITS FALSE NEIGHBOUR: 'it returns false'. Refute it at one input. -/
def mergeTurnedWrong : ChangeSpec := { name := "mergeTurned", fn := fun _ => fun
  | [d1, d2] => { results := [.lit (.bool false)], args := [d1, d2] }
  | _ => none }
def MergeTurnedWrongFalsely : Prop := mergeTurnedRow.holds Try.pinned (OpenSpec.ofChange mergeTurnedWrong)

/-- 'tallagelaw12.MergeAt': WHATEVER THE INPUT: true; the input reads as it did. -/
def mergeAtSpec : ChangeSpec := { name := "mergeAt", fn := fun _ => fun
  | [d1, d2] => { results := [.lit (.bool true)], args := [d1, d2] }
  | _ => none }
def mergeAtRow : OpenClaim := { program := "ytfcemlcocdhmfaa", sum := "ddd29037791e0b1a1ac3eb3784615683d45138f66441753f24ff34c29388aa54", func := "tallage/tallagelaw12.MergeAt", spec := "mergeAt", inPlace := ["internal/bytealg.Compare"], unfollowed := true, recurses := true, apart := false }
def MergeAtSaid : Prop := mergeAtRow.holds Try.pinned (OpenSpec.ofChange mergeAtSpec)

/-- ITS FALSE NEIGHBOUR: 'it returns false'. Refute it at one input. -/
def mergeAtWrong : ChangeSpec := { name := "mergeAt", fn := fun _ => fun
  | [d1, d2] => { results := [.lit (.bool false)], args := [d1, d2] }
  | _ => none }
def MergeAtWrongFalsely : Prop := mergeAtRow.holds Try.pinned (OpenSpec.ofChange mergeAtWrong)

/-- 'tallagelaw12.MergeKeeps': WHATEVER THE INPUT: true; the input reads as it did. -/
def mergeKeepsSpec : ChangeSpec := { name := "mergeKeeps", fn := fun _ => fun
  | [d1, d2, d3] => { results := [.lit (.bool true)], args := [d1, d2, d3] }
  | _ => none }
def mergeKeepsRow : OpenClaim := { program := "ytfcemlcocdhmfaa", sum := "ddd29037791e0b1a1ac3eb3784615683d45138f66441753f24ff34c29388aa54", func := "tallage/tallagelaw12.MergeKeeps", spec := "mergeKeeps", inPlace := ["internal/bytealg.Compare"], unfollowed := true, recurses := true, apart := false }
def MergeKeepsSaid : Prop := mergeKeepsRow.holds Try.pinned (OpenSpec.ofChange mergeKeepsSpec)

/-- ITS FALSE NEIGHBOUR: 'it returns false'. Refute it at one input. -/
def mergeKeepsWrong : ChangeSpec := { name := "mergeKeeps", fn := fun _ => fun
  | [d1, d2, d3] => { results := [.lit (.bool false)], args := [d1, d2, d3] }
  | _ => none }
def MergeKeepsWrongFalsely : Prop := mergeKeepsRow.holds Try.pinned (OpenSpec.ofChange mergeKeepsWrong)

/-- 'tallagelaw12.MergeSame': WHATEVER THE INPUT: true; the input reads as it did. -/
def mergeSameSpec : ChangeSpec := { name := "mergeSame", fn := fun _ => fun
  | [d1, d2, d3] => { results := [.lit (.bool true)], args := [d1, d2, d3] }
  | _ => none }
def mergeSameRow : OpenClaim := { program := "ytfcemlcocdhmfaa", sum := "ddd29037791e0b1a1ac3eb3784615683d45138f66441753f24ff34c29388aa54", func := "tallage/tallagelaw12.MergeSame", spec := "mergeSame", inPlace := ["internal/bytealg.Compare"], unfollowed := true, recurses := true, apart := false }
def MergeSameSaid : Prop := mergeSameRow.holds Try.pinned (OpenSpec.ofChange mergeSameSpec)

/-- ITS FALSE NEIGHBOUR: 'it returns false'. Refute it at one input. -/
def mergeSameWrong : ChangeSpec := { name := "mergeSame", fn := fun _ => fun
  | [d1, d2, d3] => { results := [.lit (.bool false)], args := [d1, d2, d3] }
  | _ => none }
def MergeSameWrongFalsely : Prop := mergeSameRow.holds Try.pinned (OpenSpec.ofChange mergeSameWrong)

/-- 'tallagelaw12.MergeBelow': WHATEVER THE INPUT: true; the input reads as it did. -/
def mergeBelowSpec : ChangeSpec := { name := "mergeBelow", fn := fun _ => fun
  | [d1, d2, d3] => { results := [.lit (.bool true)], args := [d1, d2, d3] }
  | _ => none }
def mergeBelowRow : OpenClaim := { program := "ytfcemlcocdhmfaa", sum := "ddd29037791e0b1a1ac3eb3784615683d45138f66441753f24ff34c29388aa54", func := "tallage/tallagelaw12.MergeBelow", spec := "mergeBelow", inPlace := ["internal/bytealg.Compare"], unfollowed := true, recurses := true, apart := false }
def MergeBelowSaid : Prop := mergeBelowRow.holds Try.pinned (OpenSpec.ofChange mergeBelowSpec)

/-- ITS FALSE NEIGHBOUR: 'it returns false'. Refute it at one input. -/
def mergeBelowWrong : ChangeSpec := { name := "mergeBelow", fn := fun _ => fun
  | [d1, d2, d3] => { results := [.lit (.bool false)], args := [d1, d2, d3] }
  | _ => none }
def MergeBelowWrongFalsely : Prop := mergeBelowRow.holds Try.pinned (OpenSpec.ofChange mergeBelowWrong)

/- THE SECOND FORM. 'bulk': how many values and letters a reading holds, each counted each time it is reached (what is shared counts as often as it is met; a slice's spare places count too). A statement '..UptoSaid' is the law's where the arguments, and the package variables that the reading takes, are together of bulk at most 1048576: NARROWER than '..Said'. Prove '..Said' where nothing that the law and all that it calls make is longer than what came in: it says more and counts as full. Else prove '..UptoSaid'. A law counts once. -/
mutual
def uptoBulk {H : Type} : DataW H → Nat
  | .lit (.string bytes) => bytes.length + 1
  | .lit _ => 1
  | .nil => 1
  | .ptr d => uptoBulk d + 1
  | .slice elems spare => uptoBulkAll elems + uptoBulkAll spare + 1
  | .agg parts => uptoBulkAll parts + 1
  | .iface _ d => uptoBulk d + 1
  | .map entries => uptoBulkEntries entries + 1
  | .held _ => 1
def uptoBulkAll {H : Type} : List (DataW H) → Nat
  | [] => 0
  | d :: r => uptoBulk d + uptoBulkAll r
def uptoBulkEntries {H : Type} : List (Lit × DataW H) → Nat
  | [] => 0
  | x :: r => uptoBulkEntry x + uptoBulkEntries r
def uptoBulkEntry {H : Type} : Lit × DataW H → Nat
  | (.string bytes, d) => bytes.length + uptoBulk d + 1
  | (_, d) => uptoBulk d + 1
 end
def uptoSmall : (H : Type) → List (DataW H) → Bool := fun _ ds => decide (uptoBulkAll ds ≤ 1048576)
def OpenSpec.upto (s : _root_.Go.ChangeSpec) : _root_.Go.OpenSpec := { _root_.Go.OpenSpec.ofChange s with cond := some uptoSmall }

/-- 'tallagelaw12.MergeAll', WHERE WHAT IT READS IS OF BULK AT MOST 1048576: true; the input reads as it did. -/
def mergeAllUptoRow : OpenClaim := { program := "ytfcemlcocdhmfaa", sum := "ddd29037791e0b1a1ac3eb3784615683d45138f66441753f24ff34c29388aa54", func := "tallage/tallagelaw12.MergeAll", spec := "mergeAll", inPlace := ["internal/bytealg.Compare"], unfollowed := true, recurses := true, apart := false, narrowed := true }
def MergeAllUptoSaid : Prop := mergeAllUptoRow.holds Try.pinned (OpenSpec.upto mergeAllSpec)

/-- 'tallagelaw12.MergeTurned', WHERE WHAT IT READS IS OF BULK AT MOST 1048576: true; the input reads as it did. -/
def mergeTurnedUptoRow : OpenClaim := { program := "ytfcemlcocdhmfaa", sum := "ddd29037791e0b1a1ac3eb3784615683d45138f66441753f24ff34c29388aa54", func := "tallage/tallagelaw12.MergeTurned", spec := "mergeTurned", inPlace := ["internal/bytealg.Compare"], unfollowed := true, recurses := true, apart := false, narrowed := true }
def MergeTurnedUptoSaid : Prop := mergeTurnedUptoRow.holds Try.pinned (OpenSpec.upto mergeTurnedSpec)

/-- 'tallagelaw12.MergeAt', WHERE WHAT IT READS IS OF BULK AT MOST 1048576: true; the input reads as it did. -/
def mergeAtUptoRow : OpenClaim := { program := "ytfcemlcocdhmfaa", sum := "ddd29037791e0b1a1ac3eb3784615683d45138f66441753f24ff34c29388aa54", func := "tallage/tallagelaw12.MergeAt", spec := "mergeAt", inPlace := ["internal/bytealg.Compare"], unfollowed := true, recurses := true, apart := false, narrowed := true }
def MergeAtUptoSaid : Prop := mergeAtUptoRow.holds Try.pinned (OpenSpec.upto mergeAtSpec)

/-- 'tallagelaw12.MergeKeeps', WHERE WHAT IT READS IS OF BULK AT MOST 1048576: true; the input reads as it did. -/
def mergeKeepsUptoRow : OpenClaim := { program := "ytfcemlcocdhmfaa", sum := "ddd29037791e0b1a1ac3eb3784615683d45138f66441753f24ff34c29388aa54", func := "tallage/tallagelaw12.MergeKeeps", spec := "mergeKeeps", inPlace := ["internal/bytealg.Compare"], unfollowed := true, recurses := true, apart := false, narrowed := true }
def MergeKeepsUptoSaid : Prop := mergeKeepsUptoRow.holds Try.pinned (OpenSpec.upto mergeKeepsSpec)

/-- 'tallagelaw12.MergeSame', WHERE WHAT IT READS IS OF BULK AT MOST 1048576: true; the input reads as it did. -/
def mergeSameUptoRow : OpenClaim := { program := "ytfcemlcocdhmfaa", sum := "ddd29037791e0b1a1ac3eb3784615683d45138f66441753f24ff34c29388aa54", func := "tallage/tallagelaw12.MergeSame", spec := "mergeSame", inPlace := ["internal/bytealg.Compare"], unfollowed := true, recurses := true, apart := false, narrowed := true }
def MergeSameUptoSaid : Prop := mergeSameUptoRow.holds Try.pinned (OpenSpec.upto mergeSameSpec)

/-- 'tallagelaw12.MergeBelow', WHERE WHAT IT READS IS OF BULK AT MOST 1048576: true; the input reads as it did. -/
def mergeBelowUptoRow : OpenClaim := { program := "ytfcemlcocdhmfaa", sum := "ddd29037791e0b1a1ac3eb3784615683d45138f66441753f24ff34c29388aa54", func := "tallage/tallagelaw12.MergeBelow", spec := "mergeBelow", inPlace := ["internal/bytealg.Compare"], unfollowed := true, recurses := true, apart := false, narrowed := true }
def MergeBelowUptoSaid : Prop := mergeBelowUptoRow.holds Try.pinned (OpenSpec.upto mergeBelowSpec)

end Rows
end Go.Proofs.Ytfcemlcocdhmfaa
