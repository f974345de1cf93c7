/-
  No cell of these rows narrows 'for every input' (looked for: loops, veiled, ifaces, maps, wideKeys, modest, calm, conditions, laid).
  DERIVED. THE GIVEN ROWS OF THIS SEAT. 4 by the template 'for every input the law returns true; each argument reads behind the call as it read before'; 0 by the template 'total and deterministic' (their statements: YtpgbinijocbfmaaTotals.lean).
  GIVEN WITH THE SEED: the statements are not yours to turn. If you find one false, say at which input.
  Laid BY PROGRAM, IN A SANDBOX (cutbox-rows.mjs): the forced cells as the released guide's own fill.sh prints them over the translation f76ddaf862141c69… (all of the seat's roots in one cut). By AI agents, Wed Nov 11 2026. No macro, syntax, notation, axiom, sorry.
-/
import Derived.Test.YtpgbinijocbfmaaChecked
import GoSem.Claim
import GoSem.ClaimJoined
import GoSem.ClaimMapViews
import Derived.JoinedTies
import Derived.KernelRfl
namespace Go.Proofs.Ytpgbinijocbfmaa
/- THE CELL 'sum', in the pinned program and in every row, IS THE sha256 OF THE DUMP (.gsa) THAT YtpgbinijocbfmaaProg.lean LOADS. Nothing in Lean hashes anything: it is a label: what it is worth is what the hold of that sum in a sandbox is worth. -/
noncomputable def Try.pinned : Pinned := { name := "ytpgbinijocbfmaa", sum := "f76ddaf862141c69b8ccd3e389c74031b431110a6624e0d98d2ff8c9b57b96c6", checked := Try.checked }
namespace Rows
def none {H : Type} : Left H := { results := [], args := [] }

/-- 'tallagelaw08.SkipPuts': WHATEVER THE INPUT: true; the input reads as it did. -/
def skipPutsSpec : ChangeSpec := { name := "skipPuts", fn := fun _ => fun
  | [d] => { results := [.lit (.bool true)], args := [d] }
  | _ => none }
def skipPutsRow : OpenClaim := { program := "ytpgbinijocbfmaa", sum := "f76ddaf862141c69b8ccd3e389c74031b431110a6624e0d98d2ff8c9b57b96c6", func := "tallage/tallagelaw08.SkipPuts", spec := "skipPuts", inPlace := ["internal/bytealg.Compare"], apart := false }
def SkipPutsSaid : Prop := skipPutsRow.holds Try.pinned (OpenSpec.ofChange skipPutsSpec)

/-- ITS FALSE NEIGHBOUR: 'it returns false'. Refute it at one input. -/
def skipPutsWrong : ChangeSpec := { name := "skipPuts", fn := fun _ => fun
  | [d] => { results := [.lit (.bool false)], args := [d] }
  | _ => none }
def SkipPutsWrongFalsely : Prop := skipPutsRow.holds Try.pinned (OpenSpec.ofChange skipPutsWrong)

/-- 'tallagelaw08.SkipAsks': WHATEVER THE INPUT: true; the input reads as it did. -/
def skipAsksSpec : ChangeSpec := { name := "skipAsks", fn := fun _ => fun
  | [d1, d2] => { results := [.lit (.bool true)], args := [d1, d2] }
  | _ => none }
def skipAsksRow : OpenClaim := { program := "ytpgbinijocbfmaa", sum := "f76ddaf862141c69b8ccd3e389c74031b431110a6624e0d98d2ff8c9b57b96c6", func := "tallage/tallagelaw08.SkipAsks", spec := "skipAsks", inPlace := ["internal/bytealg.Compare"], apart := false }
def SkipAsksSaid : Prop := skipAsksRow.holds Try.pinned (OpenSpec.ofChange skipAsksSpec)

/-- ITS FALSE NEIGHBOUR: 'it returns false'. Refute it at one input. -/
def skipAsksWrong : ChangeSpec := { name := "skipAsks", fn := fun _ => fun
  | [d1, d2] => { results := [.lit (.bool false)], args := [d1, d2] }
  | _ => none }
def SkipAsksWrongFalsely : Prop := skipAsksRow.holds Try.pinned (OpenSpec.ofChange skipAsksWrong)

/-- 'tallagelaw08.SkipOwn': WHATEVER THE INPUT: true; the input reads as it did. -/
def skipOwnSpec : ChangeSpec := { name := "skipOwn", fn := fun _ => fun
  | [d1, d2] => { results := [.lit (.bool true)], args := [d1, d2] }
  | _ => none }
def skipOwnRow : OpenClaim := { program := "ytpgbinijocbfmaa", sum := "f76ddaf862141c69b8ccd3e389c74031b431110a6624e0d98d2ff8c9b57b96c6", func := "tallage/tallagelaw08.SkipOwn", spec := "skipOwn", inPlace := ["internal/bytealg.Compare"], apart := false }
def SkipOwnSaid : Prop := skipOwnRow.holds Try.pinned (OpenSpec.ofChange skipOwnSpec)

/-- ITS FALSE NEIGHBOUR: 'it returns false'. Refute it at one input. -/
def skipOwnWrong : ChangeSpec := { name := "skipOwn", fn := fun _ => fun
  | [d1, d2] => { results := [.lit (.bool false)], args := [d1, d2] }
  | _ => none }
def SkipOwnWrongFalsely : Prop := skipOwnRow.holds Try.pinned (OpenSpec.ofChange skipOwnWrong)

/-- 'tallagelaw08.SkipTurned': WHATEVER THE INPUT: true; the input reads as it did. -/
def skipTurnedSpec : ChangeSpec := { name := "skipTurned", fn := fun _ => fun
  | [d1, d2] => { results := [.lit (.bool true)], args := [d1, d2] }
  | _ => none }
def skipTurnedRow : OpenClaim := { program := "ytpgbinijocbfmaa", sum := "f76ddaf862141c69b8ccd3e389c74031b431110a6624e0d98d2ff8c9b57b96c6", func := "tallage/tallagelaw08.SkipTurned", spec := "skipTurned", inPlace := ["internal/bytealg.Compare"], apart := false }
def SkipTurnedSaid : Prop := skipTurnedRow.holds Try.pinned (OpenSpec.ofChange skipTurnedSpec)

/-- ITS FALSE NEIGHBOUR: 'it returns false'. Refute it at one input. -/
def skipTurnedWrong : ChangeSpec := { name := "skipTurned", fn := fun _ => fun
  | [d1, d2] => { results := [.lit (.bool false)], args := [d1, d2] }
  | _ => none }
def SkipTurnedWrongFalsely : Prop := skipTurnedRow.holds Try.pinned (OpenSpec.ofChange skipTurnedWrong)

/- THE SECOND FORM. 'bulk': how many values and letters a reading holds, each counted each time it is reached (what is shared counts as often as it is met; a slice's spare places count too). A statement '..UptoSaid' is the law's where the arguments, and the package variables that the reading takes, are together of bulk at most 1048576: NARROWER than '..Said'. Prove '..Said' where nothing that the law and all that it calls make is longer than what came in: it says more and counts as full. Else prove '..UptoSaid'. A law counts once. -/
mutual
def uptoBulk {H : Type} : DataW H → Nat
  | .lit (.string bytes) => bytes.length + 1
  | .lit _ => 1
  | .nil => 1
  | .ptr d => uptoBulk d + 1
  | .slice elems spare => uptoBulkAll elems + uptoBulkAll spare + 1
  | .agg parts => uptoBulkAll parts + 1
  | .iface _ d => uptoBulk d + 1
  | .map entries => uptoBulkEntries entries + 1
  | .held _ => 1
def uptoBulkAll {H : Type} : List (DataW H) → Nat
  | [] => 0
  | d :: r => uptoBulk d + uptoBulkAll r
def uptoBulkEntries {H : Type} : List (Lit × DataW H) → Nat
  | [] => 0
  | x :: r => uptoBulkEntry x + uptoBulkEntries r
def uptoBulkEntry {H : Type} : Lit × DataW H → Nat
  | (.string bytes, d) => bytes.length + uptoBulk d + 1
  | (_, d) => uptoBulk d + 1
 end
def uptoSmall : (H : Type) → List (DataW H) → Bool := fun _ ds => decide (uptoBulkAll ds ≤ 1048576)
def OpenSpec.upto (s : _root_.Go.ChangeSpec) : _root_.Go.OpenSpec := { _root_.Go.OpenSpec.ofChange s with cond := some uptoSmall }

/-- 'tallagelaw08.SkipPuts', WHERE WHAT IT READS IS OF BULK AT MOST 1048576: true; the input reads as it did. -/
def skipPutsUptoRow : OpenClaim := { program := "ytpgbinijocbfmaa", sum := "f76ddaf862141c69b8ccd3e389c74031b431110a6624e0d98d2ff8c9b57b96c6", func := "tallage/tallagelaw08.SkipPuts", spec := "skipPuts", inPlace := ["internal/bytealg.Compare"], apart := false, narrowed := true }
def SkipPutsUptoSaid : Prop := skipPutsUptoRow.holds Try.pinned (OpenSpec.upto skipPutsSpec)

/-- 'tallagelaw08.SkipAsks', WHERE WHAT IT READS IS OF BULK AT MOST 1048576: true; the input reads as it did. -/
def skipAsksUptoRow : OpenClaim := { program := "ytpgbinijocbfmaa", sum := "f76ddaf862141c69b8ccd3e389c74031b431110a6624e0d98d2ff8c9b57b96c6", func := "tallage/tallagelaw08.SkipAsks", spec := "skipAsks", inPlace := ["internal/bytealg.Compare"], apart := false, narrowed := true }
def SkipAsksUptoSaid : Prop := skipAsksUptoRow.holds Try.pinned (OpenSpec.upto skipAsksSpec)

/-- 'tallagelaw08.SkipOwn', WHERE WHAT IT READS IS OF BULK AT MOST 1048576: true; the input reads as it did. -/
def skipOwnUptoRow : OpenClaim := { program := "ytpgbinijocbfmaa", sum := "f76ddaf862141c69b8ccd3e389c74031b431110a6624e0d98d2ff8c9b57b96c6", func := "tallage/tallagelaw08.SkipOwn", spec := "skipOwn", inPlace := ["internal/bytealg.Compare"], apart := false, narrowed := true }
def SkipOwnUptoSaid : Prop := skipOwnUptoRow.holds Try.pinned (OpenSpec.upto skipOwnSpec)

/-- 'tallagelaw08.SkipTurned', WHERE WHAT IT READS IS OF BULK AT MOST 1048576: true; the input reads as it did. -/
def skipTurnedUptoRow : OpenClaim := { program := "ytpgbinijocbfmaa", sum := "f76ddaf862141c69b8ccd3e389c74031b431110a6624e0d98d2ff8c9b57b96c6", func := "tallage/tallagelaw08.SkipTurned", spec := "skipTurned", inPlace := ["internal/bytealg.Compare"], apart := false, narrowed := true }
def SkipTurnedUptoSaid : Prop := skipTurnedUptoRow.holds Try.pinned (OpenSpec.upto skipTurnedSpec)

end Rows
end Go.Proofs.Ytpgbinijocbfmaa
