/-
  No cell of these rows narrows 'for every input' (looked for: loops, veiled, ifaces, maps, wideKeys, modest, calm, conditions, laid).
  DERIVED. THE GIVEN ROWS OF THIS SEAT. 6 by the template 'for every input the law returns true; each argument reads behind the call as it read before'; 0 by the template 'total and deterministic' (their statements: YtcojckgmmklffaaTotals.lean).
  GIVEN WITH THE SEED: the statements are not yours to turn. If you find one false, say at which input.
  Laid BY PROGRAM, IN A SANDBOX (cutbox-rows.mjs): the forced cells as the released guide's own fill.sh prints them over the translation bbaa127d235e98b9… (all of the seat's roots in one cut). By AI agents, Wed Nov 11 2026. No macro, syntax, notation, axiom, sorry.
-/
import Derived.Test.YtcojckgmmklffaaChecked
import GoSem.Claim
import GoSem.ClaimJoined
import GoSem.ClaimMapViews
import Derived.JoinedTies
import Derived.KernelRfl
namespace Go.Proofs.Ytcojckgmmklffaa
/- THE CELL 'sum', in the pinned program and in every row, IS THE sha256 OF THE DUMP (.gsa) THAT YtcojckgmmklffaaProg.lean LOADS. Nothing in Lean hashes anything: it is a label: what it is worth is what the hold of that sum in a sandbox is worth. -/
noncomputable def Try.pinned : Pinned := { name := "ytcojckgmmklffaa", sum := "bbaa127d235e98b9c3dab445503272bd241e4cc6c976c02ea35858a07d759a17", checked := Try.checked }
namespace Rows
def none {H : Type} : Left H := { results := [], args := [] }

/-- 'tallagelaw17.AllocOrders': WHATEVER THE INPUT: true; the input reads as it did. -/
def allocOrdersSpec : ChangeSpec := { name := "allocOrders", fn := fun _ => fun
  | [d] => { results := [.lit (.bool true)], args := [d] }
  | _ => none }
def allocOrdersRow : OpenClaim := { program := "ytcojckgmmklffaa", sum := "bbaa127d235e98b9c3dab445503272bd241e4cc6c976c02ea35858a07d759a17", func := "tallage/tallagelaw17.AllocOrders", spec := "allocOrders", inPlace := ["math/bits.Add64"], unfollowed := true, recurses := true, apart := false }
def AllocOrdersSaid : Prop := allocOrdersRow.holds Try.pinned (OpenSpec.ofChange allocOrdersSpec)

/-- ITS FALSE NEIGHBOUR: 'it returns false'. Refute it at one input. -/
def allocOrdersWrong : ChangeSpec := { name := "allocOrders", fn := fun _ => fun
  | [d] => { results := [.lit (.bool false)], args := [d] }
  | _ => none }
def AllocOrdersWrongFalsely : Prop := allocOrdersRow.holds Try.pinned (OpenSpec.ofChange allocOrdersWrong)

/-- 'tallagelaw17.AllocPays': WHATEVER THE INPUT: true; the input reads as it did. -/
def allocPaysSpec : ChangeSpec := { name := "allocPays", fn := fun _ => fun
  | [d1, d2] => { results := [.lit (.bool true)], args := [d1, d2] }
  | _ => none }
def allocPaysRow : OpenClaim := { program := "ytcojckgmmklffaa", sum := "bbaa127d235e98b9c3dab445503272bd241e4cc6c976c02ea35858a07d759a17", func := "tallage/tallagelaw17.AllocPays", spec := "allocPays", unfollowed := true, recurses := true, apart := false }
def AllocPaysSaid : Prop := allocPaysRow.holds Try.pinned (OpenSpec.ofChange allocPaysSpec)

/-- ITS FALSE NEIGHBOUR: 'it returns false'. Refute it at one input. -/
def allocPaysWrong : ChangeSpec := { name := "allocPays", fn := fun _ => fun
  | [d1, d2] => { results := [.lit (.bool false)], args := [d1, d2] }
  | _ => none }
def AllocPaysWrongFalsely : Prop := allocPaysRow.holds Try.pinned (OpenSpec.ofChange allocPaysWrong)

/-- 'tallagelaw17.AllocOnly': WHATEVER THE INPUT: true; the input reads as it did. -/
def allocOnlySpec : ChangeSpec := { name := "allocOnly", fn := fun _ => fun
  | [d1, d2] => { results := [.lit (.bool true)], args := [d1, d2] }
  | _ => none }
def allocOnlyRow : OpenClaim := { program := "ytcojckgmmklffaa", sum := "bbaa127d235e98b9c3dab445503272bd241e4cc6c976c02ea35858a07d759a17", func := "tallage/tallagelaw17.AllocOnly", spec := "allocOnly", unfollowed := true, recurses := true, apart := false }
def AllocOnlySaid : Prop := allocOnlyRow.holds Try.pinned (OpenSpec.ofChange allocOnlySpec)

/-- ITS FALSE NEIGHBOUR: 'it returns false'. Refute it at one input. -/
def allocOnlyWrong : ChangeSpec := { name := "allocOnly", fn := fun _ => fun
  | [d1, d2] => { results := [.lit (.bool false)], args := [d1, d2] }
  | _ => none }
def AllocOnlyWrongFalsely : Prop := allocOnlyRow.holds Try.pinned (OpenSpec.ofChange allocOnlyWrong)

/-- 'tallagelaw17.AllocTwice': WHATEVER THE INPUT: true; the input reads as it did. -/
def allocTwiceSpec : ChangeSpec := { name := "allocTwice", fn := fun _ => fun
  | [d1, d2, d3] => { results := [.lit (.bool true)], args := [d1, d2, d3] }
  | _ => none }
def allocTwiceRow : OpenClaim := { program := "ytcojckgmmklffaa", sum := "bbaa127d235e98b9c3dab445503272bd241e4cc6c976c02ea35858a07d759a17", func := "tallage/tallagelaw17.AllocTwice", spec := "allocTwice", unfollowed := true, recurses := true, apart := false }
def AllocTwiceSaid : Prop := allocTwiceRow.holds Try.pinned (OpenSpec.ofChange allocTwiceSpec)

/-- ITS FALSE NEIGHBOUR: 'it returns false'. Refute it at one input. -/
def allocTwiceWrong : ChangeSpec := { name := "allocTwice", fn := fun _ => fun
  | [d1, d2, d3] => { results := [.lit (.bool false)], args := [d1, d2, d3] }
  | _ => none }
def AllocTwiceWrongFalsely : Prop := allocTwiceRow.holds Try.pinned (OpenSpec.ofChange allocTwiceWrong)

/-- 'tallagelaw17.AllocTurned': WHATEVER THE INPUT: true; the input reads as it did. -/
def allocTurnedSpec : ChangeSpec := { name := "allocTurned", fn := fun _ => fun
  | [d1, d2] => { results := [.lit (.bool true)], args := [d1, d2] }
  | _ => none }
def allocTurnedRow : OpenClaim := { program := "ytcojckgmmklffaa", sum := "bbaa127d235e98b9c3dab445503272bd241e4cc6c976c02ea35858a07d759a17", func := "tallage/tallagelaw17.AllocTurned", spec := "allocTurned", unfollowed := true, recurses := true, apart := false }
def AllocTurnedSaid : Prop := allocTurnedRow.holds Try.pinned (OpenSpec.ofChange allocTurnedSpec)

/-- ITS FALSE NEIGHBOUR: 'it returns false'. Refute it at one input. -/
def allocTurnedWrong : ChangeSpec := { name := "allocTurned", fn := fun _ => fun
  | [d1, d2] => { results := [.lit (.bool false)], args := [d1, d2] }
  | _ => none }
def AllocTurnedWrongFalsely : Prop := allocTurnedRow.holds Try.pinned (OpenSpec.ofChange allocTurnedWrong)

/-- 'tallagelaw17.AllocAll': WHATEVER THE INPUT: true; the input reads as it did. -/
def allocAllSpec : ChangeSpec := { name := "allocAll", fn := fun _ => fun
  | [d] => { results := [.lit (.bool true)], args := [d] }
  | _ => none }
def allocAllRow : OpenClaim := { program := "ytcojckgmmklffaa", sum := "bbaa127d235e98b9c3dab445503272bd241e4cc6c976c02ea35858a07d759a17", func := "tallage/tallagelaw17.AllocAll", spec := "allocAll", inPlace := ["math/bits.Add64"], unfollowed := true, recurses := true, apart := false }
def AllocAllSaid : Prop := allocAllRow.holds Try.pinned (OpenSpec.ofChange allocAllSpec)

/-- ITS FALSE NEIGHBOUR: 'it returns false'. Refute it at one input. -/
def allocAllWrong : ChangeSpec := { name := "allocAll", fn := fun _ => fun
  | [d] => { results := [.lit (.bool false)], args := [d] }
  | _ => none }
def AllocAllWrongFalsely : Prop := allocAllRow.holds Try.pinned (OpenSpec.ofChange allocAllWrong)

/- THE SECOND FORM. 'bulk': how many values and letters a reading holds, each counted each time it is reached (what is shared counts as often as it is met; a slice's spare places count too). A statement '..UptoSaid' is the law's where the arguments, and the package variables that the reading takes, are together of bulk at most 1048576: NARROWER than '..Said'. Prove '..Said' where nothing that the law and all that it calls make is longer than what came in: it says more and counts as full. Else prove '..UptoSaid'. A law counts once. -/
mutual
def uptoBulk {H : Type} : DataW H → Nat
  | .lit (.string bytes) => bytes.length + 1
  | .lit _ => 1
  | .nil => 1
  | .ptr d => uptoBulk d + 1
  | .slice elems spare => uptoBulkAll elems + uptoBulkAll spare + 1
  | .agg parts => uptoBulkAll parts + 1
  | .iface _ d => uptoBulk d + 1
  | .map entries => uptoBulkEntries entries + 1
  | .held _ => 1
def uptoBulkAll {H : Type} : List (DataW H) → Nat
  | [] => 0
  | d :: r => uptoBulk d + uptoBulkAll r
def uptoBulkEntries {H : Type} : List (Lit × DataW H) → Nat
  | [] => 0
  | x :: r => uptoBulkEntry x + uptoBulkEntries r
def uptoBulkEntry {H : Type} : Lit × DataW H → Nat
  | (.string bytes, d) => bytes.length + uptoBulk d + 1
  | (_, d) => uptoBulk d + 1
 end
def uptoSmall : (H : Type) → List (DataW H) → Bool := fun _ ds => decide (uptoBulkAll ds ≤ 1048576)
def OpenSpec.upto (s : _root_.Go.ChangeSpec) : _root_.Go.OpenSpec := { _root_.Go.OpenSpec.ofChange s with cond := some uptoSmall }

/-- 'tallagelaw17.AllocOrders', WHERE WHAT IT READS IS OF BULK AT MOST 1048576: true; the input reads as it did. -/
def allocOrdersUptoRow : OpenClaim := { program := "ytcojckgmmklffaa", sum := "bbaa127d235e98b9c3dab445503272bd241e4cc6c976c02ea35858a07d759a17", func := "tallage/tallagelaw17.AllocOrders", spec := "allocOrders", inPlace := ["math/bits.Add64"], unfollowed := true, recurses := true, apart := false, narrowed := true }
def AllocOrdersUptoSaid : Prop := allocOrdersUptoRow.holds Try.pinned (OpenSpec.upto allocOrdersSpec)

/-- 'tallagelaw17.AllocPays', WHERE WHAT IT READS IS OF BULK AT MOST 1048576: true; the input reads as it did. -/
def allocPaysUptoRow : OpenClaim := { program := "ytcojckgmmklffaa", sum := "bbaa127d235e98b9c3dab445503272bd241e4cc6c976c02ea35858a07d759a17", func := "tallage/tallagelaw17.AllocPays", spec := "allocPays", unfollowed := true, recurses := true, apart := false, narrowed := true }
def AllocPaysUptoSaid : Prop := allocPaysUptoRow.holds Try.pinned (OpenSpec.upto allocPaysSpec)

/-- 'tallagelaw17.AllocOnly', WHERE WHAT IT READS IS OF BULK AT MOST 1048576: true; the input reads as it did. -/
def allocOnlyUptoRow : OpenClaim := { program := "ytcojckgmmklffaa", sum := "bbaa127d235e98b9c3dab445503272bd241e4cc6c976c02ea35858a07d759a17", func := "tallage/tallagelaw17.AllocOnly", spec := "allocOnly", unfollowed := true, recurses := true, apart := false, narrowed := true }
def AllocOnlyUptoSaid : Prop := allocOnlyUptoRow.holds Try.pinned (OpenSpec.upto allocOnlySpec)

/-- 'tallagelaw17.AllocTwice', WHERE WHAT IT READS IS OF BULK AT MOST 1048576: true; the input reads as it did. -/
def allocTwiceUptoRow : OpenClaim := { program := "ytcojckgmmklffaa", sum := "bbaa127d235e98b9c3dab445503272bd241e4cc6c976c02ea35858a07d759a17", func := "tallage/tallagelaw17.AllocTwice", spec := "allocTwice", unfollowed := true, recurses := true, apart := false, narrowed := true }
def AllocTwiceUptoSaid : Prop := allocTwiceUptoRow.holds Try.pinned (OpenSpec.upto allocTwiceSpec)

/-- 'tallagelaw17.AllocTurned', WHERE WHAT IT READS IS OF BULK AT MOST 1048576: true; the input reads as it did. -/
def allocTurnedUptoRow : OpenClaim := { program := "ytcojckgmmklffaa", sum := "bbaa127d235e98b9c3dab445503272bd241e4cc6c976c02ea35858a07d759a17", func := "tallage/tallagelaw17.AllocTurned", spec := "allocTurned", unfollowed := true, recurses := true, apart := false, narrowed := true }
def AllocTurnedUptoSaid : Prop := allocTurnedUptoRow.holds Try.pinned (OpenSpec.upto allocTurnedSpec)

/-- 'tallagelaw17.AllocAll', WHERE WHAT IT READS IS OF BULK AT MOST 1048576: true; the input reads as it did. -/
def allocAllUptoRow : OpenClaim := { program := "ytcojckgmmklffaa", sum := "bbaa127d235e98b9c3dab445503272bd241e4cc6c976c02ea35858a07d759a17", func := "tallage/tallagelaw17.AllocAll", spec := "allocAll", inPlace := ["math/bits.Add64"], unfollowed := true, recurses := true, apart := false, narrowed := true }
def AllocAllUptoSaid : Prop := allocAllUptoRow.holds Try.pinned (OpenSpec.upto allocAllSpec)

end Rows
end Go.Proofs.Ytcojckgmmklffaa
