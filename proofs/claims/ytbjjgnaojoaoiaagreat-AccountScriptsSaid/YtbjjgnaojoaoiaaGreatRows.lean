/-
  No cell of these rows narrows 'for every input' (looked for: loops, veiled, ifaces, maps, wideKeys, modest, calm, conditions, laid).
  DERIVED. THE GIVEN ROWS OF THIS SEAT. 7 by the template 'for every input the law returns true; each argument reads behind the call as it read before'; 0 by the template 'total and deterministic' (their statements: YtbjjgnaojoaoiaaGreatTotals.lean).
  GIVEN WITH THE SEED: the statements are not yours to turn. If you find one false, say at which input.
  Laid BY PROGRAM, IN A SANDBOX (cutbox-rows.mjs): the forced cells as the released guide's own fill.sh prints them over the translation 42934ab6d0c757e1… (all of the seat's roots in one cut). By AI agents, Wed Nov 11 2026. No macro, syntax, notation, axiom, sorry.
-/
import Derived.Test.YtbjjgnaojoaoiaaGreatChecked
import GoSem.Claim
import GoSem.ClaimJoined
import GoSem.ClaimMapViews
import Derived.JoinedTies
import Derived.KernelRfl
namespace Go.Proofs.YtbjjgnaojoaoiaaGreat
/- THE CELL 'sum', in the pinned program and in every row, IS THE sha256 OF THE DUMP (.gsa) THAT YtbjjgnaojoaoiaaGreatProg.lean LOADS. Nothing in Lean hashes anything: it is a label: what it is worth is what the hold of that sum in a sandbox is worth. -/
noncomputable def Tryz.pinned : Pinned := { name := "ytbjjgnaojoaoiaagreat", sum := "42934ab6d0c757e1e69ba796a2451ee1ca5fc54f743d320b9180fa53753a3f9f", checked := Tryz.checked }
namespace Rows
def none {H : Type} : Left H := { results := [], args := [] }

/-- 'tallagetop.TopPaid': WHATEVER THE INPUT: true; the input reads as it did. -/
def topPaidSpec : ChangeSpec := { name := "topPaid", fn := fun _ => fun
  | [d1, d2, d3] => { results := [.lit (.bool true)], args := [d1, d2, d3] }
  | _ => none }
def topPaidRow : OpenClaim := { program := "ytbjjgnaojoaoiaagreat", sum := "42934ab6d0c757e1e69ba796a2451ee1ca5fc54f743d320b9180fa53753a3f9f", func := "tallage/tallagetop.TopPaid", spec := "topPaid", inPlace := ["slices.overlaps[tallage/account.period]", "math/bits.Add64"], unfollowed := true, recurses := true, named := ["math/bits.divideError", "math/bits.overflowError"], apart := false }
def TopPaidSaid : Prop := topPaidRow.holds Tryz.pinned (OpenSpec.ofChange topPaidSpec)

/-- ITS FALSE NEIGHBOUR: 'it returns false'. Refute it at one input. -/
def topPaidWrong : ChangeSpec := { name := "topPaid", fn := fun _ => fun
  | [d1, d2, d3] => { results := [.lit (.bool false)], args := [d1, d2, d3] }
  | _ => none }
def TopPaidWrongFalsely : Prop := topPaidRow.holds Tryz.pinned (OpenSpec.ofChange topPaidWrong)

/-- 'tallagelaw21.AccountOrder': WHATEVER THE INPUT: true; the input reads as it did. -/
def accountOrderSpec : ChangeSpec := { name := "accountOrder", fn := fun _ => fun
  | [d1, d2] => { results := [.lit (.bool true)], args := [d1, d2] }
  | _ => none }
def accountOrderRow : OpenClaim := { program := "ytbjjgnaojoaoiaagreat", sum := "42934ab6d0c757e1e69ba796a2451ee1ca5fc54f743d320b9180fa53753a3f9f", func := "tallage/tallagelaw21.AccountOrder", spec := "accountOrder", inPlace := ["slices.overlaps[tallage/account.period]"], unfollowed := true, recurses := true, named := ["math/bits.divideError", "math/bits.overflowError"], apart := false }
def AccountOrderSaid : Prop := accountOrderRow.holds Tryz.pinned (OpenSpec.ofChange accountOrderSpec)

/-- ITS FALSE NEIGHBOUR: 'it returns false'. Refute it at one input. -/
def accountOrderWrong : ChangeSpec := { name := "accountOrder", fn := fun _ => fun
  | [d1, d2] => { results := [.lit (.bool false)], args := [d1, d2] }
  | _ => none }
def AccountOrderWrongFalsely : Prop := accountOrderRow.holds Tryz.pinned (OpenSpec.ofChange accountOrderWrong)

/-- 'tallagelaw21.AccountSums': WHATEVER THE INPUT: true; the input reads as it did. -/
def accountSumsSpec : ChangeSpec := { name := "accountSums", fn := fun _ => fun
  | [d1, d2, d3] => { results := [.lit (.bool true)], args := [d1, d2, d3] }
  | _ => none }
def accountSumsRow : OpenClaim := { program := "ytbjjgnaojoaoiaagreat", sum := "42934ab6d0c757e1e69ba796a2451ee1ca5fc54f743d320b9180fa53753a3f9f", func := "tallage/tallagelaw21.AccountSums", spec := "accountSums", inPlace := ["slices.overlaps[tallage/account.period]"], unfollowed := true, recurses := true, named := ["math/bits.divideError", "math/bits.overflowError"], apart := false }
def AccountSumsSaid : Prop := accountSumsRow.holds Tryz.pinned (OpenSpec.ofChange accountSumsSpec)

/-- ITS FALSE NEIGHBOUR: 'it returns false'. Refute it at one input. -/
def accountSumsWrong : ChangeSpec := { name := "accountSums", fn := fun _ => fun
  | [d1, d2, d3] => { results := [.lit (.bool false)], args := [d1, d2, d3] }
  | _ => none }
def AccountSumsWrongFalsely : Prop := accountSumsRow.holds Tryz.pinned (OpenSpec.ofChange accountSumsWrong)

/-- 'tallagelaw21.AccountCredit': WHATEVER THE INPUT: true; the input reads as it did. -/
def accountCreditSpec : ChangeSpec := { name := "accountCredit", fn := fun _ => fun
  | [d1, d2, d3] => { results := [.lit (.bool true)], args := [d1, d2, d3] }
  | _ => none }
def accountCreditRow : OpenClaim := { program := "ytbjjgnaojoaoiaagreat", sum := "42934ab6d0c757e1e69ba796a2451ee1ca5fc54f743d320b9180fa53753a3f9f", func := "tallage/tallagelaw21.AccountCredit", spec := "accountCredit", inPlace := ["slices.overlaps[tallage/account.period]"], unfollowed := true, recurses := true, named := ["math/bits.divideError", "math/bits.overflowError"], apart := false }
def AccountCreditSaid : Prop := accountCreditRow.holds Tryz.pinned (OpenSpec.ofChange accountCreditSpec)

/-- ITS FALSE NEIGHBOUR: 'it returns false'. Refute it at one input. -/
def accountCreditWrong : ChangeSpec := { name := "accountCredit", fn := fun _ => fun
  | [d1, d2, d3] => { results := [.lit (.bool false)], args := [d1, d2, d3] }
  | _ => none }
def AccountCreditWrongFalsely : Prop := accountCreditRow.holds Tryz.pinned (OpenSpec.ofChange accountCreditWrong)

/-- 'tallagelaw21.AccountUndone': WHATEVER THE INPUT: true; the input reads as it did. -/
def accountUndoneSpec : ChangeSpec := { name := "accountUndone", fn := fun _ => fun
  | [d1, d2, d3] => { results := [.lit (.bool true)], args := [d1, d2, d3] }
  | _ => none }
def accountUndoneRow : OpenClaim := { program := "ytbjjgnaojoaoiaagreat", sum := "42934ab6d0c757e1e69ba796a2451ee1ca5fc54f743d320b9180fa53753a3f9f", func := "tallage/tallagelaw21.AccountUndone", spec := "accountUndone", inPlace := ["slices.overlaps[tallage/account.period]"], unfollowed := true, recurses := true, named := ["math/bits.divideError", "math/bits.overflowError"], apart := false }
def AccountUndoneSaid : Prop := accountUndoneRow.holds Tryz.pinned (OpenSpec.ofChange accountUndoneSpec)

/-- ITS FALSE NEIGHBOUR: 'it returns false'. Refute it at one input. -/
def accountUndoneWrong : ChangeSpec := { name := "accountUndone", fn := fun _ => fun
  | [d1, d2, d3] => { results := [.lit (.bool false)], args := [d1, d2, d3] }
  | _ => none }
def AccountUndoneWrongFalsely : Prop := accountUndoneRow.holds Tryz.pinned (OpenSpec.ofChange accountUndoneWrong)

/-- 'tallagelaw21.AccountScripts': WHATEVER THE INPUT: true; the input reads as it did. -/
def accountScriptsSpec : ChangeSpec := { name := "accountScripts", fn := fun _ => fun
  | [d1, d2, d3] => { results := [.lit (.bool true)], args := [d1, d2, d3] }
  | _ => none }
def accountScriptsRow : OpenClaim := { program := "ytbjjgnaojoaoiaagreat", sum := "42934ab6d0c757e1e69ba796a2451ee1ca5fc54f743d320b9180fa53753a3f9f", func := "tallage/tallagelaw21.AccountScripts", spec := "accountScripts", inPlace := ["slices.overlaps[tallage/account.period]"], unfollowed := true, recurses := true, named := ["math/bits.divideError", "math/bits.overflowError"], apart := false }
def AccountScriptsSaid : Prop := accountScriptsRow.holds Tryz.pinned (OpenSpec.ofChange accountScriptsSpec)

/-- ITS FALSE NEIGHBOUR: 'it returns false'. Refute it at one input. -/
def accountScriptsWrong : ChangeSpec := { name := "accountScripts", fn := fun _ => fun
  | [d1, d2, d3] => { results := [.lit (.bool false)], args := [d1, d2, d3] }
  | _ => none }
def AccountScriptsWrongFalsely : Prop := accountScriptsRow.holds Tryz.pinned (OpenSpec.ofChange accountScriptsWrong)

/-- 'tallagelaw21.AccountSplit': WHATEVER THE INPUT: true; the input reads as it did. -/
def accountSplitSpec : ChangeSpec := { name := "accountSplit", fn := fun _ => fun
  | [d1, d2] => { results := [.lit (.bool true)], args := [d1, d2] }
  | _ => none }
def accountSplitRow : OpenClaim := { program := "ytbjjgnaojoaoiaagreat", sum := "42934ab6d0c757e1e69ba796a2451ee1ca5fc54f743d320b9180fa53753a3f9f", func := "tallage/tallagelaw21.AccountSplit", spec := "accountSplit", inPlace := ["slices.overlaps[tallage/account.period]"], unfollowed := true, recurses := true, named := ["math/bits.divideError", "math/bits.overflowError"], apart := false }
def AccountSplitSaid : Prop := accountSplitRow.holds Tryz.pinned (OpenSpec.ofChange accountSplitSpec)

/-- ITS FALSE NEIGHBOUR: 'it returns false'. Refute it at one input. -/
def accountSplitWrong : ChangeSpec := { name := "accountSplit", fn := fun _ => fun
  | [d1, d2] => { results := [.lit (.bool false)], args := [d1, d2] }
  | _ => none }
def AccountSplitWrongFalsely : Prop := accountSplitRow.holds Tryz.pinned (OpenSpec.ofChange accountSplitWrong)

/- THE SECOND FORM. 'bulk': how many values and letters a reading holds, each counted each time it is reached (what is shared counts as often as it is met; a slice's spare places count too). A statement '..UptoSaid' is the law's where the arguments, and the package variables that the reading takes, are together of bulk at most 1048576: NARROWER than '..Said'. Prove '..Said' where nothing that the law and all that it calls make is longer than what came in: it says more and counts as full. Else prove '..UptoSaid'. A law counts once. -/
mutual
def uptoBulk {H : Type} : DataW H → Nat
  | .lit (.string bytes) => bytes.length + 1
  | .lit _ => 1
  | .nil => 1
  | .ptr d => uptoBulk d + 1
  | .slice elems spare => uptoBulkAll elems + uptoBulkAll spare + 1
  | .agg parts => uptoBulkAll parts + 1
  | .iface _ d => uptoBulk d + 1
  | .map entries => uptoBulkEntries entries + 1
  | .held _ => 1
def uptoBulkAll {H : Type} : List (DataW H) → Nat
  | [] => 0
  | d :: r => uptoBulk d + uptoBulkAll r
def uptoBulkEntries {H : Type} : List (Lit × DataW H) → Nat
  | [] => 0
  | x :: r => uptoBulkEntry x + uptoBulkEntries r
def uptoBulkEntry {H : Type} : Lit × DataW H → Nat
  | (.string bytes, d) => bytes.length + uptoBulk d + 1
  | (_, d) => uptoBulk d + 1
 end
def uptoSmall : (H : Type) → List (DataW H) → Bool := fun _ ds => decide (uptoBulkAll ds ≤ 1048576)
def OpenSpec.upto (s : _root_.Go.ChangeSpec) : _root_.Go.OpenSpec := { _root_.Go.OpenSpec.ofChange s with cond := some uptoSmall }

/-- 'tallagetop.TopPaid', WHERE WHAT IT READS IS OF BULK AT MOST 1048576: true; the input reads as it did. -/
def topPaidUptoRow : OpenClaim := { program := "ytbjjgnaojoaoiaagreat", sum := "42934ab6d0c757e1e69ba796a2451ee1ca5fc54f743d320b9180fa53753a3f9f", func := "tallage/tallagetop.TopPaid", spec := "topPaid", inPlace := ["slices.overlaps[tallage/account.period]", "math/bits.Add64"], unfollowed := true, recurses := true, named := ["math/bits.divideError", "math/bits.overflowError"], apart := false, narrowed := true }
def TopPaidUptoSaid : Prop := topPaidUptoRow.holds Tryz.pinned (OpenSpec.upto topPaidSpec)

/-- 'tallagelaw21.AccountOrder', WHERE WHAT IT READS IS OF BULK AT MOST 1048576: true; the input reads as it did. -/
def accountOrderUptoRow : OpenClaim := { program := "ytbjjgnaojoaoiaagreat", sum := "42934ab6d0c757e1e69ba796a2451ee1ca5fc54f743d320b9180fa53753a3f9f", func := "tallage/tallagelaw21.AccountOrder", spec := "accountOrder", inPlace := ["slices.overlaps[tallage/account.period]"], unfollowed := true, recurses := true, named := ["math/bits.divideError", "math/bits.overflowError"], apart := false, narrowed := true }
def AccountOrderUptoSaid : Prop := accountOrderUptoRow.holds Tryz.pinned (OpenSpec.upto accountOrderSpec)

/-- 'tallagelaw21.AccountSums', WHERE WHAT IT READS IS OF BULK AT MOST 1048576: true; the input reads as it did. -/
def accountSumsUptoRow : OpenClaim := { program := "ytbjjgnaojoaoiaagreat", sum := "42934ab6d0c757e1e69ba796a2451ee1ca5fc54f743d320b9180fa53753a3f9f", func := "tallage/tallagelaw21.AccountSums", spec := "accountSums", inPlace := ["slices.overlaps[tallage/account.period]"], unfollowed := true, recurses := true, named := ["math/bits.divideError", "math/bits.overflowError"], apart := false, narrowed := true }
def AccountSumsUptoSaid : Prop := accountSumsUptoRow.holds Tryz.pinned (OpenSpec.upto accountSumsSpec)

/-- 'tallagelaw21.AccountCredit', WHERE WHAT IT READS IS OF BULK AT MOST 1048576: true; the input reads as it did. -/
def accountCreditUptoRow : OpenClaim := { program := "ytbjjgnaojoaoiaagreat", sum := "42934ab6d0c757e1e69ba796a2451ee1ca5fc54f743d320b9180fa53753a3f9f", func := "tallage/tallagelaw21.AccountCredit", spec := "accountCredit", inPlace := ["slices.overlaps[tallage/account.period]"], unfollowed := true, recurses := true, named := ["math/bits.divideError", "math/bits.overflowError"], apart := false, narrowed := true }
def AccountCreditUptoSaid : Prop := accountCreditUptoRow.holds Tryz.pinned (OpenSpec.upto accountCreditSpec)

/-- 'tallagelaw21.AccountUndone', WHERE WHAT IT READS IS OF BULK AT MOST 1048576: true; the input reads as it did. -/
def accountUndoneUptoRow : OpenClaim := { program := "ytbjjgnaojoaoiaagreat", sum := "42934ab6d0c757e1e69ba796a2451ee1ca5fc54f743d320b9180fa53753a3f9f", func := "tallage/tallagelaw21.AccountUndone", spec := "accountUndone", inPlace := ["slices.overlaps[tallage/account.period]"], unfollowed := true, recurses := true, named := ["math/bits.divideError", "math/bits.overflowError"], apart := false, narrowed := true }
def AccountUndoneUptoSaid : Prop := accountUndoneUptoRow.holds Tryz.pinned (OpenSpec.upto accountUndoneSpec)

/-- 'tallagelaw21.AccountScripts', WHERE WHAT IT READS IS OF BULK AT MOST 1048576: true; the input reads as it did. -/
def accountScriptsUptoRow : OpenClaim := { program := "ytbjjgnaojoaoiaagreat", sum := "42934ab6d0c757e1e69ba796a2451ee1ca5fc54f743d320b9180fa53753a3f9f", func := "tallage/tallagelaw21.AccountScripts", spec := "accountScripts", inPlace := ["slices.overlaps[tallage/account.period]"], unfollowed := true, recurses := true, named := ["math/bits.divideError", "math/bits.overflowError"], apart := false, narrowed := true }
def AccountScriptsUptoSaid : Prop := accountScriptsUptoRow.holds Tryz.pinned (OpenSpec.upto accountScriptsSpec)

/-- 'tallagelaw21.AccountSplit', WHERE WHAT IT READS IS OF BULK AT MOST 1048576: true; the input reads as it did. -/
def accountSplitUptoRow : OpenClaim := { program := "ytbjjgnaojoaoiaagreat", sum := "42934ab6d0c757e1e69ba796a2451ee1ca5fc54f743d320b9180fa53753a3f9f", func := "tallage/tallagelaw21.AccountSplit", spec := "accountSplit", inPlace := ["slices.overlaps[tallage/account.period]"], unfollowed := true, recurses := true, named := ["math/bits.divideError", "math/bits.overflowError"], apart := false, narrowed := true }
def AccountSplitUptoSaid : Prop := accountSplitUptoRow.holds Tryz.pinned (OpenSpec.upto accountSplitSpec)

end Rows
end Go.Proofs.YtbjjgnaojoaoiaaGreat
