/-
  No cell of these rows narrows 'for every input' (looked for: loops, veiled, ifaces, maps, wideKeys, modest, calm, conditions, laid).
  DERIVED. THE GIVEN ROWS OF THIS SEAT. 11 by the template 'for every input the law returns true; each argument reads behind the call as it read before'; 0 by the template 'total and deterministic' (their statements: YtbkhejfnhbjhpaaTotals.lean).
  GIVEN WITH THE SEED: the statements are not yours to turn. If you find one false, say at which input.
  Laid BY PROGRAM, IN A SANDBOX (cutbox-rows.mjs): the forced cells as the released guide's own fill.sh prints them over the translation 19dfe96fc0a9b53c… (all of the seat's roots in one cut). By AI agents, Wed Nov 11 2026. No macro, syntax, notation, axiom, sorry.
-/
import Derived.Test.YtbkhejfnhbjhpaaChecked
import GoSem.Claim
import GoSem.ClaimJoined
import GoSem.ClaimMapViews
import Derived.JoinedTies
import Derived.KernelRfl
namespace Go.Proofs.Ytbkhejfnhbjhpaa
/- THE CELL 'sum', in the pinned program and in every row, IS THE sha256 OF THE DUMP (.gsa) THAT YtbkhejfnhbjhpaaProg.lean LOADS. Nothing in Lean hashes anything: it is a label: what it is worth is what the hold of that sum in a sandbox is worth. -/
noncomputable def Try.pinned : Pinned := { name := "ytbkhejfnhbjhpaa", sum := "19dfe96fc0a9b53c6a2258f3a07c6c1ef060e976a5ef91310e53feff30a52d06", checked := Try.checked }
namespace Rows
def none {H : Type} : Left H := { results := [], args := [] }

/-- 'tangramlaw18.CheckNames': WHATEVER THE INPUT: true; the input reads as it did. -/
def checkNamesSpec : ChangeSpec := { name := "checkNames", fn := fun _ => fun
  | [] => { results := [.lit (.bool true)], args := [] }
  | _ => none }
def checkNamesRow : OpenClaim := { program := "ytbkhejfnhbjhpaa", sum := "19dfe96fc0a9b53c6a2258f3a07c6c1ef060e976a5ef91310e53feff30a52d06", func := "tangram/tangramlaw18.CheckNames", spec := "checkNames", apart := false }
def CheckNamesSaid : Prop := checkNamesRow.holds Try.pinned (OpenSpec.ofChange checkNamesSpec)

/-- ITS FALSE NEIGHBOUR: 'it returns false'. Refute it at one input. -/
def checkNamesWrong : ChangeSpec := { name := "checkNames", fn := fun _ => fun
  | [] => { results := [.lit (.bool false)], args := [] }
  | _ => none }
def CheckNamesWrongFalsely : Prop := checkNamesRow.holds Try.pinned (OpenSpec.ofChange checkNamesWrong)

/-- 'tangramlaw04.CsrIter': WHATEVER THE INPUT: true; the input reads as it did. -/
def csrIterSpec : ChangeSpec := { name := "csrIter", fn := fun _ => fun
  | [d1, d2, d3] => { results := [.lit (.bool true)], args := [d1, d2, d3] }
  | _ => none }
def csrIterRow : OpenClaim := { program := "ytbkhejfnhbjhpaa", sum := "19dfe96fc0a9b53c6a2258f3a07c6c1ef060e976a5ef91310e53feff30a52d06", func := "tangram/tangramlaw04.CsrIter", spec := "csrIter", unfollowed := true, recurses := true, apart := false }
def CsrIterSaid : Prop := csrIterRow.holds Try.pinned (OpenSpec.ofChange csrIterSpec)

/-- ITS FALSE NEIGHBOUR: 'it returns false'. Refute it at one input. -/
def csrIterWrong : ChangeSpec := { name := "csrIter", fn := fun _ => fun
  | [d1, d2, d3] => { results := [.lit (.bool false)], args := [d1, d2, d3] }
  | _ => none }
def CsrIterWrongFalsely : Prop := csrIterRow.holds Try.pinned (OpenSpec.ofChange csrIterWrong)

/-- 'tangramlaw04.CsrShape': WHATEVER THE INPUT: true; the input reads as it did. -/
def csrShapeSpec : ChangeSpec := { name := "csrShape", fn := fun _ => fun
  | [d] => { results := [.lit (.bool true)], args := [d] }
  | _ => none }
def csrShapeRow : OpenClaim := { program := "ytbkhejfnhbjhpaa", sum := "19dfe96fc0a9b53c6a2258f3a07c6c1ef060e976a5ef91310e53feff30a52d06", func := "tangram/tangramlaw04.CsrShape", spec := "csrShape", unfollowed := true, recurses := true, apart := false }
def CsrShapeSaid : Prop := csrShapeRow.holds Try.pinned (OpenSpec.ofChange csrShapeSpec)

/-- ITS FALSE NEIGHBOUR: 'it returns false'. Refute it at one input. -/
def csrShapeWrong : ChangeSpec := { name := "csrShape", fn := fun _ => fun
  | [d] => { results := [.lit (.bool false)], args := [d] }
  | _ => none }
def CsrShapeWrongFalsely : Prop := csrShapeRow.holds Try.pinned (OpenSpec.ofChange csrShapeWrong)

/-- 'tangramlaw04.CsrAnswers': WHATEVER THE INPUT: true; the input reads as it did. -/
def csrAnswersSpec : ChangeSpec := { name := "csrAnswers", fn := fun _ => fun
  | [d1, d2] => { results := [.lit (.bool true)], args := [d1, d2] }
  | _ => none }
def csrAnswersRow : OpenClaim := { program := "ytbkhejfnhbjhpaa", sum := "19dfe96fc0a9b53c6a2258f3a07c6c1ef060e976a5ef91310e53feff30a52d06", func := "tangram/tangramlaw04.CsrAnswers", spec := "csrAnswers", unfollowed := true, recurses := true, apart := false }
def CsrAnswersSaid : Prop := csrAnswersRow.holds Try.pinned (OpenSpec.ofChange csrAnswersSpec)

/-- ITS FALSE NEIGHBOUR: 'it returns false'. Refute it at one input. -/
def csrAnswersWrong : ChangeSpec := { name := "csrAnswers", fn := fun _ => fun
  | [d1, d2] => { results := [.lit (.bool false)], args := [d1, d2] }
  | _ => none }
def CsrAnswersWrongFalsely : Prop := csrAnswersRow.holds Try.pinned (OpenSpec.ofChange csrAnswersWrong)

/-- 'tangramlaw04.CsrKept': WHATEVER THE INPUT: true; the input reads as it did. -/
def csrKeptSpec : ChangeSpec := { name := "csrKept", fn := fun _ => fun
  | [d1, d2, d3] => { results := [.lit (.bool true)], args := [d1, d2, d3] }
  | _ => none }
def csrKeptRow : OpenClaim := { program := "ytbkhejfnhbjhpaa", sum := "19dfe96fc0a9b53c6a2258f3a07c6c1ef060e976a5ef91310e53feff30a52d06", func := "tangram/tangramlaw04.CsrKept", spec := "csrKept", unfollowed := true, recurses := true, apart := false }
def CsrKeptSaid : Prop := csrKeptRow.holds Try.pinned (OpenSpec.ofChange csrKeptSpec)

/-- ITS FALSE NEIGHBOUR: 'it returns false'. Refute it at one input. -/
def csrKeptWrong : ChangeSpec := { name := "csrKept", fn := fun _ => fun
  | [d1, d2, d3] => { results := [.lit (.bool false)], args := [d1, d2, d3] }
  | _ => none }
def CsrKeptWrongFalsely : Prop := csrKeptRow.holds Try.pinned (OpenSpec.ofChange csrKeptWrong)

/-- 'tangramlaw07.DfsWalks': WHATEVER THE INPUT: true; the input reads as it did. -/
def dfsWalksSpec : ChangeSpec := { name := "dfsWalks", fn := fun _ => fun
  | [d] => { results := [.lit (.bool true)], args := [d] }
  | _ => none }
def dfsWalksRow : OpenClaim := { program := "ytbkhejfnhbjhpaa", sum := "19dfe96fc0a9b53c6a2258f3a07c6c1ef060e976a5ef91310e53feff30a52d06", func := "tangram/tangramlaw07.DfsWalks", spec := "dfsWalks", unfollowed := true, recurses := true, apart := false }
def DfsWalksSaid : Prop := dfsWalksRow.holds Try.pinned (OpenSpec.ofChange dfsWalksSpec)

/-- ITS FALSE NEIGHBOUR: 'it returns false'. Refute it at one input. -/
def dfsWalksWrong : ChangeSpec := { name := "dfsWalks", fn := fun _ => fun
  | [d] => { results := [.lit (.bool false)], args := [d] }
  | _ => none }
def DfsWalksWrongFalsely : Prop := dfsWalksRow.holds Try.pinned (OpenSpec.ofChange dfsWalksWrong)

/-- 'tangramlaw07.DfsBack': WHATEVER THE INPUT: true; the input reads as it did. -/
def dfsBackSpec : ChangeSpec := { name := "dfsBack", fn := fun _ => fun
  | [d1, d2] => { results := [.lit (.bool true)], args := [d1, d2] }
  | _ => none }
def dfsBackRow : OpenClaim := { program := "ytbkhejfnhbjhpaa", sum := "19dfe96fc0a9b53c6a2258f3a07c6c1ef060e976a5ef91310e53feff30a52d06", func := "tangram/tangramlaw07.DfsBack", spec := "dfsBack", unfollowed := true, recurses := true, apart := false }
def DfsBackSaid : Prop := dfsBackRow.holds Try.pinned (OpenSpec.ofChange dfsBackSpec)

/-- ITS FALSE NEIGHBOUR: 'it returns false'. Refute it at one input. -/
def dfsBackWrong : ChangeSpec := { name := "dfsBack", fn := fun _ => fun
  | [d1, d2] => { results := [.lit (.bool false)], args := [d1, d2] }
  | _ => none }
def DfsBackWrongFalsely : Prop := dfsBackRow.holds Try.pinned (OpenSpec.ofChange dfsBackWrong)

/-- 'tangramlaw07.DfsValid': WHATEVER THE INPUT: true; the input reads as it did. -/
def dfsValidSpec : ChangeSpec := { name := "dfsValid", fn := fun _ => fun
  | [d1, d2] => { results := [.lit (.bool true)], args := [d1, d2] }
  | _ => none }
def dfsValidRow : OpenClaim := { program := "ytbkhejfnhbjhpaa", sum := "19dfe96fc0a9b53c6a2258f3a07c6c1ef060e976a5ef91310e53feff30a52d06", func := "tangram/tangramlaw07.DfsValid", spec := "dfsValid", unfollowed := true, recurses := true, apart := false }
def DfsValidSaid : Prop := dfsValidRow.holds Try.pinned (OpenSpec.ofChange dfsValidSpec)

/-- ITS FALSE NEIGHBOUR: 'it returns false'. Refute it at one input. -/
def dfsValidWrong : ChangeSpec := { name := "dfsValid", fn := fun _ => fun
  | [d1, d2] => { results := [.lit (.bool false)], args := [d1, d2] }
  | _ => none }
def DfsValidWrongFalsely : Prop := dfsValidRow.holds Try.pinned (OpenSpec.ofChange dfsValidWrong)

/-- 'tangramlaw07.DfsOwn': WHATEVER THE INPUT: true; the input reads as it did. -/
def dfsOwnSpec : ChangeSpec := { name := "dfsOwn", fn := fun _ => fun
  | [d] => { results := [.lit (.bool true)], args := [d] }
  | _ => none }
def dfsOwnRow : OpenClaim := { program := "ytbkhejfnhbjhpaa", sum := "19dfe96fc0a9b53c6a2258f3a07c6c1ef060e976a5ef91310e53feff30a52d06", func := "tangram/tangramlaw07.DfsOwn", spec := "dfsOwn", unfollowed := true, recurses := true, apart := false }
def DfsOwnSaid : Prop := dfsOwnRow.holds Try.pinned (OpenSpec.ofChange dfsOwnSpec)

/-- ITS FALSE NEIGHBOUR: 'it returns false'. Refute it at one input. -/
def dfsOwnWrong : ChangeSpec := { name := "dfsOwn", fn := fun _ => fun
  | [d] => { results := [.lit (.bool false)], args := [d] }
  | _ => none }
def DfsOwnWrongFalsely : Prop := dfsOwnRow.holds Try.pinned (OpenSpec.ofChange dfsOwnWrong)

/-- 'tangramlaw07.DfsForest': WHATEVER THE INPUT: true; the input reads as it did. -/
def dfsForestSpec : ChangeSpec := { name := "dfsForest", fn := fun _ => fun
  | [d] => { results := [.lit (.bool true)], args := [d] }
  | _ => none }
def dfsForestRow : OpenClaim := { program := "ytbkhejfnhbjhpaa", sum := "19dfe96fc0a9b53c6a2258f3a07c6c1ef060e976a5ef91310e53feff30a52d06", func := "tangram/tangramlaw07.DfsForest", spec := "dfsForest", unfollowed := true, recurses := true, apart := false }
def DfsForestSaid : Prop := dfsForestRow.holds Try.pinned (OpenSpec.ofChange dfsForestSpec)

/-- ITS FALSE NEIGHBOUR: 'it returns false'. Refute it at one input. -/
def dfsForestWrong : ChangeSpec := { name := "dfsForest", fn := fun _ => fun
  | [d] => { results := [.lit (.bool false)], args := [d] }
  | _ => none }
def DfsForestWrongFalsely : Prop := dfsForestRow.holds Try.pinned (OpenSpec.ofChange dfsForestWrong)

/-- 'tangramlaw07.DfsAbove': WHATEVER THE INPUT: true; the input reads as it did. -/
def dfsAboveSpec : ChangeSpec := { name := "dfsAbove", fn := fun _ => fun
  | [d] => { results := [.lit (.bool true)], args := [d] }
  | _ => none }
def dfsAboveRow : OpenClaim := { program := "ytbkhejfnhbjhpaa", sum := "19dfe96fc0a9b53c6a2258f3a07c6c1ef060e976a5ef91310e53feff30a52d06", func := "tangram/tangramlaw07.DfsAbove", spec := "dfsAbove", unfollowed := true, recurses := true, apart := false }
def DfsAboveSaid : Prop := dfsAboveRow.holds Try.pinned (OpenSpec.ofChange dfsAboveSpec)

/-- ITS FALSE NEIGHBOUR: 'it returns false'. Refute it at one input. -/
def dfsAboveWrong : ChangeSpec := { name := "dfsAbove", fn := fun _ => fun
  | [d] => { results := [.lit (.bool false)], args := [d] }
  | _ => none }
def DfsAboveWrongFalsely : Prop := dfsAboveRow.holds Try.pinned (OpenSpec.ofChange dfsAboveWrong)

/- THE SECOND FORM. 'bulk': how many values and letters a reading holds, each counted each time it is reached (what is shared counts as often as it is met; a slice's spare places count too). A statement '..UptoSaid' is the law's where the arguments, and the package variables that the reading takes, are together of bulk at most 1048576: NARROWER than '..Said'. Prove '..Said' where nothing that the law and all that it calls make is longer than what came in: it says more and counts as full. Else prove '..UptoSaid'. A law counts once. -/
mutual
def uptoBulk {H : Type} : DataW H → Nat
  | .lit (.string bytes) => bytes.length + 1
  | .lit _ => 1
  | .nil => 1
  | .ptr d => uptoBulk d + 1
  | .slice elems spare => uptoBulkAll elems + uptoBulkAll spare + 1
  | .agg parts => uptoBulkAll parts + 1
  | .iface _ d => uptoBulk d + 1
  | .map entries => uptoBulkEntries entries + 1
  | .held _ => 1
def uptoBulkAll {H : Type} : List (DataW H) → Nat
  | [] => 0
  | d :: r => uptoBulk d + uptoBulkAll r
def uptoBulkEntries {H : Type} : List (Lit × DataW H) → Nat
  | [] => 0
  | x :: r => uptoBulkEntry x + uptoBulkEntries r
def uptoBulkEntry {H : Type} : Lit × DataW H → Nat
  | (.string bytes, d) => bytes.length + uptoBulk d + 1
  | (_, d) => uptoBulk d + 1
 end
def uptoSmall : (H : Type) → List (DataW H) → Bool := fun _ ds => decide (uptoBulkAll ds ≤ 1048576)
def OpenSpec.upto (s : _root_.Go.ChangeSpec) : _root_.Go.OpenSpec := { _root_.Go.OpenSpec.ofChange s with cond := some uptoSmall }

/-- 'tangramlaw18.CheckNames', WHERE WHAT IT READS IS OF BULK AT MOST 1048576: true; the input reads as it did. -/
def checkNamesUptoRow : OpenClaim := { program := "ytbkhejfnhbjhpaa", sum := "19dfe96fc0a9b53c6a2258f3a07c6c1ef060e976a5ef91310e53feff30a52d06", func := "tangram/tangramlaw18.CheckNames", spec := "checkNames", apart := false, narrowed := true }
def CheckNamesUptoSaid : Prop := checkNamesUptoRow.holds Try.pinned (OpenSpec.upto checkNamesSpec)

/-- 'tangramlaw04.CsrIter', WHERE WHAT IT READS IS OF BULK AT MOST 1048576: true; the input reads as it did. -/
def csrIterUptoRow : OpenClaim := { program := "ytbkhejfnhbjhpaa", sum := "19dfe96fc0a9b53c6a2258f3a07c6c1ef060e976a5ef91310e53feff30a52d06", func := "tangram/tangramlaw04.CsrIter", spec := "csrIter", unfollowed := true, recurses := true, apart := false, narrowed := true }
def CsrIterUptoSaid : Prop := csrIterUptoRow.holds Try.pinned (OpenSpec.upto csrIterSpec)

/-- 'tangramlaw04.CsrShape', WHERE WHAT IT READS IS OF BULK AT MOST 1048576: true; the input reads as it did. -/
def csrShapeUptoRow : OpenClaim := { program := "ytbkhejfnhbjhpaa", sum := "19dfe96fc0a9b53c6a2258f3a07c6c1ef060e976a5ef91310e53feff30a52d06", func := "tangram/tangramlaw04.CsrShape", spec := "csrShape", unfollowed := true, recurses := true, apart := false, narrowed := true }
def CsrShapeUptoSaid : Prop := csrShapeUptoRow.holds Try.pinned (OpenSpec.upto csrShapeSpec)

/-- 'tangramlaw04.CsrAnswers', WHERE WHAT IT READS IS OF BULK AT MOST 1048576: true; the input reads as it did. -/
def csrAnswersUptoRow : OpenClaim := { program := "ytbkhejfnhbjhpaa", sum := "19dfe96fc0a9b53c6a2258f3a07c6c1ef060e976a5ef91310e53feff30a52d06", func := "tangram/tangramlaw04.CsrAnswers", spec := "csrAnswers", unfollowed := true, recurses := true, apart := false, narrowed := true }
def CsrAnswersUptoSaid : Prop := csrAnswersUptoRow.holds Try.pinned (OpenSpec.upto csrAnswersSpec)

/-- 'tangramlaw04.CsrKept', WHERE WHAT IT READS IS OF BULK AT MOST 1048576: true; the input reads as it did. -/
def csrKeptUptoRow : OpenClaim := { program := "ytbkhejfnhbjhpaa", sum := "19dfe96fc0a9b53c6a2258f3a07c6c1ef060e976a5ef91310e53feff30a52d06", func := "tangram/tangramlaw04.CsrKept", spec := "csrKept", unfollowed := true, recurses := true, apart := false, narrowed := true }
def CsrKeptUptoSaid : Prop := csrKeptUptoRow.holds Try.pinned (OpenSpec.upto csrKeptSpec)

/-- 'tangramlaw07.DfsWalks', WHERE WHAT IT READS IS OF BULK AT MOST 1048576: true; the input reads as it did. -/
def dfsWalksUptoRow : OpenClaim := { program := "ytbkhejfnhbjhpaa", sum := "19dfe96fc0a9b53c6a2258f3a07c6c1ef060e976a5ef91310e53feff30a52d06", func := "tangram/tangramlaw07.DfsWalks", spec := "dfsWalks", unfollowed := true, recurses := true, apart := false, narrowed := true }
def DfsWalksUptoSaid : Prop := dfsWalksUptoRow.holds Try.pinned (OpenSpec.upto dfsWalksSpec)

/-- 'tangramlaw07.DfsBack', WHERE WHAT IT READS IS OF BULK AT MOST 1048576: true; the input reads as it did. -/
def dfsBackUptoRow : OpenClaim := { program := "ytbkhejfnhbjhpaa", sum := "19dfe96fc0a9b53c6a2258f3a07c6c1ef060e976a5ef91310e53feff30a52d06", func := "tangram/tangramlaw07.DfsBack", spec := "dfsBack", unfollowed := true, recurses := true, apart := false, narrowed := true }
def DfsBackUptoSaid : Prop := dfsBackUptoRow.holds Try.pinned (OpenSpec.upto dfsBackSpec)

/-- 'tangramlaw07.DfsValid', WHERE WHAT IT READS IS OF BULK AT MOST 1048576: true; the input reads as it did. -/
def dfsValidUptoRow : OpenClaim := { program := "ytbkhejfnhbjhpaa", sum := "19dfe96fc0a9b53c6a2258f3a07c6c1ef060e976a5ef91310e53feff30a52d06", func := "tangram/tangramlaw07.DfsValid", spec := "dfsValid", unfollowed := true, recurses := true, apart := false, narrowed := true }
def DfsValidUptoSaid : Prop := dfsValidUptoRow.holds Try.pinned (OpenSpec.upto dfsValidSpec)

/-- 'tangramlaw07.DfsOwn', WHERE WHAT IT READS IS OF BULK AT MOST 1048576: true; the input reads as it did. -/
def dfsOwnUptoRow : OpenClaim := { program := "ytbkhejfnhbjhpaa", sum := "19dfe96fc0a9b53c6a2258f3a07c6c1ef060e976a5ef91310e53feff30a52d06", func := "tangram/tangramlaw07.DfsOwn", spec := "dfsOwn", unfollowed := true, recurses := true, apart := false, narrowed := true }
def DfsOwnUptoSaid : Prop := dfsOwnUptoRow.holds Try.pinned (OpenSpec.upto dfsOwnSpec)

/-- 'tangramlaw07.DfsForest', WHERE WHAT IT READS IS OF BULK AT MOST 1048576: true; the input reads as it did. -/
def dfsForestUptoRow : OpenClaim := { program := "ytbkhejfnhbjhpaa", sum := "19dfe96fc0a9b53c6a2258f3a07c6c1ef060e976a5ef91310e53feff30a52d06", func := "tangram/tangramlaw07.DfsForest", spec := "dfsForest", unfollowed := true, recurses := true, apart := false, narrowed := true }
def DfsForestUptoSaid : Prop := dfsForestUptoRow.holds Try.pinned (OpenSpec.upto dfsForestSpec)

/-- 'tangramlaw07.DfsAbove', WHERE WHAT IT READS IS OF BULK AT MOST 1048576: true; the input reads as it did. -/
def dfsAboveUptoRow : OpenClaim := { program := "ytbkhejfnhbjhpaa", sum := "19dfe96fc0a9b53c6a2258f3a07c6c1ef060e976a5ef91310e53feff30a52d06", func := "tangram/tangramlaw07.DfsAbove", spec := "dfsAbove", unfollowed := true, recurses := true, apart := false, narrowed := true }
def DfsAboveUptoSaid : Prop := dfsAboveUptoRow.holds Try.pinned (OpenSpec.upto dfsAboveSpec)

end Rows
end Go.Proofs.Ytbkhejfnhbjhpaa
