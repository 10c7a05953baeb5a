/-
  No cell of these rows narrows 'for every input' (looked for: loops, veiled, ifaces, maps, wideKeys, modest, calm, conditions, laid).
  DERIVED. THE GIVEN ROWS OF THIS SEAT. 4 by the template 'for every input the law returns true; each argument reads behind the call as it read before'; 0 by the template 'total and deterministic' (their statements: YtcpcfglccnmmnaaTotals.lean).
  GIVEN WITH THE SEED: the statements are not yours to turn. If you find one false, say at which input.
  Laid BY PROGRAM, IN A SANDBOX (cutbox-rows.mjs): the forced cells as the released guide's own fill.sh prints them over the translation 314c0a2ab45e88db… (all of the seat's roots in one cut). By AI agents, Wed Nov 11 2026. No macro, syntax, notation, axiom, sorry.
-/
import Derived.Test.YtcpcfglccnmmnaaChecked
import GoSem.Claim
import GoSem.ClaimJoined
import GoSem.ClaimMapViews
import Derived.JoinedTies
import Derived.KernelRfl
namespace Go.Proofs.Ytcpcfglccnmmnaa
/- THE CELL 'sum', in the pinned program and in every row, IS THE sha256 OF THE DUMP (.gsa) THAT YtcpcfglccnmmnaaProg.lean LOADS. Nothing in Lean hashes anything: it is a label: what it is worth is what the hold of that sum in a sandbox is worth. -/
noncomputable def Try.pinned : Pinned := { name := "ytcpcfglccnmmnaa", sum := "314c0a2ab45e88db49724e55ca804346a6df5db39e154ae69f3a4b371c94e164", checked := Try.checked }
namespace Rows
def none {H : Type} : Left H := { results := [], args := [] }

/-- 'bellowslaw21.ScriptWrites': WHATEVER THE INPUT: true; the input reads as it did. -/
def scriptWritesSpec : ChangeSpec := { name := "scriptWrites", fn := fun _ => fun
  | [d] => { results := [.lit (.bool true)], args := [d] }
  | _ => none }
def scriptWritesRow : OpenClaim := { program := "ytcpcfglccnmmnaa", sum := "314c0a2ab45e88db49724e55ca804346a6df5db39e154ae69f3a4b371c94e164", func := "bellows/bellowslaw21.ScriptWrites", spec := "scriptWrites", unfollowed := true, recurses := true, apart := false }
def ScriptWritesSaid : Prop := scriptWritesRow.holds Try.pinned (OpenSpec.ofChange scriptWritesSpec)

/-- ITS FALSE NEIGHBOUR: 'it returns false'. Refute it at one input. -/
def scriptWritesWrong : ChangeSpec := { name := "scriptWrites", fn := fun _ => fun
  | [d] => { results := [.lit (.bool false)], args := [d] }
  | _ => none }
def ScriptWritesWrongFalsely : Prop := scriptWritesRow.holds Try.pinned (OpenSpec.ofChange scriptWritesWrong)

/-- 'bellowslaw21.ScriptJoins': WHATEVER THE INPUT: true; the input reads as it did. -/
def scriptJoinsSpec : ChangeSpec := { name := "scriptJoins", fn := fun _ => fun
  | [d1, d2] => { results := [.lit (.bool true)], args := [d1, d2] }
  | _ => none }
def scriptJoinsRow : OpenClaim := { program := "ytcpcfglccnmmnaa", sum := "314c0a2ab45e88db49724e55ca804346a6df5db39e154ae69f3a4b371c94e164", func := "bellows/bellowslaw21.ScriptJoins", spec := "scriptJoins", unfollowed := true, recurses := true, apart := false }
def ScriptJoinsSaid : Prop := scriptJoinsRow.holds Try.pinned (OpenSpec.ofChange scriptJoinsSpec)

/-- ITS FALSE NEIGHBOUR: 'it returns false'. Refute it at one input. -/
def scriptJoinsWrong : ChangeSpec := { name := "scriptJoins", fn := fun _ => fun
  | [d1, d2] => { results := [.lit (.bool false)], args := [d1, d2] }
  | _ => none }
def ScriptJoinsWrongFalsely : Prop := scriptJoinsRow.holds Try.pinned (OpenSpec.ofChange scriptJoinsWrong)

/-- 'bellowslaw21.ScriptReads': WHATEVER THE INPUT: true; the input reads as it did. -/
def scriptReadsSpec : ChangeSpec := { name := "scriptReads", fn := fun _ => fun
  | [d] => { results := [.lit (.bool true)], args := [d] }
  | _ => none }
def scriptReadsRow : OpenClaim := { program := "ytcpcfglccnmmnaa", sum := "314c0a2ab45e88db49724e55ca804346a6df5db39e154ae69f3a4b371c94e164", func := "bellows/bellowslaw21.ScriptReads", spec := "scriptReads", unfollowed := true, recurses := true, apart := false }
def ScriptReadsSaid : Prop := scriptReadsRow.holds Try.pinned (OpenSpec.ofChange scriptReadsSpec)

/-- ITS FALSE NEIGHBOUR: 'it returns false'. Refute it at one input. -/
def scriptReadsWrong : ChangeSpec := { name := "scriptReads", fn := fun _ => fun
  | [d] => { results := [.lit (.bool false)], args := [d] }
  | _ => none }
def ScriptReadsWrongFalsely : Prop := scriptReadsRow.holds Try.pinned (OpenSpec.ofChange scriptReadsWrong)

/-- 'bellowslaw21.ScriptBack': WHATEVER THE INPUT: true; the input reads as it did. -/
def scriptBackSpec : ChangeSpec := { name := "scriptBack", fn := fun _ => fun
  | [d1, d2] => { results := [.lit (.bool true)], args := [d1, d2] }
  | _ => none }
def scriptBackRow : OpenClaim := { program := "ytcpcfglccnmmnaa", sum := "314c0a2ab45e88db49724e55ca804346a6df5db39e154ae69f3a4b371c94e164", func := "bellows/bellowslaw21.ScriptBack", spec := "scriptBack", unfollowed := true, recurses := true, apart := false }
def ScriptBackSaid : Prop := scriptBackRow.holds Try.pinned (OpenSpec.ofChange scriptBackSpec)

/-- ITS FALSE NEIGHBOUR: 'it returns false'. Refute it at one input. -/
def scriptBackWrong : ChangeSpec := { name := "scriptBack", fn := fun _ => fun
  | [d1, d2] => { results := [.lit (.bool false)], args := [d1, d2] }
  | _ => none }
def ScriptBackWrongFalsely : Prop := scriptBackRow.holds Try.pinned (OpenSpec.ofChange scriptBackWrong)

/- THE SECOND FORM. 'bulk': how many values and letters a reading holds, each counted each time it is reached (what is shared counts as often as it is met; a slice's spare places count too). A statement '..UptoSaid' is the law's where the arguments, and the package variables that the reading takes, are together of bulk at most 1048576: NARROWER than '..Said'. Prove '..Said' where nothing that the law and all that it calls make is longer than what came in: it says more and counts as full. Else prove '..UptoSaid'. A law counts once. -/
mutual
def uptoBulk {H : Type} : DataW H → Nat
  | .lit (.string bytes) => bytes.length + 1
  | .lit _ => 1
  | .nil => 1
  | .ptr d => uptoBulk d + 1
  | .slice elems spare => uptoBulkAll elems + uptoBulkAll spare + 1
  | .agg parts => uptoBulkAll parts + 1
  | .iface _ d => uptoBulk d + 1
  | .map entries => uptoBulkEntries entries + 1
  | .held _ => 1
def uptoBulkAll {H : Type} : List (DataW H) → Nat
  | [] => 0
  | d :: r => uptoBulk d + uptoBulkAll r
def uptoBulkEntries {H : Type} : List (Lit × DataW H) → Nat
  | [] => 0
  | x :: r => uptoBulkEntry x + uptoBulkEntries r
def uptoBulkEntry {H : Type} : Lit × DataW H → Nat
  | (.string bytes, d) => bytes.length + uptoBulk d + 1
  | (_, d) => uptoBulk d + 1
 end
def uptoSmall : (H : Type) → List (DataW H) → Bool := fun _ ds => decide (uptoBulkAll ds ≤ 1048576)
def OpenSpec.upto (s : _root_.Go.ChangeSpec) : _root_.Go.OpenSpec := { _root_.Go.OpenSpec.ofChange s with cond := some uptoSmall }

/-- 'bellowslaw21.ScriptWrites', WHERE WHAT IT READS IS OF BULK AT MOST 1048576: true; the input reads as it did. -/
def scriptWritesUptoRow : OpenClaim := { program := "ytcpcfglccnmmnaa", sum := "314c0a2ab45e88db49724e55ca804346a6df5db39e154ae69f3a4b371c94e164", func := "bellows/bellowslaw21.ScriptWrites", spec := "scriptWrites", unfollowed := true, recurses := true, apart := false, narrowed := true }
def ScriptWritesUptoSaid : Prop := scriptWritesUptoRow.holds Try.pinned (OpenSpec.upto scriptWritesSpec)

/-- 'bellowslaw21.ScriptJoins', WHERE WHAT IT READS IS OF BULK AT MOST 1048576: true; the input reads as it did. -/
def scriptJoinsUptoRow : OpenClaim := { program := "ytcpcfglccnmmnaa", sum := "314c0a2ab45e88db49724e55ca804346a6df5db39e154ae69f3a4b371c94e164", func := "bellows/bellowslaw21.ScriptJoins", spec := "scriptJoins", unfollowed := true, recurses := true, apart := false, narrowed := true }
def ScriptJoinsUptoSaid : Prop := scriptJoinsUptoRow.holds Try.pinned (OpenSpec.upto scriptJoinsSpec)

/-- 'bellowslaw21.ScriptReads', WHERE WHAT IT READS IS OF BULK AT MOST 1048576: true; the input reads as it did. -/
def scriptReadsUptoRow : OpenClaim := { program := "ytcpcfglccnmmnaa", sum := "314c0a2ab45e88db49724e55ca804346a6df5db39e154ae69f3a4b371c94e164", func := "bellows/bellowslaw21.ScriptReads", spec := "scriptReads", unfollowed := true, recurses := true, apart := false, narrowed := true }
def ScriptReadsUptoSaid : Prop := scriptReadsUptoRow.holds Try.pinned (OpenSpec.upto scriptReadsSpec)

/-- 'bellowslaw21.ScriptBack', WHERE WHAT IT READS IS OF BULK AT MOST 1048576: true; the input reads as it did. -/
def scriptBackUptoRow : OpenClaim := { program := "ytcpcfglccnmmnaa", sum := "314c0a2ab45e88db49724e55ca804346a6df5db39e154ae69f3a4b371c94e164", func := "bellows/bellowslaw21.ScriptBack", spec := "scriptBack", unfollowed := true, recurses := true, apart := false, narrowed := true }
def ScriptBackUptoSaid : Prop := scriptBackUptoRow.holds Try.pinned (OpenSpec.upto scriptBackSpec)

end Rows
end Go.Proofs.Ytcpcfglccnmmnaa
