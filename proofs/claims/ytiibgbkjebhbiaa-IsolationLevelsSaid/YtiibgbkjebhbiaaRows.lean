/-
  No cell of these rows narrows 'for every input' (looked for: loops, veiled, ifaces, maps, wideKeys, modest, calm, conditions, laid).
  DERIVED. THE GIVEN ROWS OF THIS SEAT. 4 by the template 'for every input the law returns true; each argument reads behind the call as it read before'; 0 by the template 'total and deterministic' (their statements: YtiibgbkjebhbiaaTotals.lean).
  GIVEN WITH THE SEED: the statements are not yours to turn. If you find one false, say at which input.
  Laid BY PROGRAM, IN A SANDBOX (cutbox-rows.mjs): the forced cells as the released guide's own fill.sh prints them over the translation 4cc0777d32f36a4b… (all of the seat's roots in one cut). By AI agents, Wed Nov 11 2026. No macro, syntax, notation, axiom, sorry.
-/
import Derived.Test.YtiibgbkjebhbiaaChecked
import GoSem.Claim
import GoSem.ClaimJoined
import GoSem.ClaimMapViews
import Derived.JoinedTies
import Derived.KernelRfl
namespace Go.Proofs.Ytiibgbkjebhbiaa
/- THE CELL 'sum', in the pinned program and in every row, IS THE sha256 OF THE DUMP (.gsa) THAT YtiibgbkjebhbiaaProg.lean LOADS. Nothing in Lean hashes anything: it is a label: what it is worth is what the hold of that sum in a sandbox is worth. -/
noncomputable def Try.pinned : Pinned := { name := "ytiibgbkjebhbiaa", sum := "4cc0777d32f36a4b95c9e1d8a36dff9f6102c014703e228cd9e5452cb1ceee93", checked := Try.checked }
namespace Rows
def none {H : Type} : Left H := { results := [], args := [] }

/-- 'querylablaw43.IsolationFits': WHATEVER THE INPUT: true; the input reads as it did. -/
def isolationFitsSpec : ChangeSpec := { name := "isolationFits", fn := fun _ => fun
  | [d1, d2] => { results := [.lit (.bool true)], args := [d1, d2] }
  | _ => none }
def isolationFitsRow : OpenClaim := { program := "ytiibgbkjebhbiaa", sum := "4cc0777d32f36a4b95c9e1d8a36dff9f6102c014703e228cd9e5452cb1ceee93", func := "querylab/querylablaw43.IsolationFits", spec := "isolationFits", unfollowed := true, recurses := true, apart := false }
def IsolationFitsSaid : Prop := isolationFitsRow.holds Try.pinned (OpenSpec.ofChange isolationFitsSpec)

/-- ITS FALSE NEIGHBOUR: 'it returns false'. Refute it at one input. -/
def isolationFitsWrong : ChangeSpec := { name := "isolationFits", fn := fun _ => fun
  | [d1, d2] => { results := [.lit (.bool false)], args := [d1, d2] }
  | _ => none }
def IsolationFitsWrongFalsely : Prop := isolationFitsRow.holds Try.pinned (OpenSpec.ofChange isolationFitsWrong)

/-- 'querylablaw43.IsolationLevels': WHATEVER THE INPUT: true; the input reads as it did. -/
def isolationLevelsSpec : ChangeSpec := { name := "isolationLevels", fn := fun _ => fun
  | [d] => { results := [.lit (.bool true)], args := [d] }
  | _ => none }
def isolationLevelsRow : OpenClaim := { program := "ytiibgbkjebhbiaa", sum := "4cc0777d32f36a4b95c9e1d8a36dff9f6102c014703e228cd9e5452cb1ceee93", func := "querylab/querylablaw43.IsolationLevels", spec := "isolationLevels", unfollowed := true, recurses := true, apart := false }
def IsolationLevelsSaid : Prop := isolationLevelsRow.holds Try.pinned (OpenSpec.ofChange isolationLevelsSpec)

/-- ITS FALSE NEIGHBOUR: 'it returns false'. Refute it at one input. -/
def isolationLevelsWrong : ChangeSpec := { name := "isolationLevels", fn := fun _ => fun
  | [d] => { results := [.lit (.bool false)], args := [d] }
  | _ => none }
def IsolationLevelsWrongFalsely : Prop := isolationLevelsRow.holds Try.pinned (OpenSpec.ofChange isolationLevelsWrong)

/-- 'querylablaw43.IsolationReplays': WHATEVER THE INPUT: true; the input reads as it did. -/
def isolationReplaysSpec : ChangeSpec := { name := "isolationReplays", fn := fun _ => fun
  | [d] => { results := [.lit (.bool true)], args := [d] }
  | _ => none }
def isolationReplaysRow : OpenClaim := { program := "ytiibgbkjebhbiaa", sum := "4cc0777d32f36a4b95c9e1d8a36dff9f6102c014703e228cd9e5452cb1ceee93", func := "querylab/querylablaw43.IsolationReplays", spec := "isolationReplays", unfollowed := true, recurses := true, apart := false }
def IsolationReplaysSaid : Prop := isolationReplaysRow.holds Try.pinned (OpenSpec.ofChange isolationReplaysSpec)

/-- ITS FALSE NEIGHBOUR: 'it returns false'. Refute it at one input. -/
def isolationReplaysWrong : ChangeSpec := { name := "isolationReplays", fn := fun _ => fun
  | [d] => { results := [.lit (.bool false)], args := [d] }
  | _ => none }
def IsolationReplaysWrongFalsely : Prop := isolationReplaysRow.holds Try.pinned (OpenSpec.ofChange isolationReplaysWrong)

/-- 'querylablaw43.IsolationSerial': WHATEVER THE INPUT: true; the input reads as it did. -/
def isolationSerialSpec : ChangeSpec := { name := "isolationSerial", fn := fun _ => fun
  | [d] => { results := [.lit (.bool true)], args := [d] }
  | _ => none }
def isolationSerialRow : OpenClaim := { program := "ytiibgbkjebhbiaa", sum := "4cc0777d32f36a4b95c9e1d8a36dff9f6102c014703e228cd9e5452cb1ceee93", func := "querylab/querylablaw43.IsolationSerial", spec := "isolationSerial", unfollowed := true, recurses := true, apart := false }
def IsolationSerialSaid : Prop := isolationSerialRow.holds Try.pinned (OpenSpec.ofChange isolationSerialSpec)

/-- ITS FALSE NEIGHBOUR: 'it returns false'. Refute it at one input. -/
def isolationSerialWrong : ChangeSpec := { name := "isolationSerial", fn := fun _ => fun
  | [d] => { results := [.lit (.bool false)], args := [d] }
  | _ => none }
def IsolationSerialWrongFalsely : Prop := isolationSerialRow.holds Try.pinned (OpenSpec.ofChange isolationSerialWrong)

/- THE SECOND FORM. 'bulk': how many values and letters a reading holds, each counted each time it is reached (what is shared counts as often as it is met; a slice's spare places count too). A statement '..UptoSaid' is the law's where the arguments, and the package variables that the reading takes, are together of bulk at most 1048576: NARROWER than '..Said'. Prove '..Said' where nothing that the law and all that it calls make is longer than what came in: it says more and counts as full. Else prove '..UptoSaid'. A law counts once. -/
mutual
def uptoBulk {H : Type} : DataW H → Nat
  | .lit (.string bytes) => bytes.length + 1
  | .lit _ => 1
  | .nil => 1
  | .ptr d => uptoBulk d + 1
  | .slice elems spare => uptoBulkAll elems + uptoBulkAll spare + 1
  | .agg parts => uptoBulkAll parts + 1
  | .iface _ d => uptoBulk d + 1
  | .map entries => uptoBulkEntries entries + 1
  | .held _ => 1
def uptoBulkAll {H : Type} : List (DataW H) → Nat
  | [] => 0
  | d :: r => uptoBulk d + uptoBulkAll r
def uptoBulkEntries {H : Type} : List (Lit × DataW H) → Nat
  | [] => 0
  | x :: r => uptoBulkEntry x + uptoBulkEntries r
def uptoBulkEntry {H : Type} : Lit × DataW H → Nat
  | (.string bytes, d) => bytes.length + uptoBulk d + 1
  | (_, d) => uptoBulk d + 1
 end
def uptoSmall : (H : Type) → List (DataW H) → Bool := fun _ ds => decide (uptoBulkAll ds ≤ 1048576)
def OpenSpec.upto (s : _root_.Go.ChangeSpec) : _root_.Go.OpenSpec := { _root_.Go.OpenSpec.ofChange s with cond := some uptoSmall }

/-- 'querylablaw43.IsolationFits', WHERE WHAT IT READS IS OF BULK AT MOST 1048576: true; the input reads as it did. -/
def isolationFitsUptoRow : OpenClaim := { program := "ytiibgbkjebhbiaa", sum := "4cc0777d32f36a4b95c9e1d8a36dff9f6102c014703e228cd9e5452cb1ceee93", func := "querylab/querylablaw43.IsolationFits", spec := "isolationFits", unfollowed := true, recurses := true, apart := false, narrowed := true }
def IsolationFitsUptoSaid : Prop := isolationFitsUptoRow.holds Try.pinned (OpenSpec.upto isolationFitsSpec)

/-- 'querylablaw43.IsolationLevels', WHERE WHAT IT READS IS OF BULK AT MOST 1048576: true; the input reads as it did. -/
def isolationLevelsUptoRow : OpenClaim := { program := "ytiibgbkjebhbiaa", sum := "4cc0777d32f36a4b95c9e1d8a36dff9f6102c014703e228cd9e5452cb1ceee93", func := "querylab/querylablaw43.IsolationLevels", spec := "isolationLevels", unfollowed := true, recurses := true, apart := false, narrowed := true }
def IsolationLevelsUptoSaid : Prop := isolationLevelsUptoRow.holds Try.pinned (OpenSpec.upto isolationLevelsSpec)

/-- 'querylablaw43.IsolationReplays', WHERE WHAT IT READS IS OF BULK AT MOST 1048576: true; the input reads as it did. -/
def isolationReplaysUptoRow : OpenClaim := { program := "ytiibgbkjebhbiaa", sum := "4cc0777d32f36a4b95c9e1d8a36dff9f6102c014703e228cd9e5452cb1ceee93", func := "querylab/querylablaw43.IsolationReplays", spec := "isolationReplays", unfollowed := true, recurses := true, apart := false, narrowed := true }
def IsolationReplaysUptoSaid : Prop := isolationReplaysUptoRow.holds Try.pinned (OpenSpec.upto isolationReplaysSpec)

/-- 'querylablaw43.IsolationSerial', WHERE WHAT IT READS IS OF BULK AT MOST 1048576: true; the input reads as it did. -/
def isolationSerialUptoRow : OpenClaim := { program := "ytiibgbkjebhbiaa", sum := "4cc0777d32f36a4b95c9e1d8a36dff9f6102c014703e228cd9e5452cb1ceee93", func := "querylab/querylablaw43.IsolationSerial", spec := "isolationSerial", unfollowed := true, recurses := true, apart := false, narrowed := true }
def IsolationSerialUptoSaid : Prop := isolationSerialUptoRow.holds Try.pinned (OpenSpec.upto isolationSerialSpec)

end Rows
end Go.Proofs.Ytiibgbkjebhbiaa
