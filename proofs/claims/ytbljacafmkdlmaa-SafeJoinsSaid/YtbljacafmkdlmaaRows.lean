/-
  No cell of these rows narrows 'for every input' (looked for: loops, veiled, ifaces, maps, wideKeys, modest, calm, conditions, laid).
  DERIVED. THE GIVEN ROWS OF THIS SEAT. 6 by the template 'for every input the law returns true; each argument reads behind the call as it read before'; 0 by the template 'total and deterministic' (their statements: YtbljacafmkdlmaaTotals.lean).
  GIVEN WITH THE SEED: the statements are not yours to turn. If you find one false, say at which input.
  Laid BY PROGRAM, IN A SANDBOX (cutbox-rows.mjs): the forced cells as the released guide's own fill.sh prints them over the translation 15b29814d103026f… (all of the seat's roots in one cut). By AI agents, Wed Nov 11 2026. No macro, syntax, notation, axiom, sorry.
-/
import Derived.Test.YtbljacafmkdlmaaChecked
import GoSem.Claim
import GoSem.ClaimJoined
import GoSem.ClaimMapViews
import Derived.JoinedTies
import Derived.KernelRfl
namespace Go.Proofs.Ytbljacafmkdlmaa
/- THE CELL 'sum', in the pinned program and in every row, IS THE sha256 OF THE DUMP (.gsa) THAT YtbljacafmkdlmaaProg.lean LOADS. Nothing in Lean hashes anything: it is a label: what it is worth is what the hold of that sum in a sandbox is worth. -/
noncomputable def Try.pinned : Pinned := { name := "ytbljacafmkdlmaa", sum := "15b29814d103026f4ba1eb15455c7dd356d91c65ab01257c9593122b84b8311d", checked := Try.checked }
namespace Rows
def none {H : Type} : Left H := { results := [], args := [] }

/-- 'pentimentolaw13.SafeAll': WHATEVER THE INPUT: true; the input reads as it did. -/
def safeAllSpec : ChangeSpec := { name := "safeAll", fn := fun _ => fun
  | [d1, d2, d3] => { results := [.lit (.bool true)], args := [d1, d2, d3] }
  | _ => none }
def safeAllRow : OpenClaim := { program := "ytbljacafmkdlmaa", sum := "15b29814d103026f4ba1eb15455c7dd356d91c65ab01257c9593122b84b8311d", func := "pentimento/pentimentolaw13.SafeAll", spec := "safeAll", inPlace := ["maps.clone"], unfollowed := true, recurses := true, apart := false }
def SafeAllSaid : Prop := safeAllRow.holds Try.pinned (OpenSpec.ofChange safeAllSpec)

/-- ITS FALSE NEIGHBOUR: 'it returns false'. Refute it at one input. -/
def safeAllWrong : ChangeSpec := { name := "safeAll", fn := fun _ => fun
  | [d1, d2, d3] => { results := [.lit (.bool false)], args := [d1, d2, d3] }
  | _ => none }
def SafeAllWrongFalsely : Prop := safeAllRow.holds Try.pinned (OpenSpec.ofChange safeAllWrong)

/-- 'pentimentolaw13.SafeJoins': WHATEVER THE INPUT: true; the input reads as it did. -/
def safeJoinsSpec : ChangeSpec := { name := "safeJoins", fn := fun _ => fun
  | [d1, d2, d3] => { results := [.lit (.bool true)], args := [d1, d2, d3] }
  | _ => none }
def safeJoinsRow : OpenClaim := { program := "ytbljacafmkdlmaa", sum := "15b29814d103026f4ba1eb15455c7dd356d91c65ab01257c9593122b84b8311d", func := "pentimento/pentimentolaw13.SafeJoins", spec := "safeJoins", inPlace := ["maps.clone"], unfollowed := true, recurses := true, apart := false }
def SafeJoinsSaid : Prop := safeJoinsRow.holds Try.pinned (OpenSpec.ofChange safeJoinsSpec)

/-- ITS FALSE NEIGHBOUR: 'it returns false'. Refute it at one input. -/
def safeJoinsWrong : ChangeSpec := { name := "safeJoins", fn := fun _ => fun
  | [d1, d2, d3] => { results := [.lit (.bool false)], args := [d1, d2, d3] }
  | _ => none }
def SafeJoinsWrongFalsely : Prop := safeJoinsRow.holds Try.pinned (OpenSpec.ofChange safeJoinsWrong)

/-- 'pentimentolaw13.SafeRows': WHATEVER THE INPUT: true; the input reads as it did. -/
def safeRowsSpec : ChangeSpec := { name := "safeRows", fn := fun _ => fun
  | [d] => { results := [.lit (.bool true)], args := [d] }
  | _ => none }
def safeRowsRow : OpenClaim := { program := "ytbljacafmkdlmaa", sum := "15b29814d103026f4ba1eb15455c7dd356d91c65ab01257c9593122b84b8311d", func := "pentimento/pentimentolaw13.SafeRows", spec := "safeRows", inPlace := ["maps.clone"], unfollowed := true, recurses := true, apart := false }
def SafeRowsSaid : Prop := safeRowsRow.holds Try.pinned (OpenSpec.ofChange safeRowsSpec)

/-- ITS FALSE NEIGHBOUR: 'it returns false'. Refute it at one input. -/
def safeRowsWrong : ChangeSpec := { name := "safeRows", fn := fun _ => fun
  | [d] => { results := [.lit (.bool false)], args := [d] }
  | _ => none }
def SafeRowsWrongFalsely : Prop := safeRowsRow.holds Try.pinned (OpenSpec.ofChange safeRowsWrong)

/-- 'pentimentolaw13.SafeTwo': WHATEVER THE INPUT: true; the input reads as it did. -/
def safeTwoSpec : ChangeSpec := { name := "safeTwo", fn := fun _ => fun
  | [d1, d2] => { results := [.lit (.bool true)], args := [d1, d2] }
  | _ => none }
def safeTwoRow : OpenClaim := { program := "ytbljacafmkdlmaa", sum := "15b29814d103026f4ba1eb15455c7dd356d91c65ab01257c9593122b84b8311d", func := "pentimento/pentimentolaw13.SafeTwo", spec := "safeTwo", inPlace := ["maps.clone"], unfollowed := true, recurses := true, apart := false }
def SafeTwoSaid : Prop := safeTwoRow.holds Try.pinned (OpenSpec.ofChange safeTwoSpec)

/-- ITS FALSE NEIGHBOUR: 'it returns false'. Refute it at one input. -/
def safeTwoWrong : ChangeSpec := { name := "safeTwo", fn := fun _ => fun
  | [d1, d2] => { results := [.lit (.bool false)], args := [d1, d2] }
  | _ => none }
def SafeTwoWrongFalsely : Prop := safeTwoRow.holds Try.pinned (OpenSpec.ofChange safeTwoWrong)

/-- 'pentimentolaw13.SafeBounds': WHATEVER THE INPUT: true; the input reads as it did. -/
def safeBoundsSpec : ChangeSpec := { name := "safeBounds", fn := fun _ => fun
  | [d] => { results := [.lit (.bool true)], args := [d] }
  | _ => none }
def safeBoundsRow : OpenClaim := { program := "ytbljacafmkdlmaa", sum := "15b29814d103026f4ba1eb15455c7dd356d91c65ab01257c9593122b84b8311d", func := "pentimento/pentimentolaw13.SafeBounds", spec := "safeBounds", inPlace := ["maps.clone"], unfollowed := true, recurses := true, apart := false }
def SafeBoundsSaid : Prop := safeBoundsRow.holds Try.pinned (OpenSpec.ofChange safeBoundsSpec)

/-- ITS FALSE NEIGHBOUR: 'it returns false'. Refute it at one input. -/
def safeBoundsWrong : ChangeSpec := { name := "safeBounds", fn := fun _ => fun
  | [d] => { results := [.lit (.bool false)], args := [d] }
  | _ => none }
def SafeBoundsWrongFalsely : Prop := safeBoundsRow.holds Try.pinned (OpenSpec.ofChange safeBoundsWrong)

/-- 'pentimentolaw13.SafeFull': WHATEVER THE INPUT: true; the input reads as it did. -/
def safeFullSpec : ChangeSpec := { name := "safeFull", fn := fun _ => fun
  | [d1, d2, d3] => { results := [.lit (.bool true)], args := [d1, d2, d3] }
  | _ => none }
def safeFullRow : OpenClaim := { program := "ytbljacafmkdlmaa", sum := "15b29814d103026f4ba1eb15455c7dd356d91c65ab01257c9593122b84b8311d", func := "pentimento/pentimentolaw13.SafeFull", spec := "safeFull", inPlace := ["maps.clone"], unfollowed := true, recurses := true, apart := false }
def SafeFullSaid : Prop := safeFullRow.holds Try.pinned (OpenSpec.ofChange safeFullSpec)

/-- ITS FALSE NEIGHBOUR: 'it returns false'. Refute it at one input. -/
def safeFullWrong : ChangeSpec := { name := "safeFull", fn := fun _ => fun
  | [d1, d2, d3] => { results := [.lit (.bool false)], args := [d1, d2, d3] }
  | _ => none }
def SafeFullWrongFalsely : Prop := safeFullRow.holds Try.pinned (OpenSpec.ofChange safeFullWrong)

/- THE SECOND FORM. 'bulk': how many values and letters a reading holds, each counted each time it is reached (what is shared counts as often as it is met; a slice's spare places count too). A statement '..UptoSaid' is the law's where the arguments, and the package variables that the reading takes, are together of bulk at most 1048576: NARROWER than '..Said'. Prove '..Said' where nothing that the law and all that it calls make is longer than what came in: it says more and counts as full. Else prove '..UptoSaid'. A law counts once. -/
mutual
def uptoBulk {H : Type} : DataW H → Nat
  | .lit (.string bytes) => bytes.length + 1
  | .lit _ => 1
  | .nil => 1
  | .ptr d => uptoBulk d + 1
  | .slice elems spare => uptoBulkAll elems + uptoBulkAll spare + 1
  | .agg parts => uptoBulkAll parts + 1
  | .iface _ d => uptoBulk d + 1
  | .map entries => uptoBulkEntries entries + 1
  | .held _ => 1
def uptoBulkAll {H : Type} : List (DataW H) → Nat
  | [] => 0
  | d :: r => uptoBulk d + uptoBulkAll r
def uptoBulkEntries {H : Type} : List (Lit × DataW H) → Nat
  | [] => 0
  | x :: r => uptoBulkEntry x + uptoBulkEntries r
def uptoBulkEntry {H : Type} : Lit × DataW H → Nat
  | (.string bytes, d) => bytes.length + uptoBulk d + 1
  | (_, d) => uptoBulk d + 1
 end
def uptoSmall : (H : Type) → List (DataW H) → Bool := fun _ ds => decide (uptoBulkAll ds ≤ 1048576)
def OpenSpec.upto (s : _root_.Go.ChangeSpec) : _root_.Go.OpenSpec := { _root_.Go.OpenSpec.ofChange s with cond := some uptoSmall }

/-- 'pentimentolaw13.SafeAll', WHERE WHAT IT READS IS OF BULK AT MOST 1048576: true; the input reads as it did. -/
def safeAllUptoRow : OpenClaim := { program := "ytbljacafmkdlmaa", sum := "15b29814d103026f4ba1eb15455c7dd356d91c65ab01257c9593122b84b8311d", func := "pentimento/pentimentolaw13.SafeAll", spec := "safeAll", inPlace := ["maps.clone"], unfollowed := true, recurses := true, apart := false, narrowed := true }
def SafeAllUptoSaid : Prop := safeAllUptoRow.holds Try.pinned (OpenSpec.upto safeAllSpec)

/-- 'pentimentolaw13.SafeJoins', WHERE WHAT IT READS IS OF BULK AT MOST 1048576: true; the input reads as it did. -/
def safeJoinsUptoRow : OpenClaim := { program := "ytbljacafmkdlmaa", sum := "15b29814d103026f4ba1eb15455c7dd356d91c65ab01257c9593122b84b8311d", func := "pentimento/pentimentolaw13.SafeJoins", spec := "safeJoins", inPlace := ["maps.clone"], unfollowed := true, recurses := true, apart := false, narrowed := true }
def SafeJoinsUptoSaid : Prop := safeJoinsUptoRow.holds Try.pinned (OpenSpec.upto safeJoinsSpec)

/-- 'pentimentolaw13.SafeRows', WHERE WHAT IT READS IS OF BULK AT MOST 1048576: true; the input reads as it did. -/
def safeRowsUptoRow : OpenClaim := { program := "ytbljacafmkdlmaa", sum := "15b29814d103026f4ba1eb15455c7dd356d91c65ab01257c9593122b84b8311d", func := "pentimento/pentimentolaw13.SafeRows", spec := "safeRows", inPlace := ["maps.clone"], unfollowed := true, recurses := true, apart := false, narrowed := true }
def SafeRowsUptoSaid : Prop := safeRowsUptoRow.holds Try.pinned (OpenSpec.upto safeRowsSpec)

/-- 'pentimentolaw13.SafeTwo', WHERE WHAT IT READS IS OF BULK AT MOST 1048576: true; the input reads as it did. -/
def safeTwoUptoRow : OpenClaim := { program := "ytbljacafmkdlmaa", sum := "15b29814d103026f4ba1eb15455c7dd356d91c65ab01257c9593122b84b8311d", func := "pentimento/pentimentolaw13.SafeTwo", spec := "safeTwo", inPlace := ["maps.clone"], unfollowed := true, recurses := true, apart := false, narrowed := true }
def SafeTwoUptoSaid : Prop := safeTwoUptoRow.holds Try.pinned (OpenSpec.upto safeTwoSpec)

/-- 'pentimentolaw13.SafeBounds', WHERE WHAT IT READS IS OF BULK AT MOST 1048576: true; the input reads as it did. -/
def safeBoundsUptoRow : OpenClaim := { program := "ytbljacafmkdlmaa", sum := "15b29814d103026f4ba1eb15455c7dd356d91c65ab01257c9593122b84b8311d", func := "pentimento/pentimentolaw13.SafeBounds", spec := "safeBounds", inPlace := ["maps.clone"], unfollowed := true, recurses := true, apart := false, narrowed := true }
def SafeBoundsUptoSaid : Prop := safeBoundsUptoRow.holds Try.pinned (OpenSpec.upto safeBoundsSpec)

/-- 'pentimentolaw13.SafeFull', WHERE WHAT IT READS IS OF BULK AT MOST 1048576: true; the input reads as it did. -/
def safeFullUptoRow : OpenClaim := { program := "ytbljacafmkdlmaa", sum := "15b29814d103026f4ba1eb15455c7dd356d91c65ab01257c9593122b84b8311d", func := "pentimento/pentimentolaw13.SafeFull", spec := "safeFull", inPlace := ["maps.clone"], unfollowed := true, recurses := true, apart := false, narrowed := true }
def SafeFullUptoSaid : Prop := safeFullUptoRow.holds Try.pinned (OpenSpec.upto safeFullSpec)

end Rows
end Go.Proofs.Ytbljacafmkdlmaa
