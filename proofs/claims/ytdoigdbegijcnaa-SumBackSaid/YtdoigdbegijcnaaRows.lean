/-
  No cell of these rows narrows 'for every input' (looked for: loops, veiled, ifaces, maps, wideKeys, modest, calm, conditions, laid).
  DERIVED. THE GIVEN ROWS OF THIS SEAT. 6 by the template 'for every input the law returns true; each argument reads behind the call as it read before'; 0 by the template 'total and deterministic' (their statements: YtdoigdbegijcnaaTotals.lean).
  GIVEN WITH THE SEED: the statements are not yours to turn. If you find one false, say at which input.
  Laid BY PROGRAM, IN A SANDBOX (cutbox-rows.mjs): the forced cells as the released guide's own fill.sh prints them over the translation 8334cee6f9d1358d… (all of the seat's roots in one cut). By AI agents, Wed Nov 11 2026. No macro, syntax, notation, axiom, sorry.
-/
import Derived.Test.YtdoigdbegijcnaaChecked
import GoSem.Claim
import GoSem.ClaimJoined
import GoSem.ClaimMapViews
import Derived.JoinedTies
import Derived.KernelRfl
namespace Go.Proofs.Ytdoigdbegijcnaa
/- THE CELL 'sum', in the pinned program and in every row, IS THE sha256 OF THE DUMP (.gsa) THAT YtdoigdbegijcnaaProg.lean LOADS. Nothing in Lean hashes anything: it is a label: what it is worth is what the hold of that sum in a sandbox is worth. -/
noncomputable def Try.pinned : Pinned := { name := "ytdoigdbegijcnaa", sum := "8334cee6f9d1358dfe256f6891c2e7a1a6c37f2958be2226d1337a3d36c34ac2", checked := Try.checked }
namespace Rows
def none {H : Type} : Left H := { results := [], args := [] }

/-- 'pentimentolaw02.SumAll': WHATEVER THE INPUT: true; the input reads as it did. -/
def sumAllSpec : ChangeSpec := { name := "sumAll", fn := fun _ => fun
  | [d1, d2] => { results := [.lit (.bool true)], args := [d1, d2] }
  | _ => none }
def sumAllRow : OpenClaim := { program := "ytdoigdbegijcnaa", sum := "8334cee6f9d1358dfe256f6891c2e7a1a6c37f2958be2226d1337a3d36c34ac2", func := "pentimento/pentimentolaw02.SumAll", spec := "sumAll", unfollowed := true, recurses := true, apart := false }
def SumAllSaid : Prop := sumAllRow.holds Try.pinned (OpenSpec.ofChange sumAllSpec)

/-- ITS FALSE NEIGHBOUR: 'it returns false'. Refute it at one input. -/
def sumAllWrong : ChangeSpec := { name := "sumAll", fn := fun _ => fun
  | [d1, d2] => { results := [.lit (.bool false)], args := [d1, d2] }
  | _ => none }
def SumAllWrongFalsely : Prop := sumAllRow.holds Try.pinned (OpenSpec.ofChange sumAllWrong)

/-- 'pentimentolaw02.SumBack': WHATEVER THE INPUT: true; the input reads as it did. -/
def sumBackSpec : ChangeSpec := { name := "sumBack", fn := fun _ => fun
  | [d1, d2, d3] => { results := [.lit (.bool true)], args := [d1, d2, d3] }
  | _ => none }
def sumBackRow : OpenClaim := { program := "ytdoigdbegijcnaa", sum := "8334cee6f9d1358dfe256f6891c2e7a1a6c37f2958be2226d1337a3d36c34ac2", func := "pentimento/pentimentolaw02.SumBack", spec := "sumBack", unfollowed := true, recurses := true, apart := false }
def SumBackSaid : Prop := sumBackRow.holds Try.pinned (OpenSpec.ofChange sumBackSpec)

/-- ITS FALSE NEIGHBOUR: 'it returns false'. Refute it at one input. -/
def sumBackWrong : ChangeSpec := { name := "sumBack", fn := fun _ => fun
  | [d1, d2, d3] => { results := [.lit (.bool false)], args := [d1, d2, d3] }
  | _ => none }
def SumBackWrongFalsely : Prop := sumBackRow.holds Try.pinned (OpenSpec.ofChange sumBackWrong)

/-- 'pentimentolaw02.SumTurned': WHATEVER THE INPUT: true; the input reads as it did. -/
def sumTurnedSpec : ChangeSpec := { name := "sumTurned", fn := fun _ => fun
  | [d1, d2, d3] => { results := [.lit (.bool true)], args := [d1, d2, d3] }
  | _ => none }
def sumTurnedRow : OpenClaim := { program := "ytdoigdbegijcnaa", sum := "8334cee6f9d1358dfe256f6891c2e7a1a6c37f2958be2226d1337a3d36c34ac2", func := "pentimento/pentimentolaw02.SumTurned", spec := "sumTurned", unfollowed := true, recurses := true, apart := false }
def SumTurnedSaid : Prop := sumTurnedRow.holds Try.pinned (OpenSpec.ofChange sumTurnedSpec)

/-- ITS FALSE NEIGHBOUR: 'it returns false'. Refute it at one input. -/
def sumTurnedWrong : ChangeSpec := { name := "sumTurned", fn := fun _ => fun
  | [d1, d2, d3] => { results := [.lit (.bool false)], args := [d1, d2, d3] }
  | _ => none }
def SumTurnedWrongFalsely : Prop := sumTurnedRow.holds Try.pinned (OpenSpec.ofChange sumTurnedWrong)

/-- 'pentimentolaw02.SumRange': WHATEVER THE INPUT: true; the input reads as it did. -/
def sumRangeSpec : ChangeSpec := { name := "sumRange", fn := fun _ => fun
  | [d] => { results := [.lit (.bool true)], args := [d] }
  | _ => none }
def sumRangeRow : OpenClaim := { program := "ytdoigdbegijcnaa", sum := "8334cee6f9d1358dfe256f6891c2e7a1a6c37f2958be2226d1337a3d36c34ac2", func := "pentimento/pentimentolaw02.SumRange", spec := "sumRange", unfollowed := true, recurses := true, apart := false }
def SumRangeSaid : Prop := sumRangeRow.holds Try.pinned (OpenSpec.ofChange sumRangeSpec)

/-- ITS FALSE NEIGHBOUR: 'it returns false'. Refute it at one input. -/
def sumRangeWrong : ChangeSpec := { name := "sumRange", fn := fun _ => fun
  | [d] => { results := [.lit (.bool false)], args := [d] }
  | _ => none }
def SumRangeWrongFalsely : Prop := sumRangeRow.holds Try.pinned (OpenSpec.ofChange sumRangeWrong)

/-- 'pentimentolaw02.SumLong': WHATEVER THE INPUT: true; the input reads as it did. -/
def sumLongSpec : ChangeSpec := { name := "sumLong", fn := fun _ => fun
  | [d] => { results := [.lit (.bool true)], args := [d] }
  | _ => none }
def sumLongRow : OpenClaim := { program := "ytdoigdbegijcnaa", sum := "8334cee6f9d1358dfe256f6891c2e7a1a6c37f2958be2226d1337a3d36c34ac2", func := "pentimento/pentimentolaw02.SumLong", spec := "sumLong", unfollowed := true, recurses := true, apart := false }
def SumLongSaid : Prop := sumLongRow.holds Try.pinned (OpenSpec.ofChange sumLongSpec)

/-- ITS FALSE NEIGHBOUR: 'it returns false'. Refute it at one input. -/
def sumLongWrong : ChangeSpec := { name := "sumLong", fn := fun _ => fun
  | [d] => { results := [.lit (.bool false)], args := [d] }
  | _ => none }
def SumLongWrongFalsely : Prop := sumLongRow.holds Try.pinned (OpenSpec.ofChange sumLongWrong)

/-- 'pentimentolaw02.SumNoughts': WHATEVER THE INPUT: true; the input reads as it did. -/
def sumNoughtsSpec : ChangeSpec := { name := "sumNoughts", fn := fun _ => fun
  | [d] => { results := [.lit (.bool true)], args := [d] }
  | _ => none }
def sumNoughtsRow : OpenClaim := { program := "ytdoigdbegijcnaa", sum := "8334cee6f9d1358dfe256f6891c2e7a1a6c37f2958be2226d1337a3d36c34ac2", func := "pentimento/pentimentolaw02.SumNoughts", spec := "sumNoughts", unfollowed := true, recurses := true, apart := false }
def SumNoughtsSaid : Prop := sumNoughtsRow.holds Try.pinned (OpenSpec.ofChange sumNoughtsSpec)

/-- ITS FALSE NEIGHBOUR: 'it returns false'. Refute it at one input. -/
def sumNoughtsWrong : ChangeSpec := { name := "sumNoughts", fn := fun _ => fun
  | [d] => { results := [.lit (.bool false)], args := [d] }
  | _ => none }
def SumNoughtsWrongFalsely : Prop := sumNoughtsRow.holds Try.pinned (OpenSpec.ofChange sumNoughtsWrong)

/- THE SECOND FORM. 'bulk': how many values and letters a reading holds, each counted each time it is reached (what is shared counts as often as it is met; a slice's spare places count too). A statement '..UptoSaid' is the law's where the arguments, and the package variables that the reading takes, are together of bulk at most 1048576: NARROWER than '..Said'. Prove '..Said' where nothing that the law and all that it calls make is longer than what came in: it says more and counts as full. Else prove '..UptoSaid'. A law counts once. -/
mutual
def uptoBulk {H : Type} : DataW H → Nat
  | .lit (.string bytes) => bytes.length + 1
  | .lit _ => 1
  | .nil => 1
  | .ptr d => uptoBulk d + 1
  | .slice elems spare => uptoBulkAll elems + uptoBulkAll spare + 1
  | .agg parts => uptoBulkAll parts + 1
  | .iface _ d => uptoBulk d + 1
  | .map entries => uptoBulkEntries entries + 1
  | .held _ => 1
def uptoBulkAll {H : Type} : List (DataW H) → Nat
  | [] => 0
  | d :: r => uptoBulk d + uptoBulkAll r
def uptoBulkEntries {H : Type} : List (Lit × DataW H) → Nat
  | [] => 0
  | x :: r => uptoBulkEntry x + uptoBulkEntries r
def uptoBulkEntry {H : Type} : Lit × DataW H → Nat
  | (.string bytes, d) => bytes.length + uptoBulk d + 1
  | (_, d) => uptoBulk d + 1
 end
def uptoSmall : (H : Type) → List (DataW H) → Bool := fun _ ds => decide (uptoBulkAll ds ≤ 1048576)
def OpenSpec.upto (s : _root_.Go.ChangeSpec) : _root_.Go.OpenSpec := { _root_.Go.OpenSpec.ofChange s with cond := some uptoSmall }

/-- 'pentimentolaw02.SumAll', WHERE WHAT IT READS IS OF BULK AT MOST 1048576: true; the input reads as it did. -/
def sumAllUptoRow : OpenClaim := { program := "ytdoigdbegijcnaa", sum := "8334cee6f9d1358dfe256f6891c2e7a1a6c37f2958be2226d1337a3d36c34ac2", func := "pentimento/pentimentolaw02.SumAll", spec := "sumAll", unfollowed := true, recurses := true, apart := false, narrowed := true }
def SumAllUptoSaid : Prop := sumAllUptoRow.holds Try.pinned (OpenSpec.upto sumAllSpec)

/-- 'pentimentolaw02.SumBack', WHERE WHAT IT READS IS OF BULK AT MOST 1048576: true; the input reads as it did. -/
def sumBackUptoRow : OpenClaim := { program := "ytdoigdbegijcnaa", sum := "8334cee6f9d1358dfe256f6891c2e7a1a6c37f2958be2226d1337a3d36c34ac2", func := "pentimento/pentimentolaw02.SumBack", spec := "sumBack", unfollowed := true, recurses := true, apart := false, narrowed := true }
def SumBackUptoSaid : Prop := sumBackUptoRow.holds Try.pinned (OpenSpec.upto sumBackSpec)

/-- 'pentimentolaw02.SumTurned', WHERE WHAT IT READS IS OF BULK AT MOST 1048576: true; the input reads as it did. -/
def sumTurnedUptoRow : OpenClaim := { program := "ytdoigdbegijcnaa", sum := "8334cee6f9d1358dfe256f6891c2e7a1a6c37f2958be2226d1337a3d36c34ac2", func := "pentimento/pentimentolaw02.SumTurned", spec := "sumTurned", unfollowed := true, recurses := true, apart := false, narrowed := true }
def SumTurnedUptoSaid : Prop := sumTurnedUptoRow.holds Try.pinned (OpenSpec.upto sumTurnedSpec)

/-- 'pentimentolaw02.SumRange', WHERE WHAT IT READS IS OF BULK AT MOST 1048576: true; the input reads as it did. -/
def sumRangeUptoRow : OpenClaim := { program := "ytdoigdbegijcnaa", sum := "8334cee6f9d1358dfe256f6891c2e7a1a6c37f2958be2226d1337a3d36c34ac2", func := "pentimento/pentimentolaw02.SumRange", spec := "sumRange", unfollowed := true, recurses := true, apart := false, narrowed := true }
def SumRangeUptoSaid : Prop := sumRangeUptoRow.holds Try.pinned (OpenSpec.upto sumRangeSpec)

/-- 'pentimentolaw02.SumLong', WHERE WHAT IT READS IS OF BULK AT MOST 1048576: true; the input reads as it did. -/
def sumLongUptoRow : OpenClaim := { program := "ytdoigdbegijcnaa", sum := "8334cee6f9d1358dfe256f6891c2e7a1a6c37f2958be2226d1337a3d36c34ac2", func := "pentimento/pentimentolaw02.SumLong", spec := "sumLong", unfollowed := true, recurses := true, apart := false, narrowed := true }
def SumLongUptoSaid : Prop := sumLongUptoRow.holds Try.pinned (OpenSpec.upto sumLongSpec)

/-- 'pentimentolaw02.SumNoughts', WHERE WHAT IT READS IS OF BULK AT MOST 1048576: true; the input reads as it did. -/
def sumNoughtsUptoRow : OpenClaim := { program := "ytdoigdbegijcnaa", sum := "8334cee6f9d1358dfe256f6891c2e7a1a6c37f2958be2226d1337a3d36c34ac2", func := "pentimento/pentimentolaw02.SumNoughts", spec := "sumNoughts", unfollowed := true, recurses := true, apart := false, narrowed := true }
def SumNoughtsUptoSaid : Prop := sumNoughtsUptoRow.holds Try.pinned (OpenSpec.upto sumNoughtsSpec)

end Rows
end Go.Proofs.Ytdoigdbegijcnaa
