/-
  No cell of these rows narrows 'for every input' (looked for: loops, veiled, ifaces, maps, wideKeys, modest, calm, conditions, laid).
  DERIVED. THE GIVEN ROWS OF THIS SEAT. 6 by the template 'for every input the law returns true; each argument reads behind the call as it read before'; 0 by the template 'total and deterministic' (their statements: YtjpeoedpljcpnaaTotals.lean).
  GIVEN WITH THE SEED: the statements are not yours to turn. If you find one false, say at which input.
  Laid BY PROGRAM, IN A SANDBOX (cutbox-rows.mjs): the forced cells as the released guide's own fill.sh prints them over the translation 6cadb0e2f6278271… (all of the seat's roots in one cut). By AI agents, Wed Nov 11 2026. No macro, syntax, notation, axiom, sorry.
-/
import Derived.Test.YtjpeoedpljcpnaaChecked
import GoSem.Claim
import GoSem.ClaimJoined
import GoSem.ClaimMapViews
import Derived.JoinedTies
import Derived.KernelRfl
namespace Go.Proofs.Ytjpeoedpljcpnaa
/- THE CELL 'sum', in the pinned program and in every row, IS THE sha256 OF THE DUMP (.gsa) THAT YtjpeoedpljcpnaaProg.lean LOADS. Nothing in Lean hashes anything: it is a label: what it is worth is what the hold of that sum in a sandbox is worth. -/
noncomputable def Try.pinned : Pinned := { name := "ytjpeoedpljcpnaa", sum := "6cadb0e2f6278271c04c4b5bbcb3eecaaeec79850d2bc52d77cb3982f81c9b43", checked := Try.checked }
namespace Rows
def none {H : Type} : Left H := { results := [], args := [] }

/-- 'pentimentolaw06.SlotOne': WHATEVER THE INPUT: true; the input reads as it did. -/
def slotOneSpec : ChangeSpec := { name := "slotOne", fn := fun _ => fun
  | [d1, d2] => { results := [.lit (.bool true)], args := [d1, d2] }
  | _ => none }
def slotOneRow : OpenClaim := { program := "ytjpeoedpljcpnaa", sum := "6cadb0e2f6278271c04c4b5bbcb3eecaaeec79850d2bc52d77cb3982f81c9b43", func := "pentimento/pentimentolaw06.SlotOne", spec := "slotOne", unfollowed := true, recurses := true, apart := false }
def SlotOneSaid : Prop := slotOneRow.holds Try.pinned (OpenSpec.ofChange slotOneSpec)

/-- ITS FALSE NEIGHBOUR: 'it returns false'. Refute it at one input. -/
def slotOneWrong : ChangeSpec := { name := "slotOne", fn := fun _ => fun
  | [d1, d2] => { results := [.lit (.bool false)], args := [d1, d2] }
  | _ => none }
def SlotOneWrongFalsely : Prop := slotOneRow.holds Try.pinned (OpenSpec.ofChange slotOneWrong)

/-- 'pentimentolaw06.SlotMany': WHATEVER THE INPUT: true; the input reads as it did. -/
def slotManySpec : ChangeSpec := { name := "slotMany", fn := fun _ => fun
  | [d1, d2] => { results := [.lit (.bool true)], args := [d1, d2] }
  | _ => none }
def slotManyRow : OpenClaim := { program := "ytjpeoedpljcpnaa", sum := "6cadb0e2f6278271c04c4b5bbcb3eecaaeec79850d2bc52d77cb3982f81c9b43", func := "pentimento/pentimentolaw06.SlotMany", spec := "slotMany", unfollowed := true, recurses := true, apart := false }
def SlotManySaid : Prop := slotManyRow.holds Try.pinned (OpenSpec.ofChange slotManySpec)

/-- ITS FALSE NEIGHBOUR: 'it returns false'. Refute it at one input. -/
def slotManyWrong : ChangeSpec := { name := "slotMany", fn := fun _ => fun
  | [d1, d2] => { results := [.lit (.bool false)], args := [d1, d2] }
  | _ => none }
def SlotManyWrongFalsely : Prop := slotManyRow.holds Try.pinned (OpenSpec.ofChange slotManyWrong)

/-- 'pentimentolaw06.SlotBack': WHATEVER THE INPUT: true; the input reads as it did. -/
def slotBackSpec : ChangeSpec := { name := "slotBack", fn := fun _ => fun
  | [d1, d2] => { results := [.lit (.bool true)], args := [d1, d2] }
  | _ => none }
def slotBackRow : OpenClaim := { program := "ytjpeoedpljcpnaa", sum := "6cadb0e2f6278271c04c4b5bbcb3eecaaeec79850d2bc52d77cb3982f81c9b43", func := "pentimento/pentimentolaw06.SlotBack", spec := "slotBack", unfollowed := true, recurses := true, apart := false }
def SlotBackSaid : Prop := slotBackRow.holds Try.pinned (OpenSpec.ofChange slotBackSpec)

/-- ITS FALSE NEIGHBOUR: 'it returns false'. Refute it at one input. -/
def slotBackWrong : ChangeSpec := { name := "slotBack", fn := fun _ => fun
  | [d1, d2] => { results := [.lit (.bool false)], args := [d1, d2] }
  | _ => none }
def SlotBackWrongFalsely : Prop := slotBackRow.holds Try.pinned (OpenSpec.ofChange slotBackWrong)

/-- 'pentimentolaw06.SlotUnlike': WHATEVER THE INPUT: true; the input reads as it did. -/
def slotUnlikeSpec : ChangeSpec := { name := "slotUnlike", fn := fun _ => fun
  | [d1, d2] => { results := [.lit (.bool true)], args := [d1, d2] }
  | _ => none }
def slotUnlikeRow : OpenClaim := { program := "ytjpeoedpljcpnaa", sum := "6cadb0e2f6278271c04c4b5bbcb3eecaaeec79850d2bc52d77cb3982f81c9b43", func := "pentimento/pentimentolaw06.SlotUnlike", spec := "slotUnlike", unfollowed := true, recurses := true, apart := false }
def SlotUnlikeSaid : Prop := slotUnlikeRow.holds Try.pinned (OpenSpec.ofChange slotUnlikeSpec)

/-- ITS FALSE NEIGHBOUR: 'it returns false'. Refute it at one input. -/
def slotUnlikeWrong : ChangeSpec := { name := "slotUnlike", fn := fun _ => fun
  | [d1, d2] => { results := [.lit (.bool false)], args := [d1, d2] }
  | _ => none }
def SlotUnlikeWrongFalsely : Prop := slotUnlikeRow.holds Try.pinned (OpenSpec.ofChange slotUnlikeWrong)

/-- 'pentimentolaw06.SlotJoin': WHATEVER THE INPUT: true; the input reads as it did. -/
def slotJoinSpec : ChangeSpec := { name := "slotJoin", fn := fun _ => fun
  | [d1, d2] => { results := [.lit (.bool true)], args := [d1, d2] }
  | _ => none }
def slotJoinRow : OpenClaim := { program := "ytjpeoedpljcpnaa", sum := "6cadb0e2f6278271c04c4b5bbcb3eecaaeec79850d2bc52d77cb3982f81c9b43", func := "pentimento/pentimentolaw06.SlotJoin", spec := "slotJoin", unfollowed := true, recurses := true, apart := false }
def SlotJoinSaid : Prop := slotJoinRow.holds Try.pinned (OpenSpec.ofChange slotJoinSpec)

/-- ITS FALSE NEIGHBOUR: 'it returns false'. Refute it at one input. -/
def slotJoinWrong : ChangeSpec := { name := "slotJoin", fn := fun _ => fun
  | [d1, d2] => { results := [.lit (.bool false)], args := [d1, d2] }
  | _ => none }
def SlotJoinWrongFalsely : Prop := slotJoinRow.holds Try.pinned (OpenSpec.ofChange slotJoinWrong)

/-- 'pentimentolaw06.SlotPiece': WHATEVER THE INPUT: true; the input reads as it did. -/
def slotPieceSpec : ChangeSpec := { name := "slotPiece", fn := fun _ => fun
  | [d1, d2] => { results := [.lit (.bool true)], args := [d1, d2] }
  | _ => none }
def slotPieceRow : OpenClaim := { program := "ytjpeoedpljcpnaa", sum := "6cadb0e2f6278271c04c4b5bbcb3eecaaeec79850d2bc52d77cb3982f81c9b43", func := "pentimento/pentimentolaw06.SlotPiece", spec := "slotPiece", unfollowed := true, recurses := true, apart := false }
def SlotPieceSaid : Prop := slotPieceRow.holds Try.pinned (OpenSpec.ofChange slotPieceSpec)

/-- ITS FALSE NEIGHBOUR: 'it returns false'. Refute it at one input. -/
def slotPieceWrong : ChangeSpec := { name := "slotPiece", fn := fun _ => fun
  | [d1, d2] => { results := [.lit (.bool false)], args := [d1, d2] }
  | _ => none }
def SlotPieceWrongFalsely : Prop := slotPieceRow.holds Try.pinned (OpenSpec.ofChange slotPieceWrong)

/- THE SECOND FORM. 'bulk': how many values and letters a reading holds, each counted each time it is reached (what is shared counts as often as it is met; a slice's spare places count too). A statement '..UptoSaid' is the law's where the arguments, and the package variables that the reading takes, are together of bulk at most 1048576: NARROWER than '..Said'. Prove '..Said' where nothing that the law and all that it calls make is longer than what came in: it says more and counts as full. Else prove '..UptoSaid'. A law counts once. -/
mutual
def uptoBulk {H : Type} : DataW H → Nat
  | .lit (.string bytes) => bytes.length + 1
  | .lit _ => 1
  | .nil => 1
  | .ptr d => uptoBulk d + 1
  | .slice elems spare => uptoBulkAll elems + uptoBulkAll spare + 1
  | .agg parts => uptoBulkAll parts + 1
  | .iface _ d => uptoBulk d + 1
  | .map entries => uptoBulkEntries entries + 1
  | .held _ => 1
def uptoBulkAll {H : Type} : List (DataW H) → Nat
  | [] => 0
  | d :: r => uptoBulk d + uptoBulkAll r
def uptoBulkEntries {H : Type} : List (Lit × DataW H) → Nat
  | [] => 0
  | x :: r => uptoBulkEntry x + uptoBulkEntries r
def uptoBulkEntry {H : Type} : Lit × DataW H → Nat
  | (.string bytes, d) => bytes.length + uptoBulk d + 1
  | (_, d) => uptoBulk d + 1
 end
def uptoSmall : (H : Type) → List (DataW H) → Bool := fun _ ds => decide (uptoBulkAll ds ≤ 1048576)
def OpenSpec.upto (s : _root_.Go.ChangeSpec) : _root_.Go.OpenSpec := { _root_.Go.OpenSpec.ofChange s with cond := some uptoSmall }

/-- 'pentimentolaw06.SlotOne', WHERE WHAT IT READS IS OF BULK AT MOST 1048576: true; the input reads as it did. -/
def slotOneUptoRow : OpenClaim := { program := "ytjpeoedpljcpnaa", sum := "6cadb0e2f6278271c04c4b5bbcb3eecaaeec79850d2bc52d77cb3982f81c9b43", func := "pentimento/pentimentolaw06.SlotOne", spec := "slotOne", unfollowed := true, recurses := true, apart := false, narrowed := true }
def SlotOneUptoSaid : Prop := slotOneUptoRow.holds Try.pinned (OpenSpec.upto slotOneSpec)

/-- 'pentimentolaw06.SlotMany', WHERE WHAT IT READS IS OF BULK AT MOST 1048576: true; the input reads as it did. -/
def slotManyUptoRow : OpenClaim := { program := "ytjpeoedpljcpnaa", sum := "6cadb0e2f6278271c04c4b5bbcb3eecaaeec79850d2bc52d77cb3982f81c9b43", func := "pentimento/pentimentolaw06.SlotMany", spec := "slotMany", unfollowed := true, recurses := true, apart := false, narrowed := true }
def SlotManyUptoSaid : Prop := slotManyUptoRow.holds Try.pinned (OpenSpec.upto slotManySpec)

/-- 'pentimentolaw06.SlotBack', WHERE WHAT IT READS IS OF BULK AT MOST 1048576: true; the input reads as it did. -/
def slotBackUptoRow : OpenClaim := { program := "ytjpeoedpljcpnaa", sum := "6cadb0e2f6278271c04c4b5bbcb3eecaaeec79850d2bc52d77cb3982f81c9b43", func := "pentimento/pentimentolaw06.SlotBack", spec := "slotBack", unfollowed := true, recurses := true, apart := false, narrowed := true }
def SlotBackUptoSaid : Prop := slotBackUptoRow.holds Try.pinned (OpenSpec.upto slotBackSpec)

/-- 'pentimentolaw06.SlotUnlike', WHERE WHAT IT READS IS OF BULK AT MOST 1048576: true; the input reads as it did. -/
def slotUnlikeUptoRow : OpenClaim := { program := "ytjpeoedpljcpnaa", sum := "6cadb0e2f6278271c04c4b5bbcb3eecaaeec79850d2bc52d77cb3982f81c9b43", func := "pentimento/pentimentolaw06.SlotUnlike", spec := "slotUnlike", unfollowed := true, recurses := true, apart := false, narrowed := true }
def SlotUnlikeUptoSaid : Prop := slotUnlikeUptoRow.holds Try.pinned (OpenSpec.upto slotUnlikeSpec)

/-- 'pentimentolaw06.SlotJoin', WHERE WHAT IT READS IS OF BULK AT MOST 1048576: true; the input reads as it did. -/
def slotJoinUptoRow : OpenClaim := { program := "ytjpeoedpljcpnaa", sum := "6cadb0e2f6278271c04c4b5bbcb3eecaaeec79850d2bc52d77cb3982f81c9b43", func := "pentimento/pentimentolaw06.SlotJoin", spec := "slotJoin", unfollowed := true, recurses := true, apart := false, narrowed := true }
def SlotJoinUptoSaid : Prop := slotJoinUptoRow.holds Try.pinned (OpenSpec.upto slotJoinSpec)

/-- 'pentimentolaw06.SlotPiece', WHERE WHAT IT READS IS OF BULK AT MOST 1048576: true; the input reads as it did. -/
def slotPieceUptoRow : OpenClaim := { program := "ytjpeoedpljcpnaa", sum := "6cadb0e2f6278271c04c4b5bbcb3eecaaeec79850d2bc52d77cb3982f81c9b43", func := "pentimento/pentimentolaw06.SlotPiece", spec := "slotPiece", unfollowed := true, recurses := true, apart := false, narrowed := true }
def SlotPieceUptoSaid : Prop := slotPieceUptoRow.holds Try.pinned (OpenSpec.upto slotPieceSpec)

end Rows
end Go.Proofs.Ytjpeoedpljcpnaa
