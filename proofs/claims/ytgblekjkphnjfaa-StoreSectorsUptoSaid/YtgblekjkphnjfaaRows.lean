/-
  No cell of these rows narrows 'for every input' (looked for: loops, veiled, ifaces, maps, wideKeys, modest, calm, conditions, laid).
  DERIVED. THE GIVEN ROWS OF THIS SEAT. 7 by the template 'for every input the law returns true; each argument reads behind the call as it read before'; 0 by the template 'total and deterministic' (their statements: YtgblekjkphnjfaaTotals.lean).
  GIVEN WITH THE SEED: the statements are not yours to turn. If you find one false, say at which input.
  Laid BY PROGRAM, IN A SANDBOX (cutbox-rows.mjs): the forced cells as the released guide's own fill.sh prints them over the translation 8b5c8230c7650406… (all of the seat's roots in one cut). By AI agents, Wed Nov 11 2026. No macro, syntax, notation, axiom, sorry.
-/
import Derived.Test.YtgblekjkphnjfaaChecked
import GoSem.Claim
import GoSem.ClaimJoined
import GoSem.ClaimMapViews
import Derived.JoinedTies
import Derived.KernelRfl
namespace Go.Proofs.Ytgblekjkphnjfaa
/- THE CELL 'sum', in the pinned program and in every row, IS THE sha256 OF THE DUMP (.gsa) THAT YtgblekjkphnjfaaProg.lean LOADS. Nothing in Lean hashes anything: it is a label: what it is worth is what the hold of that sum in a sandbox is worth. -/
noncomputable def Try.pinned : Pinned := { name := "ytgblekjkphnjfaa", sum := "8b5c8230c76504069e4c210957cf8dae5b402fa1185ee8b2f54caaa19b48fbb5", checked := Try.checked }
namespace Rows
def none {H : Type} : Left H := { results := [], args := [] }

/-- 'pentimentolaw03.StoreSectors': WHATEVER THE INPUT: true; the input reads as it did. -/
def storeSectorsSpec : ChangeSpec := { name := "storeSectors", fn := fun _ => fun
  | [d1, d2, d3] => { results := [.lit (.bool true)], args := [d1, d2, d3] }
  | _ => none }
def storeSectorsRow : OpenClaim := { program := "ytgblekjkphnjfaa", sum := "8b5c8230c76504069e4c210957cf8dae5b402fa1185ee8b2f54caaa19b48fbb5", func := "pentimento/pentimentolaw03.StoreSectors", spec := "storeSectors", inPlace := ["maps.clone"], unfollowed := true, recurses := true, apart := false }
def StoreSectorsSaid : Prop := storeSectorsRow.holds Try.pinned (OpenSpec.ofChange storeSectorsSpec)

/-- ITS FALSE NEIGHBOUR: 'it returns false'. Refute it at one input. -/
def storeSectorsWrong : ChangeSpec := { name := "storeSectors", fn := fun _ => fun
  | [d1, d2, d3] => { results := [.lit (.bool false)], args := [d1, d2, d3] }
  | _ => none }
def StoreSectorsWrongFalsely : Prop := storeSectorsRow.holds Try.pinned (OpenSpec.ofChange storeSectorsWrong)

/-- 'pentimentolaw03.StoreWrites': WHATEVER THE INPUT: true; the input reads as it did. -/
def storeWritesSpec : ChangeSpec := { name := "storeWrites", fn := fun _ => fun
  | [d1, d2] => { results := [.lit (.bool true)], args := [d1, d2] }
  | _ => none }
def storeWritesRow : OpenClaim := { program := "ytgblekjkphnjfaa", sum := "8b5c8230c76504069e4c210957cf8dae5b402fa1185ee8b2f54caaa19b48fbb5", func := "pentimento/pentimentolaw03.StoreWrites", spec := "storeWrites", inPlace := ["maps.clone"], unfollowed := true, recurses := true, apart := false }
def StoreWritesSaid : Prop := storeWritesRow.holds Try.pinned (OpenSpec.ofChange storeWritesSpec)

/-- ITS FALSE NEIGHBOUR: 'it returns false'. Refute it at one input. -/
def storeWritesWrong : ChangeSpec := { name := "storeWrites", fn := fun _ => fun
  | [d1, d2] => { results := [.lit (.bool false)], args := [d1, d2] }
  | _ => none }
def StoreWritesWrongFalsely : Prop := storeWritesRow.holds Try.pinned (OpenSpec.ofChange storeWritesWrong)

/-- 'pentimentolaw03.StoreRoom': WHATEVER THE INPUT: true; the input reads as it did. -/
def storeRoomSpec : ChangeSpec := { name := "storeRoom", fn := fun _ => fun
  | [d1, d2] => { results := [.lit (.bool true)], args := [d1, d2] }
  | _ => none }
def storeRoomRow : OpenClaim := { program := "ytgblekjkphnjfaa", sum := "8b5c8230c76504069e4c210957cf8dae5b402fa1185ee8b2f54caaa19b48fbb5", func := "pentimento/pentimentolaw03.StoreRoom", spec := "storeRoom", inPlace := ["maps.clone"], unfollowed := true, recurses := true, apart := false }
def StoreRoomSaid : Prop := storeRoomRow.holds Try.pinned (OpenSpec.ofChange storeRoomSpec)

/-- ITS FALSE NEIGHBOUR: 'it returns false'. Refute it at one input. -/
def storeRoomWrong : ChangeSpec := { name := "storeRoom", fn := fun _ => fun
  | [d1, d2] => { results := [.lit (.bool false)], args := [d1, d2] }
  | _ => none }
def StoreRoomWrongFalsely : Prop := storeRoomRow.holds Try.pinned (OpenSpec.ofChange storeRoomWrong)

/-- 'pentimentolaw03.StoreShrinks': WHATEVER THE INPUT: true; the input reads as it did. -/
def storeShrinksSpec : ChangeSpec := { name := "storeShrinks", fn := fun _ => fun
  | [d1, d2] => { results := [.lit (.bool true)], args := [d1, d2] }
  | _ => none }
def storeShrinksRow : OpenClaim := { program := "ytgblekjkphnjfaa", sum := "8b5c8230c76504069e4c210957cf8dae5b402fa1185ee8b2f54caaa19b48fbb5", func := "pentimento/pentimentolaw03.StoreShrinks", spec := "storeShrinks", inPlace := ["maps.clone"], unfollowed := true, recurses := true, apart := false }
def StoreShrinksSaid : Prop := storeShrinksRow.holds Try.pinned (OpenSpec.ofChange storeShrinksSpec)

/-- ITS FALSE NEIGHBOUR: 'it returns false'. Refute it at one input. -/
def storeShrinksWrong : ChangeSpec := { name := "storeShrinks", fn := fun _ => fun
  | [d1, d2] => { results := [.lit (.bool false)], args := [d1, d2] }
  | _ => none }
def StoreShrinksWrongFalsely : Prop := storeShrinksRow.holds Try.pinned (OpenSpec.ofChange storeShrinksWrong)

/-- 'pentimentolaw03.StoreAll': WHATEVER THE INPUT: true; the input reads as it did. -/
def storeAllSpec : ChangeSpec := { name := "storeAll", fn := fun _ => fun
  | [d1, d2, d3] => { results := [.lit (.bool true)], args := [d1, d2, d3] }
  | _ => none }
def storeAllRow : OpenClaim := { program := "ytgblekjkphnjfaa", sum := "8b5c8230c76504069e4c210957cf8dae5b402fa1185ee8b2f54caaa19b48fbb5", func := "pentimento/pentimentolaw03.StoreAll", spec := "storeAll", inPlace := ["maps.clone"], unfollowed := true, recurses := true, apart := false }
def StoreAllSaid : Prop := storeAllRow.holds Try.pinned (OpenSpec.ofChange storeAllSpec)

/-- ITS FALSE NEIGHBOUR: 'it returns false'. Refute it at one input. -/
def storeAllWrong : ChangeSpec := { name := "storeAll", fn := fun _ => fun
  | [d1, d2, d3] => { results := [.lit (.bool false)], args := [d1, d2, d3] }
  | _ => none }
def StoreAllWrongFalsely : Prop := storeAllRow.holds Try.pinned (OpenSpec.ofChange storeAllWrong)

/-- 'pentimentolaw03.StoreSafe': WHATEVER THE INPUT: true; the input reads as it did. -/
def storeSafeSpec : ChangeSpec := { name := "storeSafe", fn := fun _ => fun
  | [d1, d2, d3] => { results := [.lit (.bool true)], args := [d1, d2, d3] }
  | _ => none }
def storeSafeRow : OpenClaim := { program := "ytgblekjkphnjfaa", sum := "8b5c8230c76504069e4c210957cf8dae5b402fa1185ee8b2f54caaa19b48fbb5", func := "pentimento/pentimentolaw03.StoreSafe", spec := "storeSafe", inPlace := ["maps.clone"], unfollowed := true, recurses := true, apart := false }
def StoreSafeSaid : Prop := storeSafeRow.holds Try.pinned (OpenSpec.ofChange storeSafeSpec)

/-- ITS FALSE NEIGHBOUR: 'it returns false'. Refute it at one input. -/
def storeSafeWrong : ChangeSpec := { name := "storeSafe", fn := fun _ => fun
  | [d1, d2, d3] => { results := [.lit (.bool false)], args := [d1, d2, d3] }
  | _ => none }
def StoreSafeWrongFalsely : Prop := storeSafeRow.holds Try.pinned (OpenSpec.ofChange storeSafeWrong)

/-- 'pentimentolaw03.StoreCopies': WHATEVER THE INPUT: true; the input reads as it did. -/
def storeCopiesSpec : ChangeSpec := { name := "storeCopies", fn := fun _ => fun
  | [d1, d2, d3] => { results := [.lit (.bool true)], args := [d1, d2, d3] }
  | _ => none }
def storeCopiesRow : OpenClaim := { program := "ytgblekjkphnjfaa", sum := "8b5c8230c76504069e4c210957cf8dae5b402fa1185ee8b2f54caaa19b48fbb5", func := "pentimento/pentimentolaw03.StoreCopies", spec := "storeCopies", inPlace := ["maps.clone"], unfollowed := true, recurses := true, apart := false }
def StoreCopiesSaid : Prop := storeCopiesRow.holds Try.pinned (OpenSpec.ofChange storeCopiesSpec)

/-- ITS FALSE NEIGHBOUR: 'it returns false'. Refute it at one input. -/
def storeCopiesWrong : ChangeSpec := { name := "storeCopies", fn := fun _ => fun
  | [d1, d2, d3] => { results := [.lit (.bool false)], args := [d1, d2, d3] }
  | _ => none }
def StoreCopiesWrongFalsely : Prop := storeCopiesRow.holds Try.pinned (OpenSpec.ofChange storeCopiesWrong)

/- THE SECOND FORM. 'bulk': how many values and letters a reading holds, each counted each time it is reached (what is shared counts as often as it is met; a slice's spare places count too). A statement '..UptoSaid' is the law's where the arguments, and the package variables that the reading takes, are together of bulk at most 1048576: NARROWER than '..Said'. Prove '..Said' where nothing that the law and all that it calls make is longer than what came in: it says more and counts as full. Else prove '..UptoSaid'. A law counts once. -/
mutual
def uptoBulk {H : Type} : DataW H → Nat
  | .lit (.string bytes) => bytes.length + 1
  | .lit _ => 1
  | .nil => 1
  | .ptr d => uptoBulk d + 1
  | .slice elems spare => uptoBulkAll elems + uptoBulkAll spare + 1
  | .agg parts => uptoBulkAll parts + 1
  | .iface _ d => uptoBulk d + 1
  | .map entries => uptoBulkEntries entries + 1
  | .held _ => 1
def uptoBulkAll {H : Type} : List (DataW H) → Nat
  | [] => 0
  | d :: r => uptoBulk d + uptoBulkAll r
def uptoBulkEntries {H : Type} : List (Lit × DataW H) → Nat
  | [] => 0
  | x :: r => uptoBulkEntry x + uptoBulkEntries r
def uptoBulkEntry {H : Type} : Lit × DataW H → Nat
  | (.string bytes, d) => bytes.length + uptoBulk d + 1
  | (_, d) => uptoBulk d + 1
 end
def uptoSmall : (H : Type) → List (DataW H) → Bool := fun _ ds => decide (uptoBulkAll ds ≤ 1048576)
def OpenSpec.upto (s : _root_.Go.ChangeSpec) : _root_.Go.OpenSpec := { _root_.Go.OpenSpec.ofChange s with cond := some uptoSmall }

/-- 'pentimentolaw03.StoreSectors', WHERE WHAT IT READS IS OF BULK AT MOST 1048576: true; the input reads as it did. -/
def storeSectorsUptoRow : OpenClaim := { program := "ytgblekjkphnjfaa", sum := "8b5c8230c76504069e4c210957cf8dae5b402fa1185ee8b2f54caaa19b48fbb5", func := "pentimento/pentimentolaw03.StoreSectors", spec := "storeSectors", inPlace := ["maps.clone"], unfollowed := true, recurses := true, apart := false, narrowed := true }
def StoreSectorsUptoSaid : Prop := storeSectorsUptoRow.holds Try.pinned (OpenSpec.upto storeSectorsSpec)

/-- 'pentimentolaw03.StoreWrites', WHERE WHAT IT READS IS OF BULK AT MOST 1048576: true; the input reads as it did. -/
def storeWritesUptoRow : OpenClaim := { program := "ytgblekjkphnjfaa", sum := "8b5c8230c76504069e4c210957cf8dae5b402fa1185ee8b2f54caaa19b48fbb5", func := "pentimento/pentimentolaw03.StoreWrites", spec := "storeWrites", inPlace := ["maps.clone"], unfollowed := true, recurses := true, apart := false, narrowed := true }
def StoreWritesUptoSaid : Prop := storeWritesUptoRow.holds Try.pinned (OpenSpec.upto storeWritesSpec)

/-- 'pentimentolaw03.StoreRoom', WHERE WHAT IT READS IS OF BULK AT MOST 1048576: true; the input reads as it did. -/
def storeRoomUptoRow : OpenClaim := { program := "ytgblekjkphnjfaa", sum := "8b5c8230c76504069e4c210957cf8dae5b402fa1185ee8b2f54caaa19b48fbb5", func := "pentimento/pentimentolaw03.StoreRoom", spec := "storeRoom", inPlace := ["maps.clone"], unfollowed := true, recurses := true, apart := false, narrowed := true }
def StoreRoomUptoSaid : Prop := storeRoomUptoRow.holds Try.pinned (OpenSpec.upto storeRoomSpec)

/-- 'pentimentolaw03.StoreShrinks', WHERE WHAT IT READS IS OF BULK AT MOST 1048576: true; the input reads as it did. -/
def storeShrinksUptoRow : OpenClaim := { program := "ytgblekjkphnjfaa", sum := "8b5c8230c76504069e4c210957cf8dae5b402fa1185ee8b2f54caaa19b48fbb5", func := "pentimento/pentimentolaw03.StoreShrinks", spec := "storeShrinks", inPlace := ["maps.clone"], unfollowed := true, recurses := true, apart := false, narrowed := true }
def StoreShrinksUptoSaid : Prop := storeShrinksUptoRow.holds Try.pinned (OpenSpec.upto storeShrinksSpec)

/-- 'pentimentolaw03.StoreAll', WHERE WHAT IT READS IS OF BULK AT MOST 1048576: true; the input reads as it did. -/
def storeAllUptoRow : OpenClaim := { program := "ytgblekjkphnjfaa", sum := "8b5c8230c76504069e4c210957cf8dae5b402fa1185ee8b2f54caaa19b48fbb5", func := "pentimento/pentimentolaw03.StoreAll", spec := "storeAll", inPlace := ["maps.clone"], unfollowed := true, recurses := true, apart := false, narrowed := true }
def StoreAllUptoSaid : Prop := storeAllUptoRow.holds Try.pinned (OpenSpec.upto storeAllSpec)

/-- 'pentimentolaw03.StoreSafe', WHERE WHAT IT READS IS OF BULK AT MOST 1048576: true; the input reads as it did. -/
def storeSafeUptoRow : OpenClaim := { program := "ytgblekjkphnjfaa", sum := "8b5c8230c76504069e4c210957cf8dae5b402fa1185ee8b2f54caaa19b48fbb5", func := "pentimento/pentimentolaw03.StoreSafe", spec := "storeSafe", inPlace := ["maps.clone"], unfollowed := true, recurses := true, apart := false, narrowed := true }
def StoreSafeUptoSaid : Prop := storeSafeUptoRow.holds Try.pinned (OpenSpec.upto storeSafeSpec)

/-- 'pentimentolaw03.StoreCopies', WHERE WHAT IT READS IS OF BULK AT MOST 1048576: true; the input reads as it did. -/
def storeCopiesUptoRow : OpenClaim := { program := "ytgblekjkphnjfaa", sum := "8b5c8230c76504069e4c210957cf8dae5b402fa1185ee8b2f54caaa19b48fbb5", func := "pentimento/pentimentolaw03.StoreCopies", spec := "storeCopies", inPlace := ["maps.clone"], unfollowed := true, recurses := true, apart := false, narrowed := true }
def StoreCopiesUptoSaid : Prop := storeCopiesUptoRow.holds Try.pinned (OpenSpec.upto storeCopiesSpec)

end Rows
end Go.Proofs.Ytgblekjkphnjfaa
