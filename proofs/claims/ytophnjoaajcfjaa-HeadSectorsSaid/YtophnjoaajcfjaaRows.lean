/-
  No cell of these rows narrows 'for every input' (looked for: loops, veiled, ifaces, maps, wideKeys, modest, calm, conditions, laid).
  DERIVED. THE GIVEN ROWS OF THIS SEAT. 6 by the template 'for every input the law returns true; each argument reads behind the call as it read before'; 0 by the template 'total and deterministic' (their statements: YtophnjoaajcfjaaTotals.lean).
  GIVEN WITH THE SEED: the statements are not yours to turn. If you find one false, say at which input.
  Laid BY PROGRAM, IN A SANDBOX (cutbox-rows.mjs): the forced cells as the released guide's own fill.sh prints them over the translation 18f9a943b6429b5c… (all of the seat's roots in one cut). By AI agents, Wed Nov 11 2026. No macro, syntax, notation, axiom, sorry.
-/
import Derived.Test.YtophnjoaajcfjaaChecked
import GoSem.Claim
import GoSem.ClaimJoined
import GoSem.ClaimMapViews
import Derived.JoinedTies
import Derived.KernelRfl
namespace Go.Proofs.Ytophnjoaajcfjaa
/- THE CELL 'sum', in the pinned program and in every row, IS THE sha256 OF THE DUMP (.gsa) THAT YtophnjoaajcfjaaProg.lean LOADS. Nothing in Lean hashes anything: it is a label: what it is worth is what the hold of that sum in a sandbox is worth. -/
noncomputable def Try.pinned : Pinned := { name := "ytophnjoaajcfjaa", sum := "18f9a943b6429b5c709bb63fe0e91d16fa7f9d1fd1086c62b012fb7853e4eb44", checked := Try.checked }
namespace Rows
def none {H : Type} : Left H := { results := [], args := [] }

/-- 'pentimentolaw05.HeadWrites': WHATEVER THE INPUT: true; the input reads as it did. -/
def headWritesSpec : ChangeSpec := { name := "headWrites", fn := fun _ => fun
  | [d1, d2] => { results := [.lit (.bool true)], args := [d1, d2] }
  | _ => none }
def headWritesRow : OpenClaim := { program := "ytophnjoaajcfjaa", sum := "18f9a943b6429b5c709bb63fe0e91d16fa7f9d1fd1086c62b012fb7853e4eb44", func := "pentimento/pentimentolaw05.HeadWrites", spec := "headWrites", unfollowed := true, recurses := true, apart := false }
def HeadWritesSaid : Prop := headWritesRow.holds Try.pinned (OpenSpec.ofChange headWritesSpec)

/-- ITS FALSE NEIGHBOUR: 'it returns false'. Refute it at one input. -/
def headWritesWrong : ChangeSpec := { name := "headWrites", fn := fun _ => fun
  | [d1, d2] => { results := [.lit (.bool false)], args := [d1, d2] }
  | _ => none }
def HeadWritesWrongFalsely : Prop := headWritesRow.holds Try.pinned (OpenSpec.ofChange headWritesWrong)

/-- 'pentimentolaw05.HeadReads': WHATEVER THE INPUT: true; the input reads as it did. -/
def headReadsSpec : ChangeSpec := { name := "headReads", fn := fun _ => fun
  | [d] => { results := [.lit (.bool true)], args := [d] }
  | _ => none }
def headReadsRow : OpenClaim := { program := "ytophnjoaajcfjaa", sum := "18f9a943b6429b5c709bb63fe0e91d16fa7f9d1fd1086c62b012fb7853e4eb44", func := "pentimento/pentimentolaw05.HeadReads", spec := "headReads", unfollowed := true, recurses := true, apart := false }
def HeadReadsSaid : Prop := headReadsRow.holds Try.pinned (OpenSpec.ofChange headReadsSpec)

/-- ITS FALSE NEIGHBOUR: 'it returns false'. Refute it at one input. -/
def headReadsWrong : ChangeSpec := { name := "headReads", fn := fun _ => fun
  | [d] => { results := [.lit (.bool false)], args := [d] }
  | _ => none }
def HeadReadsWrongFalsely : Prop := headReadsRow.holds Try.pinned (OpenSpec.ofChange headReadsWrong)

/-- 'pentimentolaw05.HeadBack': WHATEVER THE INPUT: true; the input reads as it did. -/
def headBackSpec : ChangeSpec := { name := "headBack", fn := fun _ => fun
  | [d1, d2, d3] => { results := [.lit (.bool true)], args := [d1, d2, d3] }
  | _ => none }
def headBackRow : OpenClaim := { program := "ytophnjoaajcfjaa", sum := "18f9a943b6429b5c709bb63fe0e91d16fa7f9d1fd1086c62b012fb7853e4eb44", func := "pentimento/pentimentolaw05.HeadBack", spec := "headBack", unfollowed := true, recurses := true, apart := false }
def HeadBackSaid : Prop := headBackRow.holds Try.pinned (OpenSpec.ofChange headBackSpec)

/-- ITS FALSE NEIGHBOUR: 'it returns false'. Refute it at one input. -/
def headBackWrong : ChangeSpec := { name := "headBack", fn := fun _ => fun
  | [d1, d2, d3] => { results := [.lit (.bool false)], args := [d1, d2, d3] }
  | _ => none }
def HeadBackWrongFalsely : Prop := headBackRow.holds Try.pinned (OpenSpec.ofChange headBackWrong)

/-- 'pentimentolaw05.HeadSame': WHATEVER THE INPUT: true; the input reads as it did. -/
def headSameSpec : ChangeSpec := { name := "headSame", fn := fun _ => fun
  | [d1, d2] => { results := [.lit (.bool true)], args := [d1, d2] }
  | _ => none }
def headSameRow : OpenClaim := { program := "ytophnjoaajcfjaa", sum := "18f9a943b6429b5c709bb63fe0e91d16fa7f9d1fd1086c62b012fb7853e4eb44", func := "pentimento/pentimentolaw05.HeadSame", spec := "headSame", unfollowed := true, recurses := true, apart := false }
def HeadSameSaid : Prop := headSameRow.holds Try.pinned (OpenSpec.ofChange headSameSpec)

/-- ITS FALSE NEIGHBOUR: 'it returns false'. Refute it at one input. -/
def headSameWrong : ChangeSpec := { name := "headSame", fn := fun _ => fun
  | [d1, d2] => { results := [.lit (.bool false)], args := [d1, d2] }
  | _ => none }
def HeadSameWrongFalsely : Prop := headSameRow.holds Try.pinned (OpenSpec.ofChange headSameWrong)

/-- 'pentimentolaw05.HeadSectors': WHATEVER THE INPUT: true; the input reads as it did. -/
def headSectorsSpec : ChangeSpec := { name := "headSectors", fn := fun _ => fun
  | [d] => { results := [.lit (.bool true)], args := [d] }
  | _ => none }
def headSectorsRow : OpenClaim := { program := "ytophnjoaajcfjaa", sum := "18f9a943b6429b5c709bb63fe0e91d16fa7f9d1fd1086c62b012fb7853e4eb44", func := "pentimento/pentimentolaw05.HeadSectors", spec := "headSectors", unfollowed := true, recurses := true, apart := false }
def HeadSectorsSaid : Prop := headSectorsRow.holds Try.pinned (OpenSpec.ofChange headSectorsSpec)

/-- ITS FALSE NEIGHBOUR: 'it returns false'. Refute it at one input. -/
def headSectorsWrong : ChangeSpec := { name := "headSectors", fn := fun _ => fun
  | [d] => { results := [.lit (.bool false)], args := [d] }
  | _ => none }
def HeadSectorsWrongFalsely : Prop := headSectorsRow.holds Try.pinned (OpenSpec.ofChange headSectorsWrong)

/-- 'pentimentolaw05.HeadCut': WHATEVER THE INPUT: true; the input reads as it did. -/
def headCutSpec : ChangeSpec := { name := "headCut", fn := fun _ => fun
  | [d1, d2, d3] => { results := [.lit (.bool true)], args := [d1, d2, d3] }
  | _ => none }
def headCutRow : OpenClaim := { program := "ytophnjoaajcfjaa", sum := "18f9a943b6429b5c709bb63fe0e91d16fa7f9d1fd1086c62b012fb7853e4eb44", func := "pentimento/pentimentolaw05.HeadCut", spec := "headCut", unfollowed := true, recurses := true, apart := false }
def HeadCutSaid : Prop := headCutRow.holds Try.pinned (OpenSpec.ofChange headCutSpec)

/-- ITS FALSE NEIGHBOUR: 'it returns false'. Refute it at one input. -/
def headCutWrong : ChangeSpec := { name := "headCut", fn := fun _ => fun
  | [d1, d2, d3] => { results := [.lit (.bool false)], args := [d1, d2, d3] }
  | _ => none }
def HeadCutWrongFalsely : Prop := headCutRow.holds Try.pinned (OpenSpec.ofChange headCutWrong)

/- THE SECOND FORM. 'bulk': how many values and letters a reading holds, each counted each time it is reached (what is shared counts as often as it is met; a slice's spare places count too). A statement '..UptoSaid' is the law's where the arguments, and the package variables that the reading takes, are together of bulk at most 1048576: NARROWER than '..Said'. Prove '..Said' where nothing that the law and all that it calls make is longer than what came in: it says more and counts as full. Else prove '..UptoSaid'. A law counts once. -/
mutual
def uptoBulk {H : Type} : DataW H → Nat
  | .lit (.string bytes) => bytes.length + 1
  | .lit _ => 1
  | .nil => 1
  | .ptr d => uptoBulk d + 1
  | .slice elems spare => uptoBulkAll elems + uptoBulkAll spare + 1
  | .agg parts => uptoBulkAll parts + 1
  | .iface _ d => uptoBulk d + 1
  | .map entries => uptoBulkEntries entries + 1
  | .held _ => 1
def uptoBulkAll {H : Type} : List (DataW H) → Nat
  | [] => 0
  | d :: r => uptoBulk d + uptoBulkAll r
def uptoBulkEntries {H : Type} : List (Lit × DataW H) → Nat
  | [] => 0
  | x :: r => uptoBulkEntry x + uptoBulkEntries r
def uptoBulkEntry {H : Type} : Lit × DataW H → Nat
  | (.string bytes, d) => bytes.length + uptoBulk d + 1
  | (_, d) => uptoBulk d + 1
 end
def uptoSmall : (H : Type) → List (DataW H) → Bool := fun _ ds => decide (uptoBulkAll ds ≤ 1048576)
def OpenSpec.upto (s : _root_.Go.ChangeSpec) : _root_.Go.OpenSpec := { _root_.Go.OpenSpec.ofChange s with cond := some uptoSmall }

/-- 'pentimentolaw05.HeadWrites', WHERE WHAT IT READS IS OF BULK AT MOST 1048576: true; the input reads as it did. -/
def headWritesUptoRow : OpenClaim := { program := "ytophnjoaajcfjaa", sum := "18f9a943b6429b5c709bb63fe0e91d16fa7f9d1fd1086c62b012fb7853e4eb44", func := "pentimento/pentimentolaw05.HeadWrites", spec := "headWrites", unfollowed := true, recurses := true, apart := false, narrowed := true }
def HeadWritesUptoSaid : Prop := headWritesUptoRow.holds Try.pinned (OpenSpec.upto headWritesSpec)

/-- 'pentimentolaw05.HeadReads', WHERE WHAT IT READS IS OF BULK AT MOST 1048576: true; the input reads as it did. -/
def headReadsUptoRow : OpenClaim := { program := "ytophnjoaajcfjaa", sum := "18f9a943b6429b5c709bb63fe0e91d16fa7f9d1fd1086c62b012fb7853e4eb44", func := "pentimento/pentimentolaw05.HeadReads", spec := "headReads", unfollowed := true, recurses := true, apart := false, narrowed := true }
def HeadReadsUptoSaid : Prop := headReadsUptoRow.holds Try.pinned (OpenSpec.upto headReadsSpec)

/-- 'pentimentolaw05.HeadBack', WHERE WHAT IT READS IS OF BULK AT MOST 1048576: true; the input reads as it did. -/
def headBackUptoRow : OpenClaim := { program := "ytophnjoaajcfjaa", sum := "18f9a943b6429b5c709bb63fe0e91d16fa7f9d1fd1086c62b012fb7853e4eb44", func := "pentimento/pentimentolaw05.HeadBack", spec := "headBack", unfollowed := true, recurses := true, apart := false, narrowed := true }
def HeadBackUptoSaid : Prop := headBackUptoRow.holds Try.pinned (OpenSpec.upto headBackSpec)

/-- 'pentimentolaw05.HeadSame', WHERE WHAT IT READS IS OF BULK AT MOST 1048576: true; the input reads as it did. -/
def headSameUptoRow : OpenClaim := { program := "ytophnjoaajcfjaa", sum := "18f9a943b6429b5c709bb63fe0e91d16fa7f9d1fd1086c62b012fb7853e4eb44", func := "pentimento/pentimentolaw05.HeadSame", spec := "headSame", unfollowed := true, recurses := true, apart := false, narrowed := true }
def HeadSameUptoSaid : Prop := headSameUptoRow.holds Try.pinned (OpenSpec.upto headSameSpec)

/-- 'pentimentolaw05.HeadSectors', WHERE WHAT IT READS IS OF BULK AT MOST 1048576: true; the input reads as it did. -/
def headSectorsUptoRow : OpenClaim := { program := "ytophnjoaajcfjaa", sum := "18f9a943b6429b5c709bb63fe0e91d16fa7f9d1fd1086c62b012fb7853e4eb44", func := "pentimento/pentimentolaw05.HeadSectors", spec := "headSectors", unfollowed := true, recurses := true, apart := false, narrowed := true }
def HeadSectorsUptoSaid : Prop := headSectorsUptoRow.holds Try.pinned (OpenSpec.upto headSectorsSpec)

/-- 'pentimentolaw05.HeadCut', WHERE WHAT IT READS IS OF BULK AT MOST 1048576: true; the input reads as it did. -/
def headCutUptoRow : OpenClaim := { program := "ytophnjoaajcfjaa", sum := "18f9a943b6429b5c709bb63fe0e91d16fa7f9d1fd1086c62b012fb7853e4eb44", func := "pentimento/pentimentolaw05.HeadCut", spec := "headCut", unfollowed := true, recurses := true, apart := false, narrowed := true }
def HeadCutUptoSaid : Prop := headCutUptoRow.holds Try.pinned (OpenSpec.upto headCutSpec)

end Rows
end Go.Proofs.Ytophnjoaajcfjaa
