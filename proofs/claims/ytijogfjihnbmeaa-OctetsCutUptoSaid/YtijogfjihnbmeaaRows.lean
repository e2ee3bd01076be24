/-
  No cell of these rows narrows 'for every input' (looked for: loops, veiled, ifaces, maps, wideKeys, modest, calm, conditions, laid).
  DERIVED. THE GIVEN ROWS OF THIS SEAT. 8 by the template 'for every input the law returns true; each argument reads behind the call as it read before'; 0 by the template 'total and deterministic' (their statements: YtijogfjihnbmeaaTotals.lean).
  GIVEN WITH THE SEED: the statements are not yours to turn. If you find one false, say at which input.
  Laid BY PROGRAM, IN A SANDBOX (cutbox-rows.mjs): the forced cells as the released guide's own fill.sh prints them over the translation 81f95aa1f99e67bb… (all of the seat's roots in one cut). By AI agents, Wed Nov 11 2026. No macro, syntax, notation, axiom, sorry.
-/
import Derived.Test.YtijogfjihnbmeaaChecked
import GoSem.Claim
import GoSem.ClaimJoined
import GoSem.ClaimMapViews
import Derived.JoinedTies
import Derived.KernelRfl
namespace Go.Proofs.Ytijogfjihnbmeaa
/- THE CELL 'sum', in the pinned program and in every row, IS THE sha256 OF THE DUMP (.gsa) THAT YtijogfjihnbmeaaProg.lean LOADS. Nothing in Lean hashes anything: it is a label: what it is worth is what the hold of that sum in a sandbox is worth. -/
noncomputable def Try.pinned : Pinned := { name := "ytijogfjihnbmeaa", sum := "81f95aa1f99e67bbb246e7654f5979d70a4801901821d787037da89e16cc3888", checked := Try.checked }
namespace Rows
def none {H : Type} : Left H := { results := [], args := [] }

/-- 'pentimentolaw01.OctetsPuts': WHATEVER THE INPUT: true; the input reads as it did. -/
def octetsPutsSpec : ChangeSpec := { name := "octetsPuts", fn := fun _ => fun
  | [d1, d2, d3] => { results := [.lit (.bool true)], args := [d1, d2, d3] }
  | _ => none }
def octetsPutsRow : OpenClaim := { program := "ytijogfjihnbmeaa", sum := "81f95aa1f99e67bbb246e7654f5979d70a4801901821d787037da89e16cc3888", func := "pentimento/pentimentolaw01.OctetsPuts", spec := "octetsPuts", unfollowed := true, recurses := true, apart := false }
def OctetsPutsSaid : Prop := octetsPutsRow.holds Try.pinned (OpenSpec.ofChange octetsPutsSpec)

/-- ITS FALSE NEIGHBOUR: 'it returns false'. Refute it at one input. -/
def octetsPutsWrong : ChangeSpec := { name := "octetsPuts", fn := fun _ => fun
  | [d1, d2, d3] => { results := [.lit (.bool false)], args := [d1, d2, d3] }
  | _ => none }
def OctetsPutsWrongFalsely : Prop := octetsPutsRow.holds Try.pinned (OpenSpec.ofChange octetsPutsWrong)

/-- 'pentimentolaw01.OctetsOrder': WHATEVER THE INPUT: true; the input reads as it did. -/
def octetsOrderSpec : ChangeSpec := { name := "octetsOrder", fn := fun _ => fun
  | [d1, d2, d3] => { results := [.lit (.bool true)], args := [d1, d2, d3] }
  | _ => none }
def octetsOrderRow : OpenClaim := { program := "ytijogfjihnbmeaa", sum := "81f95aa1f99e67bbb246e7654f5979d70a4801901821d787037da89e16cc3888", func := "pentimento/pentimentolaw01.OctetsOrder", spec := "octetsOrder", unfollowed := true, recurses := true, apart := false }
def OctetsOrderSaid : Prop := octetsOrderRow.holds Try.pinned (OpenSpec.ofChange octetsOrderSpec)

/-- ITS FALSE NEIGHBOUR: 'it returns false'. Refute it at one input. -/
def octetsOrderWrong : ChangeSpec := { name := "octetsOrder", fn := fun _ => fun
  | [d1, d2, d3] => { results := [.lit (.bool false)], args := [d1, d2, d3] }
  | _ => none }
def OctetsOrderWrongFalsely : Prop := octetsOrderRow.holds Try.pinned (OpenSpec.ofChange octetsOrderWrong)

/-- 'pentimentolaw01.OctetsParts': WHATEVER THE INPUT: true; the input reads as it did. -/
def octetsPartsSpec : ChangeSpec := { name := "octetsParts", fn := fun _ => fun
  | [d1, d2, d3] => { results := [.lit (.bool true)], args := [d1, d2, d3] }
  | _ => none }
def octetsPartsRow : OpenClaim := { program := "ytijogfjihnbmeaa", sum := "81f95aa1f99e67bbb246e7654f5979d70a4801901821d787037da89e16cc3888", func := "pentimento/pentimentolaw01.OctetsParts", spec := "octetsParts", unfollowed := true, recurses := true, apart := false }
def OctetsPartsSaid : Prop := octetsPartsRow.holds Try.pinned (OpenSpec.ofChange octetsPartsSpec)

/-- ITS FALSE NEIGHBOUR: 'it returns false'. Refute it at one input. -/
def octetsPartsWrong : ChangeSpec := { name := "octetsParts", fn := fun _ => fun
  | [d1, d2, d3] => { results := [.lit (.bool false)], args := [d1, d2, d3] }
  | _ => none }
def OctetsPartsWrongFalsely : Prop := octetsPartsRow.holds Try.pinned (OpenSpec.ofChange octetsPartsWrong)

/-- 'pentimentolaw01.OctetsCut': WHATEVER THE INPUT: true; the input reads as it did. -/
def octetsCutSpec : ChangeSpec := { name := "octetsCut", fn := fun _ => fun
  | [d1, d2] => { results := [.lit (.bool true)], args := [d1, d2] }
  | _ => none }
def octetsCutRow : OpenClaim := { program := "ytijogfjihnbmeaa", sum := "81f95aa1f99e67bbb246e7654f5979d70a4801901821d787037da89e16cc3888", func := "pentimento/pentimentolaw01.OctetsCut", spec := "octetsCut", unfollowed := true, recurses := true, apart := false }
def OctetsCutSaid : Prop := octetsCutRow.holds Try.pinned (OpenSpec.ofChange octetsCutSpec)

/-- ITS FALSE NEIGHBOUR: 'it returns false'. Refute it at one input. -/
def octetsCutWrong : ChangeSpec := { name := "octetsCut", fn := fun _ => fun
  | [d1, d2] => { results := [.lit (.bool false)], args := [d1, d2] }
  | _ => none }
def OctetsCutWrongFalsely : Prop := octetsCutRow.holds Try.pinned (OpenSpec.ofChange octetsCutWrong)

/-- 'pentimentolaw01.OctetsStops': WHATEVER THE INPUT: true; the input reads as it did. -/
def octetsStopsSpec : ChangeSpec := { name := "octetsStops", fn := fun _ => fun
  | [d1, d2, d3] => { results := [.lit (.bool true)], args := [d1, d2, d3] }
  | _ => none }
def octetsStopsRow : OpenClaim := { program := "ytijogfjihnbmeaa", sum := "81f95aa1f99e67bbb246e7654f5979d70a4801901821d787037da89e16cc3888", func := "pentimento/pentimentolaw01.OctetsStops", spec := "octetsStops", unfollowed := true, recurses := true, apart := false }
def OctetsStopsSaid : Prop := octetsStopsRow.holds Try.pinned (OpenSpec.ofChange octetsStopsSpec)

/-- ITS FALSE NEIGHBOUR: 'it returns false'. Refute it at one input. -/
def octetsStopsWrong : ChangeSpec := { name := "octetsStops", fn := fun _ => fun
  | [d1, d2, d3] => { results := [.lit (.bool false)], args := [d1, d2, d3] }
  | _ => none }
def OctetsStopsWrongFalsely : Prop := octetsStopsRow.holds Try.pinned (OpenSpec.ofChange octetsStopsWrong)

/-- 'pentimentolaw01.OctetsReads': WHATEVER THE INPUT: true; the input reads as it did. -/
def octetsReadsSpec : ChangeSpec := { name := "octetsReads", fn := fun _ => fun
  | [d1, d2] => { results := [.lit (.bool true)], args := [d1, d2] }
  | _ => none }
def octetsReadsRow : OpenClaim := { program := "ytijogfjihnbmeaa", sum := "81f95aa1f99e67bbb246e7654f5979d70a4801901821d787037da89e16cc3888", func := "pentimento/pentimentolaw01.OctetsReads", spec := "octetsReads", unfollowed := true, recurses := true, apart := false }
def OctetsReadsSaid : Prop := octetsReadsRow.holds Try.pinned (OpenSpec.ofChange octetsReadsSpec)

/-- ITS FALSE NEIGHBOUR: 'it returns false'. Refute it at one input. -/
def octetsReadsWrong : ChangeSpec := { name := "octetsReads", fn := fun _ => fun
  | [d1, d2] => { results := [.lit (.bool false)], args := [d1, d2] }
  | _ => none }
def OctetsReadsWrongFalsely : Prop := octetsReadsRow.holds Try.pinned (OpenSpec.ofChange octetsReadsWrong)

/-- 'pentimentolaw01.OctetsBack': WHATEVER THE INPUT: true; the input reads as it did. -/
def octetsBackSpec : ChangeSpec := { name := "octetsBack", fn := fun _ => fun
  | [d1, d2] => { results := [.lit (.bool true)], args := [d1, d2] }
  | _ => none }
def octetsBackRow : OpenClaim := { program := "ytijogfjihnbmeaa", sum := "81f95aa1f99e67bbb246e7654f5979d70a4801901821d787037da89e16cc3888", func := "pentimento/pentimentolaw01.OctetsBack", spec := "octetsBack", unfollowed := true, recurses := true, apart := false }
def OctetsBackSaid : Prop := octetsBackRow.holds Try.pinned (OpenSpec.ofChange octetsBackSpec)

/-- ITS FALSE NEIGHBOUR: 'it returns false'. Refute it at one input. -/
def octetsBackWrong : ChangeSpec := { name := "octetsBack", fn := fun _ => fun
  | [d1, d2] => { results := [.lit (.bool false)], args := [d1, d2] }
  | _ => none }
def OctetsBackWrongFalsely : Prop := octetsBackRow.holds Try.pinned (OpenSpec.ofChange octetsBackWrong)

/-- 'pentimentolaw01.OctetsSkips': WHATEVER THE INPUT: true; the input reads as it did. -/
def octetsSkipsSpec : ChangeSpec := { name := "octetsSkips", fn := fun _ => fun
  | [d1, d2] => { results := [.lit (.bool true)], args := [d1, d2] }
  | _ => none }
def octetsSkipsRow : OpenClaim := { program := "ytijogfjihnbmeaa", sum := "81f95aa1f99e67bbb246e7654f5979d70a4801901821d787037da89e16cc3888", func := "pentimento/pentimentolaw01.OctetsSkips", spec := "octetsSkips", unfollowed := true, recurses := true, apart := false }
def OctetsSkipsSaid : Prop := octetsSkipsRow.holds Try.pinned (OpenSpec.ofChange octetsSkipsSpec)

/-- ITS FALSE NEIGHBOUR: 'it returns false'. Refute it at one input. -/
def octetsSkipsWrong : ChangeSpec := { name := "octetsSkips", fn := fun _ => fun
  | [d1, d2] => { results := [.lit (.bool false)], args := [d1, d2] }
  | _ => none }
def OctetsSkipsWrongFalsely : Prop := octetsSkipsRow.holds Try.pinned (OpenSpec.ofChange octetsSkipsWrong)

/- THE SECOND FORM. 'bulk': how many values and letters a reading holds, each counted each time it is reached (what is shared counts as often as it is met; a slice's spare places count too). A statement '..UptoSaid' is the law's where the arguments, and the package variables that the reading takes, are together of bulk at most 1048576: NARROWER than '..Said'. Prove '..Said' where nothing that the law and all that it calls make is longer than what came in: it says more and counts as full. Else prove '..UptoSaid'. A law counts once. -/
mutual
def uptoBulk {H : Type} : DataW H → Nat
  | .lit (.string bytes) => bytes.length + 1
  | .lit _ => 1
  | .nil => 1
  | .ptr d => uptoBulk d + 1
  | .slice elems spare => uptoBulkAll elems + uptoBulkAll spare + 1
  | .agg parts => uptoBulkAll parts + 1
  | .iface _ d => uptoBulk d + 1
  | .map entries => uptoBulkEntries entries + 1
  | .held _ => 1
def uptoBulkAll {H : Type} : List (DataW H) → Nat
  | [] => 0
  | d :: r => uptoBulk d + uptoBulkAll r
def uptoBulkEntries {H : Type} : List (Lit × DataW H) → Nat
  | [] => 0
  | x :: r => uptoBulkEntry x + uptoBulkEntries r
def uptoBulkEntry {H : Type} : Lit × DataW H → Nat
  | (.string bytes, d) => bytes.length + uptoBulk d + 1
  | (_, d) => uptoBulk d + 1
 end
def uptoSmall : (H : Type) → List (DataW H) → Bool := fun _ ds => decide (uptoBulkAll ds ≤ 1048576)
def OpenSpec.upto (s : _root_.Go.ChangeSpec) : _root_.Go.OpenSpec := { _root_.Go.OpenSpec.ofChange s with cond := some uptoSmall }

/-- 'pentimentolaw01.OctetsPuts', WHERE WHAT IT READS IS OF BULK AT MOST 1048576: true; the input reads as it did. -/
def octetsPutsUptoRow : OpenClaim := { program := "ytijogfjihnbmeaa", sum := "81f95aa1f99e67bbb246e7654f5979d70a4801901821d787037da89e16cc3888", func := "pentimento/pentimentolaw01.OctetsPuts", spec := "octetsPuts", unfollowed := true, recurses := true, apart := false, narrowed := true }
def OctetsPutsUptoSaid : Prop := octetsPutsUptoRow.holds Try.pinned (OpenSpec.upto octetsPutsSpec)

/-- 'pentimentolaw01.OctetsOrder', WHERE WHAT IT READS IS OF BULK AT MOST 1048576: true; the input reads as it did. -/
def octetsOrderUptoRow : OpenClaim := { program := "ytijogfjihnbmeaa", sum := "81f95aa1f99e67bbb246e7654f5979d70a4801901821d787037da89e16cc3888", func := "pentimento/pentimentolaw01.OctetsOrder", spec := "octetsOrder", unfollowed := true, recurses := true, apart := false, narrowed := true }
def OctetsOrderUptoSaid : Prop := octetsOrderUptoRow.holds Try.pinned (OpenSpec.upto octetsOrderSpec)

/-- 'pentimentolaw01.OctetsParts', WHERE WHAT IT READS IS OF BULK AT MOST 1048576: true; the input reads as it did. -/
def octetsPartsUptoRow : OpenClaim := { program := "ytijogfjihnbmeaa", sum := "81f95aa1f99e67bbb246e7654f5979d70a4801901821d787037da89e16cc3888", func := "pentimento/pentimentolaw01.OctetsParts", spec := "octetsParts", unfollowed := true, recurses := true, apart := false, narrowed := true }
def OctetsPartsUptoSaid : Prop := octetsPartsUptoRow.holds Try.pinned (OpenSpec.upto octetsPartsSpec)

/-- 'pentimentolaw01.OctetsCut', WHERE WHAT IT READS IS OF BULK AT MOST 1048576: true; the input reads as it did. -/
def octetsCutUptoRow : OpenClaim := { program := "ytijogfjihnbmeaa", sum := "81f95aa1f99e67bbb246e7654f5979d70a4801901821d787037da89e16cc3888", func := "pentimento/pentimentolaw01.OctetsCut", spec := "octetsCut", unfollowed := true, recurses := true, apart := false, narrowed := true }
def OctetsCutUptoSaid : Prop := octetsCutUptoRow.holds Try.pinned (OpenSpec.upto octetsCutSpec)

/-- 'pentimentolaw01.OctetsStops', WHERE WHAT IT READS IS OF BULK AT MOST 1048576: true; the input reads as it did. -/
def octetsStopsUptoRow : OpenClaim := { program := "ytijogfjihnbmeaa", sum := "81f95aa1f99e67bbb246e7654f5979d70a4801901821d787037da89e16cc3888", func := "pentimento/pentimentolaw01.OctetsStops", spec := "octetsStops", unfollowed := true, recurses := true, apart := false, narrowed := true }
def OctetsStopsUptoSaid : Prop := octetsStopsUptoRow.holds Try.pinned (OpenSpec.upto octetsStopsSpec)

/-- 'pentimentolaw01.OctetsReads', WHERE WHAT IT READS IS OF BULK AT MOST 1048576: true; the input reads as it did. -/
def octetsReadsUptoRow : OpenClaim := { program := "ytijogfjihnbmeaa", sum := "81f95aa1f99e67bbb246e7654f5979d70a4801901821d787037da89e16cc3888", func := "pentimento/pentimentolaw01.OctetsReads", spec := "octetsReads", unfollowed := true, recurses := true, apart := false, narrowed := true }
def OctetsReadsUptoSaid : Prop := octetsReadsUptoRow.holds Try.pinned (OpenSpec.upto octetsReadsSpec)

/-- 'pentimentolaw01.OctetsBack', WHERE WHAT IT READS IS OF BULK AT MOST 1048576: true; the input reads as it did. -/
def octetsBackUptoRow : OpenClaim := { program := "ytijogfjihnbmeaa", sum := "81f95aa1f99e67bbb246e7654f5979d70a4801901821d787037da89e16cc3888", func := "pentimento/pentimentolaw01.OctetsBack", spec := "octetsBack", unfollowed := true, recurses := true, apart := false, narrowed := true }
def OctetsBackUptoSaid : Prop := octetsBackUptoRow.holds Try.pinned (OpenSpec.upto octetsBackSpec)

/-- 'pentimentolaw01.OctetsSkips', WHERE WHAT IT READS IS OF BULK AT MOST 1048576: true; the input reads as it did. -/
def octetsSkipsUptoRow : OpenClaim := { program := "ytijogfjihnbmeaa", sum := "81f95aa1f99e67bbb246e7654f5979d70a4801901821d787037da89e16cc3888", func := "pentimento/pentimentolaw01.OctetsSkips", spec := "octetsSkips", unfollowed := true, recurses := true, apart := false, narrowed := true }
def OctetsSkipsUptoSaid : Prop := octetsSkipsUptoRow.holds Try.pinned (OpenSpec.upto octetsSkipsSpec)

end Rows
end Go.Proofs.Ytijogfjihnbmeaa
