/-
  No cell of these rows narrows 'for every input' (looked for: loops, veiled, ifaces, maps, wideKeys, modest, calm, conditions, laid).
  DERIVED. THE GIVEN ROWS OF THIS SEAT. 7 by the template 'for every input the law returns true; each argument reads behind the call as it read before'; 0 by the template 'total and deterministic' (their statements: YtjkklndpfmemhaaTotals.lean).
  GIVEN WITH THE SEED: the statements are not yours to turn. If you find one false, say at which input.
  Laid BY PROGRAM, IN A SANDBOX (cutbox-rows.mjs): the forced cells as the released guide's own fill.sh prints them over the translation ebc32974e26259c6… (all of the seat's roots in one cut). By AI agents, Wed Nov 11 2026. No macro, syntax, notation, axiom, sorry.
-/
import Derived.Test.YtjkklndpfmemhaaChecked
import GoSem.Claim
import GoSem.ClaimJoined
import GoSem.ClaimMapViews
import Derived.JoinedTies
import Derived.KernelRfl
namespace Go.Proofs.Ytjkklndpfmemhaa
/- THE CELL 'sum', in the pinned program and in every row, IS THE sha256 OF THE DUMP (.gsa) THAT YtjkklndpfmemhaaProg.lean LOADS. Nothing in Lean hashes anything: it is a label: what it is worth is what the hold of that sum in a sandbox is worth. -/
noncomputable def Try.pinned : Pinned := { name := "ytjkklndpfmemhaa", sum := "ebc32974e26259c6424ee3b0b37c998cb9db95b66a51d54d7e754be9492ff8a1", checked := Try.checked }
namespace Rows
def none {H : Type} : Left H := { results := [], args := [] }

/-- 'pentimentolaw07.CountsTakes': WHATEVER THE INPUT: true; the input reads as it did. -/
def countsTakesSpec : ChangeSpec := { name := "countsTakes", fn := fun _ => fun
  | [d1, d2] => { results := [.lit (.bool true)], args := [d1, d2] }
  | _ => none }
def countsTakesRow : OpenClaim := { program := "ytjkklndpfmemhaa", sum := "ebc32974e26259c6424ee3b0b37c998cb9db95b66a51d54d7e754be9492ff8a1", func := "pentimento/pentimentolaw07.CountsTakes", spec := "countsTakes", unfollowed := true, recurses := true, apart := false }
def CountsTakesSaid : Prop := countsTakesRow.holds Try.pinned (OpenSpec.ofChange countsTakesSpec)

/-- ITS FALSE NEIGHBOUR: 'it returns false'. Refute it at one input. -/
def countsTakesWrong : ChangeSpec := { name := "countsTakes", fn := fun _ => fun
  | [d1, d2] => { results := [.lit (.bool false)], args := [d1, d2] }
  | _ => none }
def CountsTakesWrongFalsely : Prop := countsTakesRow.holds Try.pinned (OpenSpec.ofChange countsTakesWrong)

/-- 'pentimentolaw07.CountsAll': WHATEVER THE INPUT: true; the input reads as it did. -/
def countsAllSpec : ChangeSpec := { name := "countsAll", fn := fun _ => fun
  | [d1, d2] => { results := [.lit (.bool true)], args := [d1, d2] }
  | _ => none }
def countsAllRow : OpenClaim := { program := "ytjkklndpfmemhaa", sum := "ebc32974e26259c6424ee3b0b37c998cb9db95b66a51d54d7e754be9492ff8a1", func := "pentimento/pentimentolaw07.CountsAll", spec := "countsAll", unfollowed := true, recurses := true, apart := false }
def CountsAllSaid : Prop := countsAllRow.holds Try.pinned (OpenSpec.ofChange countsAllSpec)

/-- ITS FALSE NEIGHBOUR: 'it returns false'. Refute it at one input. -/
def countsAllWrong : ChangeSpec := { name := "countsAll", fn := fun _ => fun
  | [d1, d2] => { results := [.lit (.bool false)], args := [d1, d2] }
  | _ => none }
def CountsAllWrongFalsely : Prop := countsAllRow.holds Try.pinned (OpenSpec.ofChange countsAllWrong)

/-- 'pentimentolaw07.CountsBoth': WHATEVER THE INPUT: true; the input reads as it did. -/
def countsBothSpec : ChangeSpec := { name := "countsBoth", fn := fun _ => fun
  | [d1, d2, d3] => { results := [.lit (.bool true)], args := [d1, d2, d3] }
  | _ => none }
def countsBothRow : OpenClaim := { program := "ytjkklndpfmemhaa", sum := "ebc32974e26259c6424ee3b0b37c998cb9db95b66a51d54d7e754be9492ff8a1", func := "pentimento/pentimentolaw07.CountsBoth", spec := "countsBoth", unfollowed := true, recurses := true, apart := false }
def CountsBothSaid : Prop := countsBothRow.holds Try.pinned (OpenSpec.ofChange countsBothSpec)

/-- ITS FALSE NEIGHBOUR: 'it returns false'. Refute it at one input. -/
def countsBothWrong : ChangeSpec := { name := "countsBoth", fn := fun _ => fun
  | [d1, d2, d3] => { results := [.lit (.bool false)], args := [d1, d2, d3] }
  | _ => none }
def CountsBothWrongFalsely : Prop := countsBothRow.holds Try.pinned (OpenSpec.ofChange countsBothWrong)

/-- 'pentimentolaw07.CountsGrows': WHATEVER THE INPUT: true; the input reads as it did. -/
def countsGrowsSpec : ChangeSpec := { name := "countsGrows", fn := fun _ => fun
  | [d1, d2, d3] => { results := [.lit (.bool true)], args := [d1, d2, d3] }
  | _ => none }
def countsGrowsRow : OpenClaim := { program := "ytjkklndpfmemhaa", sum := "ebc32974e26259c6424ee3b0b37c998cb9db95b66a51d54d7e754be9492ff8a1", func := "pentimento/pentimentolaw07.CountsGrows", spec := "countsGrows", unfollowed := true, recurses := true, apart := false }
def CountsGrowsSaid : Prop := countsGrowsRow.holds Try.pinned (OpenSpec.ofChange countsGrowsSpec)

/-- ITS FALSE NEIGHBOUR: 'it returns false'. Refute it at one input. -/
def countsGrowsWrong : ChangeSpec := { name := "countsGrows", fn := fun _ => fun
  | [d1, d2, d3] => { results := [.lit (.bool false)], args := [d1, d2, d3] }
  | _ => none }
def CountsGrowsWrongFalsely : Prop := countsGrowsRow.holds Try.pinned (OpenSpec.ofChange countsGrowsWrong)

/-- 'pentimentolaw07.CountsSum': WHATEVER THE INPUT: true; the input reads as it did. -/
def countsSumSpec : ChangeSpec := { name := "countsSum", fn := fun _ => fun
  | [d1, d2] => { results := [.lit (.bool true)], args := [d1, d2] }
  | _ => none }
def countsSumRow : OpenClaim := { program := "ytjkklndpfmemhaa", sum := "ebc32974e26259c6424ee3b0b37c998cb9db95b66a51d54d7e754be9492ff8a1", func := "pentimento/pentimentolaw07.CountsSum", spec := "countsSum", unfollowed := true, recurses := true, apart := false }
def CountsSumSaid : Prop := countsSumRow.holds Try.pinned (OpenSpec.ofChange countsSumSpec)

/-- ITS FALSE NEIGHBOUR: 'it returns false'. Refute it at one input. -/
def countsSumWrong : ChangeSpec := { name := "countsSum", fn := fun _ => fun
  | [d1, d2] => { results := [.lit (.bool false)], args := [d1, d2] }
  | _ => none }
def CountsSumWrongFalsely : Prop := countsSumRow.holds Try.pinned (OpenSpec.ofChange countsSumWrong)

/-- 'pentimentolaw07.CountsCopies': WHATEVER THE INPUT: true; the input reads as it did. -/
def countsCopiesSpec : ChangeSpec := { name := "countsCopies", fn := fun _ => fun
  | [d1, d2, d3] => { results := [.lit (.bool true)], args := [d1, d2, d3] }
  | _ => none }
def countsCopiesRow : OpenClaim := { program := "ytjkklndpfmemhaa", sum := "ebc32974e26259c6424ee3b0b37c998cb9db95b66a51d54d7e754be9492ff8a1", func := "pentimento/pentimentolaw07.CountsCopies", spec := "countsCopies", unfollowed := true, recurses := true, apart := false }
def CountsCopiesSaid : Prop := countsCopiesRow.holds Try.pinned (OpenSpec.ofChange countsCopiesSpec)

/-- ITS FALSE NEIGHBOUR: 'it returns false'. Refute it at one input. -/
def countsCopiesWrong : ChangeSpec := { name := "countsCopies", fn := fun _ => fun
  | [d1, d2, d3] => { results := [.lit (.bool false)], args := [d1, d2, d3] }
  | _ => none }
def CountsCopiesWrongFalsely : Prop := countsCopiesRow.holds Try.pinned (OpenSpec.ofChange countsCopiesWrong)

/-- 'pentimentolaw07.CountsBytes': WHATEVER THE INPUT: true; the input reads as it did. -/
def countsBytesSpec : ChangeSpec := { name := "countsBytes", fn := fun _ => fun
  | [d1, d2, d3] => { results := [.lit (.bool true)], args := [d1, d2, d3] }
  | _ => none }
def countsBytesRow : OpenClaim := { program := "ytjkklndpfmemhaa", sum := "ebc32974e26259c6424ee3b0b37c998cb9db95b66a51d54d7e754be9492ff8a1", func := "pentimento/pentimentolaw07.CountsBytes", spec := "countsBytes", unfollowed := true, recurses := true, apart := false }
def CountsBytesSaid : Prop := countsBytesRow.holds Try.pinned (OpenSpec.ofChange countsBytesSpec)

/-- ITS FALSE NEIGHBOUR: 'it returns false'. Refute it at one input. -/
def countsBytesWrong : ChangeSpec := { name := "countsBytes", fn := fun _ => fun
  | [d1, d2, d3] => { results := [.lit (.bool false)], args := [d1, d2, d3] }
  | _ => none }
def CountsBytesWrongFalsely : Prop := countsBytesRow.holds Try.pinned (OpenSpec.ofChange countsBytesWrong)

/- THE SECOND FORM. 'bulk': how many values and letters a reading holds, each counted each time it is reached (what is shared counts as often as it is met; a slice's spare places count too). A statement '..UptoSaid' is the law's where the arguments, and the package variables that the reading takes, are together of bulk at most 1048576: NARROWER than '..Said'. Prove '..Said' where nothing that the law and all that it calls make is longer than what came in: it says more and counts as full. Else prove '..UptoSaid'. A law counts once. -/
mutual
def uptoBulk {H : Type} : DataW H → Nat
  | .lit (.string bytes) => bytes.length + 1
  | .lit _ => 1
  | .nil => 1
  | .ptr d => uptoBulk d + 1
  | .slice elems spare => uptoBulkAll elems + uptoBulkAll spare + 1
  | .agg parts => uptoBulkAll parts + 1
  | .iface _ d => uptoBulk d + 1
  | .map entries => uptoBulkEntries entries + 1
  | .held _ => 1
def uptoBulkAll {H : Type} : List (DataW H) → Nat
  | [] => 0
  | d :: r => uptoBulk d + uptoBulkAll r
def uptoBulkEntries {H : Type} : List (Lit × DataW H) → Nat
  | [] => 0
  | x :: r => uptoBulkEntry x + uptoBulkEntries r
def uptoBulkEntry {H : Type} : Lit × DataW H → Nat
  | (.string bytes, d) => bytes.length + uptoBulk d + 1
  | (_, d) => uptoBulk d + 1
 end
def uptoSmall : (H : Type) → List (DataW H) → Bool := fun _ ds => decide (uptoBulkAll ds ≤ 1048576)
def OpenSpec.upto (s : _root_.Go.ChangeSpec) : _root_.Go.OpenSpec := { _root_.Go.OpenSpec.ofChange s with cond := some uptoSmall }

/-- 'pentimentolaw07.CountsTakes', WHERE WHAT IT READS IS OF BULK AT MOST 1048576: true; the input reads as it did. -/
def countsTakesUptoRow : OpenClaim := { program := "ytjkklndpfmemhaa", sum := "ebc32974e26259c6424ee3b0b37c998cb9db95b66a51d54d7e754be9492ff8a1", func := "pentimento/pentimentolaw07.CountsTakes", spec := "countsTakes", unfollowed := true, recurses := true, apart := false, narrowed := true }
def CountsTakesUptoSaid : Prop := countsTakesUptoRow.holds Try.pinned (OpenSpec.upto countsTakesSpec)

/-- 'pentimentolaw07.CountsAll', WHERE WHAT IT READS IS OF BULK AT MOST 1048576: true; the input reads as it did. -/
def countsAllUptoRow : OpenClaim := { program := "ytjkklndpfmemhaa", sum := "ebc32974e26259c6424ee3b0b37c998cb9db95b66a51d54d7e754be9492ff8a1", func := "pentimento/pentimentolaw07.CountsAll", spec := "countsAll", unfollowed := true, recurses := true, apart := false, narrowed := true }
def CountsAllUptoSaid : Prop := countsAllUptoRow.holds Try.pinned (OpenSpec.upto countsAllSpec)

/-- 'pentimentolaw07.CountsBoth', WHERE WHAT IT READS IS OF BULK AT MOST 1048576: true; the input reads as it did. -/
def countsBothUptoRow : OpenClaim := { program := "ytjkklndpfmemhaa", sum := "ebc32974e26259c6424ee3b0b37c998cb9db95b66a51d54d7e754be9492ff8a1", func := "pentimento/pentimentolaw07.CountsBoth", spec := "countsBoth", unfollowed := true, recurses := true, apart := false, narrowed := true }
def CountsBothUptoSaid : Prop := countsBothUptoRow.holds Try.pinned (OpenSpec.upto countsBothSpec)

/-- 'pentimentolaw07.CountsGrows', WHERE WHAT IT READS IS OF BULK AT MOST 1048576: true; the input reads as it did. -/
def countsGrowsUptoRow : OpenClaim := { program := "ytjkklndpfmemhaa", sum := "ebc32974e26259c6424ee3b0b37c998cb9db95b66a51d54d7e754be9492ff8a1", func := "pentimento/pentimentolaw07.CountsGrows", spec := "countsGrows", unfollowed := true, recurses := true, apart := false, narrowed := true }
def CountsGrowsUptoSaid : Prop := countsGrowsUptoRow.holds Try.pinned (OpenSpec.upto countsGrowsSpec)

/-- 'pentimentolaw07.CountsSum', WHERE WHAT IT READS IS OF BULK AT MOST 1048576: true; the input reads as it did. -/
def countsSumUptoRow : OpenClaim := { program := "ytjkklndpfmemhaa", sum := "ebc32974e26259c6424ee3b0b37c998cb9db95b66a51d54d7e754be9492ff8a1", func := "pentimento/pentimentolaw07.CountsSum", spec := "countsSum", unfollowed := true, recurses := true, apart := false, narrowed := true }
def CountsSumUptoSaid : Prop := countsSumUptoRow.holds Try.pinned (OpenSpec.upto countsSumSpec)

/-- 'pentimentolaw07.CountsCopies', WHERE WHAT IT READS IS OF BULK AT MOST 1048576: true; the input reads as it did. -/
def countsCopiesUptoRow : OpenClaim := { program := "ytjkklndpfmemhaa", sum := "ebc32974e26259c6424ee3b0b37c998cb9db95b66a51d54d7e754be9492ff8a1", func := "pentimento/pentimentolaw07.CountsCopies", spec := "countsCopies", unfollowed := true, recurses := true, apart := false, narrowed := true }
def CountsCopiesUptoSaid : Prop := countsCopiesUptoRow.holds Try.pinned (OpenSpec.upto countsCopiesSpec)

/-- 'pentimentolaw07.CountsBytes', WHERE WHAT IT READS IS OF BULK AT MOST 1048576: true; the input reads as it did. -/
def countsBytesUptoRow : OpenClaim := { program := "ytjkklndpfmemhaa", sum := "ebc32974e26259c6424ee3b0b37c998cb9db95b66a51d54d7e754be9492ff8a1", func := "pentimento/pentimentolaw07.CountsBytes", spec := "countsBytes", unfollowed := true, recurses := true, apart := false, narrowed := true }
def CountsBytesUptoSaid : Prop := countsBytesUptoRow.holds Try.pinned (OpenSpec.upto countsBytesSpec)

end Rows
end Go.Proofs.Ytjkklndpfmemhaa
