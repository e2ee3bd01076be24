/- maps.DeleteFunc at a store's maps; store.Resize. No condition. -/
import Derived.Test.YtbljacafmkdlmaaStC
import Derived.Maps.RangeWalk
import Derived.Laws.IdiomRangeMap
import Derived.Deep.LoopGhost
namespace Go.Proofs.Ytbljacafmkdlmaa
set_option maxRecDepth 100000
open Go.RowKit Go.Maps
set_option linter.unusedSimpArgs false

theorem key_inv {v : Value} {kl : Lit} (h : keyOf Try.prog 3 v = some kl) : ∃ a : Int, v = .int .i64 a ∧ kl = keyL a := by
  obtain ⟨a, h1, h2⟩ := Maps.keyOf_int_inv Try.underlying3 h
  exact ⟨a, h1, h2.1⟩
end Go.Proofs.Ytbljacafmkdlmaa
