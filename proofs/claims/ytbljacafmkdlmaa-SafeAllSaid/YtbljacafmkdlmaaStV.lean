/- store.Copy. Condition: what is loose fits memory. -/
import Derived.Test.YtbljacafmkdlmaaStY
namespace Go.Proofs.Ytbljacafmkdlmaa
set_option maxRecDepth 100000
open Go.RowKit
set_option linter.unusedSimpArgs false

theorem hold_nil {S : World → Prop} {o : Oper} {a : Act} (x : Operand) (ho : o.op = .nilCheck x) (p : Addr) (hx : a.eval x = .pointer (some p)) : ∀ u, S u → (execOp a.eval o).run Try.prog u = .ok (.value (.pointer (some p))) u := by
  intro u _
  unfold execOp
  simp [ho, hx]
theorem hold_bd5 {S : World → Prop} {o : Oper} {a : Act} {ty : TypeId} (x0 x1 x2 x3 x4 : Operand) (ho : o.op = .build ty #[(0, x0), (1, x1), (2, x2), (3, x3), (4, x4)]) (v0 v1 v2 v3 v4 : Value) (h0 : a.eval x0 = v0) (h1 : a.eval x1 = v1) (h2 : a.eval x2 = v2) (h3 : a.eval x3 = v3) (h4 : a.eval x4 = v4)
    (v : Value) (hr : ∀ u, (Instr.build ty #[(0, v0), (1, v1), (2, v2), (3, v3), (4, v4)]).run Try.prog u = .ok v u) : ∀ u, S u → (execOp a.eval o).run Try.prog u = .ok (.value v) u := by
  intro u _
  unfold execOp
  simp only [ho, List.map_toArray, List.map_cons, List.map_nil, h0, h1, h2, h3, h4, Sem.run_bind, hr, Result.andThen_ok, Sem.run_pure]
theorem build_store (n room : Int) (a b : Nat) (A : Option Addr) (m c : Nat) (u : World) : (Instr.build 108 #[(0, .int .i64 n), (1, .int .i64 room), (2, .map (some a)), (3, .map (some b)), (4, .slice A m c)]).run Try.prog u = .ok (.agg #[.int .i64 n, .int .i64 room, .map (some a), .map (some b), .slice A m c]) u :=
  run_build u 108 _ _ (by kernel_rfl)

end Go.Proofs.Ytbljacafmkdlmaa
