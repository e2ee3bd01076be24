/- What the bulk of parts tells of their texts' lengths. No condition. -/
import Derived.Test.YtijogfjihnbmeaaRows
import Derived.Test.YtijogfjihnbmeaaWr
namespace Go.Proofs.Ytijogfjihnbmeaa

theorem bulk_dat {H : Type} (p : Pt) : Rows.uptoBulk (H := H) p.dat = p.t.length + 5 := by
  simp [Pt.dat, Rows.uptoBulk, Rows.uptoBulkAll, Pt.t]
  omega
theorem bulk_parts {H : Type} (ps : List Pt) : totW ps ≤ 2 * Rows.uptoBulkAll (H := H) (ps.map Pt.dat) := by
  induction ps with
  | nil => simp [totW]
  | cons p ps ih =>
    unfold totW at ih ⊢
    rw [List.map_cons, List.sum_cons, List.map_cons, Rows.uptoBulkAll, bulk_dat]
    omega
theorem small_parts {H : Type} (ps : List Pt) (spare rest : List (DataW H)) (h : Rows.uptoSmall H (.slice (ps.map Pt.dat) spare :: rest) = true) : totW ps ≤ 100000000 := by
  have h1 := bulk_parts (H := H) ps
  unfold Rows.uptoSmall at h
  rw [decide_eq_true_eq, Rows.uptoBulkAll, Rows.uptoBulk] at h
  omega
end Go.Proofs.Ytijogfjihnbmeaa
