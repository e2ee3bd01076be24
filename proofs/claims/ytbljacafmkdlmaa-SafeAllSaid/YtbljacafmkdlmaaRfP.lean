/- What is saved in a store, as the document tells it, as data: plain laws. No condition. -/
import Derived.Test.YtbljacafmkdlmaaSfP
namespace Go.Proofs.Ytbljacafmkdlmaa
set_option maxRecDepth 100000
set_option linter.unusedVariables false

theorem loadP_ref (s : St) : loadP s = if (cop s 0).2 = 0 ∧ (cop s 1).2 = 0 then ([], 0, 130) else if (cop s 1).2 ≤ (cop s 0).2 then ((cop s 0).1, (cop s 0).2, 0) else ((cop s 1).1, (cop s 1).2, 0) := by
  unfold loadP newestP
  by_cases h0 : (cop s 0).2 < (cop s 1).2
  · rw [if_pos h0, if_neg (by simp), if_neg (by omega), if_neg (by omega)]
  · rw [if_neg h0]
    by_cases h1 : 0 < (cop s 0).2
    · rw [if_pos h1, if_neg (by simp), if_neg (by omega), if_pos (by omega)]
    · rw [if_neg h1, if_pos (by simp), if_pos (by omega)]
theorem load_gen (s : St) : (loadP s).2.1 = (newestP s).2.2 := by
  unfold loadP
  split
  · rename_i h
    unfold newestP at h ⊢
    split
    · rw [if_pos (by assumption)] at h; simp at h
    split
    · rename_i h1 h2
      rw [if_neg h1, if_pos h2] at h; simp at h
    · rfl
  · rfl
theorem kOf_ref (s : St) : kOf s = if 0 < (newestP s).2.2 ∧ (cop s 0).2 = (newestP s).2.2 then 1 else 0 := by
  unfold kOf newestP
  by_cases h0 : (cop s 0).2 < (cop s 1).2
  · rw [if_pos h0, if_neg (by simp), if_neg (by simp only; omega)]
  · rw [if_neg h0]
    by_cases h1 : 0 < (cop s 0).2
    · rw [if_pos h1, if_pos rfl, if_pos ⟨h1, rfl⟩]
    · rw [if_neg h1, if_neg (by simp), if_neg (by simp)]

/-- A saver's call, as the store's. -/
def opnOf : SOp → Opn
  | .flush => ⟨2, 0, 0, [], []⟩
  | .write a b => ⟨0, a, 0, b, []⟩
theorem doO_opn (s : St) (o : SOp) : doO s (opnOf o) = ((doS s o).1, [], (doS s o).2) := by
  cases o with
  | flush => rfl
  | write a b => rfl
theorem dataOps_succ (a : Int) (b : List UInt8) (j : Nat) : dataOps a b (j + 1) = dataOps a b j ++ [.write (a + j) (pad16 (b.drop (16 * j)))] := rfl
end Go.Proofs.Ytbljacafmkdlmaa
