/- What is read of a store's sectors: plain laws. No condition. -/
import Derived.Test.YtgblekjkphnjfaaMade
import Derived.Test.YtgblekjkphnjfaaRows
namespace Go.Proofs.Ytgblekjkphnjfaa
open Go.RowKit

theorem sect_len {l : List Wrt} (h : ∀ x ∈ l, x.2.length = 16) (a : Int) : (sect l a).length = 16 := by
  unfold sect
  cases hx : lastW l a with
  | none => rfl
  | some y => exact h _ (lastW_mem hx)
theorem cat_add (l : List Wrt) (a : Int) (k : Nat) : ∀ m : Nat, cat l a (k + m) = cat l a k ++ cat l (a + k) m
  | 0 => by show _ = _ ++ []; rw [List.append_nil]; rfl
  | m + 1 => by
    show cat l a (k + m) ++ sect l (a + ((k + m : Nat) : Int)) = cat l a k ++ (cat l (a + k) m ++ sect l (a + k + m))
    rw [cat_add l a k m, List.append_assoc, show a + ((k + m : Nat) : Int) = a + k + m by omega]
theorem cat_congr {l l' : List Wrt} {a : Int} : ∀ {k : Nat}, (∀ j : Nat, j < k → sect l (a + j) = sect l' (a + j)) → cat l a k = cat l' a k
  | 0, _ => rfl
  | k + 1, h => by
    show cat l a k ++ _ = cat l' a k ++ _
    rw [cat_congr (fun j hj => h j (by omega)), h k (by omega)]
theorem cat_noughts {l : List Wrt} {a : Int} : ∀ {k : Nat}, (∀ j : Nat, j < k → sect l (a + j) = z16) → cat l a k = List.replicate (16 * k) 0
  | 0, _ => rfl
  | k + 1, h => by
    show cat l a k ++ _ = _
    rw [cat_noughts (fun j hj => h j (by omega)), h k (by omega), Nat.mul_succ, ← List.replicate_append_replicate]
    rfl
theorem cat_take {l : List Wrt} (h : ∀ x ∈ l, x.2.length = 16) (a : Int) (k m : Nat) : (cat l a (k + m)).take (16 * k) = cat l a k := by
  rw [cat_add, List.take_left' (cat_length h a k)]
theorem cat_drop {l : List Wrt} (h : ∀ x ∈ l, x.2.length = 16) (a : Int) (k m : Nat) : (cat l a (k + m)).drop (16 * k) = cat l (a + k) m := by
  rw [cat_add, List.drop_left' (cat_length h a k)]
theorem sect_res (l : List Wrt) (n a : Int) : sect (l.filter fun w => decide (w.1 < n)) a = if a < n then sect l a else z16 := by
  unfold sect
  rw [lastW_filter]
  split <;> rfl
theorem rdS_all {s : St} (h8 : s.n = 8) : rdS s 0 8 = (cat s.l 0 8, 0) := by
  unfold rdS
  have hi : insideB s.n 0 8 = true := by rw [h8]; rfl
  rw [if_neg (by omega), if_neg (by rw [hi]; simp)]
  rfl
/-- Of a row that was read: its bulk. -/
theorem bulk_one {H : Type} : ∀ d : DataW H, 1 ≤ Rows.uptoBulk d := by
  intro d
  cases d <;> unfold Rows.uptoBulk <;> (try split) <;> omega
theorem bulk_len {H : Type} : ∀ ds : List (DataW H), ds.length ≤ Rows.uptoBulkAll ds
  | [] => Nat.zero_le _
  | d :: ds => by
    have h1 := bulk_one d
    have h2 := bulk_len ds
    unfold Rows.uptoBulkAll
    rw [List.length_cons]
    omega
theorem small_n {H : Type} {n : Nat} {d : DataW H} {ds : List (DataW H)} (hd : n = 0 ∨ ∃ elems spare, d = .slice elems spare ∧ elems.length = n) (h : Rows.uptoSmall H ds = true) (hm : d ∈ ds) : n ≤ 1048576 := by
  rcases hd with rfl | ⟨el, sp, rfl, rfl⟩
  · omega
  · unfold Rows.uptoSmall at h
    rw [decide_eq_true_eq] at h
    have h1 : ∀ l : List (DataW H), .slice el sp ∈ l → Rows.uptoBulk (.slice el sp) ≤ Rows.uptoBulkAll l := by
      intro l hl
      induction l with
      | nil => cases hl
      | cons x r ih =>
        unfold Rows.uptoBulkAll
        rcases List.mem_cons.1 hl with rfl | hl
        · omega
        · have := ih hl
          omega
    have h2 := h1 ds hm
    have h3 := bulk_len el
    unfold Rows.uptoBulk at h2
    omega
end Go.Proofs.Ytgblekjkphnjfaa
