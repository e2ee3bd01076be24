/- slices.Contains at []int; store.Crash. Conditions: the lengths fit memory. -/
import Derived.Test.YtbljacafmkdlmaaStW
import Derived.Deep.DeepCutAuto
namespace Go.Proofs.Ytbljacafmkdlmaa
set_option maxRecDepth 100000
open Go.RowKit
set_option linter.unusedSimpArgs false

theorem mem_take_succ (l : List Int) (x : Int) (k : Nat) (h : k < l.length) : x ∈ l.take (k + 1) ↔ (x ∈ l.take k ∨ x = l[k]) := by
  rw [List.take_succ_eq_append_getElem h, List.mem_append, List.mem_singleton]

set_option maxHeartbeats 400000 in
theorem sindex_any (A : Option Addr) (n c : Nat) (l : List Int) (x : Int) (w : World) (hn : l.length = n) (hr : Row w A (iv l)) (hsz : n ≤ 9223372036854775807) :
    Calls Try.prog 102 #[.slice A n c, .int .i64 x] w fun e w' => (∃ i : Int, e = .returned (.int .i64 i) ∧ (0 ≤ i ↔ x ∈ l)) ∧ w' = w := by
  have HN := Lib.hid hn
  clear hn
  go_enter Try.func102, Try.ntmps102
  go_wp2_with fail
  go_loop [8] (fun i => ∃ k : Nat, k ≤ n ∧ i = .int .i64 k ∧ ¬ x ∈ l.take k) (fun i => n - (intOf i).toNat)
  case atStart => exact ⟨0, Nat.zero_le _, rfl, by simp⟩
  case round =>
    obtain ⟨k, hk, rfl, hno⟩ := hrel
    have HNO := Lib.hid hno
    clear hno
    by_cases hlt : k < n
    · have hkl : k < l.length := by rw [HN.out]; exact hlt
      obtain ⟨g, o, rfl, hg, hc⟩ := hr.icell hkl
      obtain ⟨y, hy⟩ : ∃ y, y = l[k] := ⟨_, rfl⟩
      rw [← hy] at hc
      have HY := Lib.hid hy
      clear hy
      by_cases he : x = y
      · go_wp2_with fail
        go_ret
        refine ⟨⟨k, rfl, ?_⟩, rfl⟩
        have h1 : x ∈ l := by
          rw [he, HY.out]
          exact List.getElem_mem hkl
        rw [he] at h1
        exact ⟨fun _ => h1, fun _ => by omega⟩
      · go_wp2_with fail
        go_round
        case rel => exact ⟨k + 1, by omega, by go_num, by rw [mem_take_succ l x k hkl, ← HY.out]; exact fun h => h.elim HNO.out he⟩
        case measure => simp [intOf]; omega
    · obtain rfl : k = n := by omega
      go_wp2_with fail
      go_ret
      have h1 := HNO.out
      rw [List.take_of_length_le (by rw [HN.out]; exact Nat.le_refl _)] at h1
      exact ⟨⟨-1, rfl, ⟨fun h => by omega, fun h => absurd h h1⟩⟩, rfl⟩
set_option maxHeartbeats 400000 in
theorem scontains_any (A : Option Addr) (n c : Nat) (l : List Int) (x : Int) (w : World) (hn : l.length = n) (hr : Row w A (iv l)) (hsz : n ≤ 9223372036854775807) :
    Calls Try.prog 92 #[.slice A n c, .int .i64 x] w fun e w' => e = .returned (.bool (l.contains x)) ∧ w' = w := by
  have hi := sindex_any A n c l x w hn hr hsz
  clear hn hr hsz
  obtain ⟨b, hb⟩ : ∃ b, b = l.contains x := ⟨_, rfl⟩
  have hm : x ∈ l ↔ b = true := by rw [hb, List.contains_iff_mem]
  simp only [hm] at hi
  rw [← hb]
  clear hb hm
  go_enter Try.func92, Try.ntmps92
  go_wp2_with fail
  refine hi.mono ?_
  rintro e w' ⟨⟨i, rfl, h1⟩, rfl⟩
  have H1 := Lib.hid h1
  clear h1 hi
  go_wp2_with fail
  go_ret
  exact ⟨ret_bool (by rw [Bool.eq_iff_iff, ← H1.out]; simp), rfl⟩
set_option maxHeartbeats 400000 in
theorem kept_any (g : Nat) (A : Option Addr) (n c : Nat) (l : List Int) (x : Int) (w : World) (hn : l.length = n) (hr : Row w A (iv l)) (hsz : n ≤ 9223372036854775807) (hg : w.cell? ⟨g, 0, none⟩ = some (.slice A n c)) :
    Calls Try.prog 91 #[.int .i64 x, .pointer (some ⟨g, 0, none⟩)] w fun e w' => e = .returned (.bool (l.contains x)) ∧ w' = w := by
  have hi := scontains_any A n c l x w hn hr hsz
  clear hn hr hsz
  obtain ⟨b, hb⟩ : ∃ b, b = l.contains x := ⟨_, rfl⟩
  rw [← hb] at hi ⊢
  clear hb
  go_enter Try.func91, Try.ntmps91
  go_wp2_with fail
  refine hi.mono ?_
  rintro e w' ⟨rfl, rfl⟩
  go_wp2_with fail
  go_ret
  exact ⟨rfl, rfl⟩
end Go.Proofs.Ytbljacafmkdlmaa
