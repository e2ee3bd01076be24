/- pentimentolaw03.few: what it is known by. Condition: the lengths fit memory. -/
import Derived.Test.YtgblekjkphnjfaaAlive03
import Derived.Test.YtgblekjkphnjfaaOpO
namespace Go.Proofs.Ytgblekjkphnjfaa
open Go.RowKit
set_option linter.unusedSimpArgs false

def FewPost (w : World) (n : Nat) (e : Ending) (w' : World) : Prop := ∃ fb : Bool, e = .returned (.bool fb) ∧ (fb = true → n ≤ 60) ∧ Below w.heap.size w w'

set_option maxHeartbeats 4000000 in
theorem few_any (sec : Int) (A : Option Addr) (n c : Nat) (ps : List Opv) (w : World) (hn : ps.length = n) (hr : Row w A (ocells ps)) (hn47 : n ≤ 140737488355328) (hg : ∀ p ∈ ps, p.o.b.length ≤ 140737488355328 ∧ p.o.keep.length ≤ 140737488355328) :
    Calls Try.prog 11 #[.int .i64 sec, .slice A n c] w (FewPost w n) := by
  have HN := Lib.hid hn
  have HG := Lib.hid hg
  clear hn hg
  go_enter Try.func11, Try.ntmps11
  go_wp2_with fail
  go_loopw [5, 10] (fun v i wr => ∃ (j : Nat) (z : Int), j ≤ n ∧ i = .int .i64 j ∧ v = .int .i64 z ∧ Below w.heap.size w wr) (fun _ i _ => n - (intOf i).toNat)
  case atStart => exact ⟨0, 0, Nat.zero_le _, rfl, rfl, Below.refl _ _⟩
  case round =>
    obtain ⟨j, z, hj, rfl, rfl, hbel⟩ := hrel
    have hs := hbel.size
    by_cases hlt : j < n
    · have hjl : j < ps.length := by rw [HN.out]; exact hlt
      have hrr := hr.below hbel
      obtain ⟨g, o, rfl, hg, c0, c1, c2, c3, c4⟩ := hrr.opv hjl
      have hgood := HG.out ps[j] (List.getElem_mem hjl)
      obtain ⟨p, hp⟩ : ∃ p, p = ps[j] := ⟨_, rfl⟩
      rw [← hp] at c0 c1 c2 c3 c4 hgood
      clear hp hrr
      have hba : ∀ ob, Below w.heap.size w (wr.alloc ob) := fun ob => hbel.alloc hs ob
      by_cases h4 : p.o.kind = 4
      · by_cases h40 : 40 < p.o.n
        · by_cases h96 : p.o.n ≤ 4096
          · go_wp2_with fail
            go_ret
            exact ⟨false, rfl, (fun h => by cases h), hba _⟩
          · go_wp2_with fail
            go_roundw
            case rel => exact ⟨j + 1, _, by omega, by go_num, rfl, hba _⟩
            case measure => simp [intOf]; omega
        · go_wp2_with fail
          go_roundw
          case rel => exact ⟨j + 1, _, by omega, by go_num, rfl, hba _⟩
          case measure => simp [intOf]; omega
      · go_wp2_with fail
        go_roundw
        case rel => exact ⟨j + 1, _, by omega, by go_num, rfl, hba _⟩
        case measure => simp [intOf]; omega
    · obtain rfl : j = n := by omega
      by_cases h60 : j ≤ 60
      · by_cases hz : z ≤ 5000
        · by_cases hs1 : sec ≤ 40
          · go_wp2_with fail
            go_ret
            exact ⟨_, rfl, (fun _ => h60), hbel⟩
          · go_wp2_with fail
            go_ret
            exact ⟨_, rfl, (fun _ => h60), hbel⟩
        · go_wp2_with fail
          go_ret
          exact ⟨_, rfl, (fun _ => h60), hbel⟩
      · go_wp2_with fail
        go_ret
        exact ⟨_, rfl, (fun h => by simp at h), hbel⟩
end Go.Proofs.Ytgblekjkphnjfaa
