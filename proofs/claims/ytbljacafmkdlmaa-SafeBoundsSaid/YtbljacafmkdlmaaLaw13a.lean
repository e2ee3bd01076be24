/- The law SafeBounds. No condition. -/
import Derived.Test.YtbljacafmkdlmaaAl13
namespace Go.Proofs.Ytbljacafmkdlmaa
set_option maxRecDepth 100000
open Go.RowKit
set_option linter.unusedSimpArgs false
set_option linter.unusedVariables false

set_option maxHeartbeats 2000000 in
theorem bounds_law (n : Int) (w : World) :
    Calls Try.prog 7 #[.int .i64 n] w fun e w' => e = .returned (.bool true) ∧ Below w.heap.size w w' := by
  by_cases h0 : n < 0
  · go_enter Try.func7, Try.ntmps7
    go_wp2_with fail
    refine (alive_any _).mono ?_
    rintro e w1 ⟨rfl, hb1⟩
    go_wp2_with fail
    go_ret
    exact ⟨rfl, hb1⟩
  by_cases h1 : 1048576 < n
  · go_enter Try.func7, Try.ntmps7
    go_wp2_with fail
    refine (alive_any _).mono ?_
    rintro e w1 ⟨rfl, hb1⟩
    go_wp2_with fail
    go_ret
    exact ⟨rfl, hb1⟩
  have hmo := most_any n w (by omega) (by omega)
  have ha1 : n < 2 → areaN n = 0 := fun h => by unfold areaN; omega
  have ha2 : 2 ≤ n → 2 * (areaN n : Int) + 2 ≤ n ∧ n ≤ 2 * (areaN n : Int) + 3 := fun h => by unfold areaN; omega
  have ha3 : areaN n ≤ 1048576 := by unfold areaN; omega
  obtain ⟨a, ha⟩ : ∃ a, a = areaN n := ⟨_, rfl⟩
  rw [← ha] at hmo ha1 ha2 ha3
  clear ha
  by_cases h2 : n < 2
  · obtain rfl : a = 0 := ha1 h2
    clear ha1 ha2 ha3
    go_enter Try.func7, Try.ntmps7
    go_wp2_with fail
    refine hmo.mono ?_
    rintro e w1 ⟨rfl, rfl⟩
    go_wp2_with fail
    refine (alive_any _).mono ?_
    rintro e w1 ⟨rfl, hb1⟩
    go_wp2_with fail
    go_ret
    exact ⟨rfl, hb1⟩
  · obtain ⟨h3, h4⟩ := ha2 (by omega)
    clear ha1 ha2
    go_enter Try.func7, Try.ntmps7
    go_wp2_with fail
    refine hmo.mono ?_
    rintro e w1 ⟨rfl, rfl⟩
    go_wp2_with fail
    refine (alive_any _).mono ?_
    rintro e w1 ⟨rfl, hb1⟩
    go_wp2_with fail
    go_ret
    exact ⟨rfl, hb1⟩
end Go.Proofs.Ytbljacafmkdlmaa
