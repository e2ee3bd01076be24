/- octets.right and octets.fits: what they answer. No condition on right; fits at a width that is one. -/
import Derived.Test.YtbljacafmkdlmaaChecked
import Derived.Test.YtbljacafmkdlmaaStr
import Derived.Test.YtbljacafmkdlmaaPlain
namespace Go.Proofs.Ytbljacafmkdlmaa
open Go.RowKit

def bigTop : Int := 4611686018427387904
def rt (width : Int) : Bool := decide (width = 1) || decide (width = 2) || decide (width = 4) || decide (width = 8)
/-- The first number that does not fit. -/
def lim (width : Int) : Int := if width = 8 then bigTop else 256 ^ width.toNat
def ft (n width : Int) : Bool := decide (0 ≤ n) && decide (n < lim width)

theorem rt_cases {width : Int} (h : rt width = true) : width = 1 ∨ width = 2 ∨ width = 4 ∨ width = 8 := by
  simpa [rt, or_assoc] using h
theorem rt_false {width : Int} (h : rt width = false) : width ≠ 1 ∧ width ≠ 2 ∧ width ≠ 4 ∧ width ≠ 8 := by
  simpa [rt, and_assoc] using h

set_option maxHeartbeats 400000 in
theorem right_any (width : Int) (w : World) :
    Calls Try.prog 73 #[.int .i64 width] w fun e w' => e = .returned (.bool (rt width)) ∧ w = w' := by
  by_cases h1 : width = 1
  · subst h1
    go_enter Try.func73, Try.ntmps73
    go_wp2
    go_ret
    exact ⟨rfl, rfl⟩
  by_cases h2 : width = 2
  · subst h2
    go_enter Try.func73, Try.ntmps73
    go_wp2
    go_ret
    exact ⟨rfl, rfl⟩
  by_cases h4 : width = 4
  · subst h4
    go_enter Try.func73, Try.ntmps73
    go_wp2
    go_ret
    exact ⟨rfl, rfl⟩
  by_cases h8 : width = 8
  · subst h8
    go_enter Try.func73, Try.ntmps73
    go_wp2
    go_ret
    exact ⟨rfl, rfl⟩
  have e : rt width = false := by simp [rt, h1, h2, h4, h8]
  have e1 : (width == 1) = false := by simpa using h1
  have e2 : (width == 2) = false := by simpa using h2
  have e4 : (width == 4) = false := by simpa using h4
  have e8 : (width == 8) = false := by simpa using h8
  go_enter Try.func73, Try.ntmps73
  go_wp2
  go_ret
  exact ⟨by rw [e]; rfl, rfl⟩

theorem ft_lt {n width : Int} (h : ft n width = true) : 0 ≤ n ∧ n < lim width := by simpa [ft] using h
theorem lim_one : lim 1 = 256 := rfl
theorem lim_two : lim 2 = 65536 := rfl
theorem lim_four : lim 4 = 4294967296 := rfl
theorem lim_eight : lim 8 = bigTop := rfl
theorem ft_one (n : Int) : ft n 1 = (decide (0 ≤ n) && decide (n < 256)) := rfl
theorem ft_two (n : Int) : ft n 2 = (decide (0 ≤ n) && decide (n < 65536)) := rfl
theorem ft_four (n : Int) : ft n 4 = (decide (0 ≤ n) && decide (n < 4294967296)) := rfl
theorem ft_eight (n : Int) : ft n 8 = (decide (0 ≤ n) && decide (n < 4611686018427387904)) := rfl

theorem lim_le {width : Int} (h : rt width = true) : lim width ≤ 4611686018427387904 := by
  rcases rt_cases h with rfl | rfl | rfl | rfl
  · rw [lim_one]; decide
  · rw [lim_two]; decide
  · rw [lim_four]; decide
  · rw [lim_eight]; exact Int.le_refl _
theorem lim_pow {W : Nat} (h : rt W = true) : lim W ≤ ((256 ^ W : Nat) : Int) := by
  rcases rt_cases h with h | h | h | h
  · obtain rfl : W = 1 := by omega
    exact Int.le_refl _
  · obtain rfl : W = 2 := by omega
    exact Int.le_refl _
  · obtain rfl : W = 4 := by omega
    exact Int.le_refl _
  · obtain rfl : W = 8 := by omega
    show lim 8 ≤ _
    rw [lim_eight]
    decide

set_option maxHeartbeats 400000 in
theorem fits_any (n width : Int) (w : World) (hw : rt width = true) :
    Calls Try.prog 74 #[.int .i64 n, .int .i64 width] w fun e w' => e = .returned (.bool (ft n width)) ∧ w = w' := by
  rcases rt_cases hw with rfl | rfl | rfl | rfl
  all_goals
    by_cases h0 : 0 ≤ n
    · go_enter Try.func74, Try.ntmps74
      go_wp2
      go_ret
      exact ⟨ret_bool (by (first | rw [ft_one] | rw [ft_two] | rw [ft_four] | rw [ft_eight]); simp [h0]), rfl⟩
    · go_enter Try.func74, Try.ntmps74
      go_wp2
      go_ret
      exact ⟨ret_bool (by simp [ft]; omega), rfl⟩
end Go.Proofs.Ytbljacafmkdlmaa
