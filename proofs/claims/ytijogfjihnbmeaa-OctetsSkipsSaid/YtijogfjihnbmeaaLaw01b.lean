/- The law OctetsSkips. No condition. -/
import Derived.Test.YtijogfjihnbmeaaAlive01
namespace Go.Proofs.Ytijogfjihnbmeaa
open Go.RowKit

theorem nm_one (l : List UInt8) (h : 0 < l.length) : nm l 0 1 = (l.drop 1, (0 : Int), l[0].toNat) := by
  have ht : tk l 0 1 (!rt 1) = (l.drop 1, (0 : Int), l.take 1) := by
    have : rt 1 = true := by decide
    rw [this]
    unfold tk
    rw [if_neg (by decide), if_neg (by decide), if_neg (by omega)]
    rfl
  unfold nm
  simp only [ht]
  rw [if_neg (fun hh => by have := hh.1; rw [List.length_take] at this; omega), un_one l h]

theorem tk_yes (l : List UInt8) (k : Nat) (h : k ≤ l.length) : tk l 0 k (decide ((k : Int) < 0)) = (l.drop k, (0 : Int), l.take k) := by
  unfold tk
  have : decide ((k : Int) < 0) = false := by rw [decide_eq_false_iff_not]; omega
  rw [this, if_neg (by decide), if_neg (by decide), if_neg (by omega)]
  rfl

set_option maxRecDepth 4000 in
set_option maxHeartbeats 2000000 in
theorem skips_law (A : Option Addr) (n c : Nat) (l : List UInt8) (p : Int) (w : World) (hn : l.length = n) (hr : Row w A (bv l)) (hsz : n ≤ 140737488355328) :
    Calls Try.prog 10 #[.slice A n c, .int .i64 p] w fun e w' => e = .returned (.bool true) ∧ Below w.heap.size w w' := by
  by_cases hbad : 20000 < n ∨ p < 0 ∨ (n : Int) ≤ p
  · have HN := Lib.hid hn
    clear hn
    by_cases h1 : 20000 < n
    · go_enter Try.func10, Try.ntmps10
      go_wp2_with fail
      refine (newReader_any A n c l w HN.out hr hsz).mono ?_
      rintro e w1 ⟨g, rfl, hg, hrd, hb1⟩
      go_wp2_with fail
      refine (alive_any w1).mono ?_
      rintro e w2 ⟨rfl, hb2⟩
      go_wp2_with fail
      go_ret
      exact ⟨rfl, below_all hb1 hb2⟩
    · by_cases h2 : p < 0
      · go_enter Try.func10, Try.ntmps10
        go_wp2_with fail
        refine (newReader_any A n c l w HN.out hr hsz).mono ?_
        rintro e w1 ⟨g, rfl, hg, hrd, hb1⟩
        go_wp2_with fail
        refine (alive_any w1).mono ?_
        rintro e w2 ⟨rfl, hb2⟩
        go_wp2_with fail
        go_ret
        exact ⟨rfl, below_all hb1 hb2⟩
      · have h3 : (n : Int) ≤ p := by omega
        go_enter Try.func10, Try.ntmps10
        go_wp2_with fail
        refine (newReader_any A n c l w HN.out hr hsz).mono ?_
        rintro e w1 ⟨g, rfl, hg, hrd, hb1⟩
        go_wp2_with fail
        refine (alive_any w1).mono ?_
        rintro e w2 ⟨rfl, hb2⟩
        go_wp2_with fail
        go_ret
        exact ⟨rfl, below_all hb1 hb2⟩
  obtain ⟨k, rfl⟩ := Int.eq_ofNat_of_zero_le (show 0 ≤ p by omega)
  have hkn : k < n := by omega
  have hb0 : ¬ 20000 < n := by omega
  have hk0 : (0 : Int) ≤ (k : Int) := by omega
  have hkn' : (k : Int) < (n : Int) := by omega
  have hkl : k < l.length := by omega
  have ht := tk_yes l k (by omega)
  have hd : 0 < (l.drop k).length := by rw [List.length_drop]; omega
  have hm := nm_one (l.drop k) hd
  have e0 : (l.drop k)[0] = l[k] := by simp
  rw [e0, List.drop_drop] at hm
  obtain ⟨g1, o1, rfl, hg1, hc1⟩ := hr.bcell hkl
  obtain ⟨r, hrn⟩ : ∃ r, n = k + (r + 1) := ⟨n - k - 1, by omega⟩
  have hld : (l.drop k).length = r + 1 := by rw [List.length_drop]; omega
  have hld2 : (l.drop (k + 1)).length = r := by rw [List.length_drop]; omega
  obtain ⟨R, hR⟩ : ∃ R : Int, R = ((r + 1 : Nat) : Int) := ⟨_, rfl⟩
  have hR1 : 1 ≤ R := by omega
  have hR2 : R ≤ 20000 := by omega
  have hnR : (n : Int) - (k : Int) = R := by omega
  have hrR : (r : Int) = R - 1 := by omega
  have HRR := Lib.hid hrR
  have HNR := Lib.hid hnR
  have HR := Lib.hid hR
  have HT := Lib.hid ht
  have HM := Lib.hid hm
  have HN := Lib.hid hn
  have HL1 := Lib.hid hld
  have HL2 := Lib.hid hld2
  have hx256 := l[k].toNat_lt
  obtain ⟨x, hx⟩ : ∃ x, x = l[k].toNat := ⟨_, rfl⟩
  rw [← hx] at hc1 HM hx256
  clear hbad ht hm hn hd hld hld2 hx e0 hrn hR hrR hnR
  go_enter Try.func10, Try.ntmps10
  go_wp2_with fail
  refine (newReader_any _ n c l w HN.out hr hsz).mono ?_
  rintro e w1 ⟨g, rfl, hg, hrd, hb1⟩
  go_wp2_with fail
  refine (skip_any g l 0 k w1 hrd).mono ?_
  rintro e w2 ⟨rfl, hrd2, hon2⟩
  rw [HT.out] at hrd2
  go_wp2_with fail
  refine (left_any g _ 0 w2 hrd2).mono ?_
  rintro e w3 ⟨rfl, rfl⟩
  rw [HL1.out, ← HR.out]
  go_wp2_with fail
  refine (rnum_any g _ 0 1 w2 hrd2).mono ?_
  rintro e w3 ⟨rfl, hrd3, hon3⟩
  rw [HM.out] at hrd3 ⊢
  have hb3 : Below w.heap.size w w3 := below_only hb1 (Nat.le_refl _) hg (hon2.trans hon3 (fun i _ h => h))
  go_wp2_with fail
  refine (alive_any w3).mono ?_
  rintro e w4 ⟨rfl, hb4⟩
  have hrd4 := hrd3.only hb4
  have hb04 := below_all hb3 hb4
  have hc4 := below_cells hb04 _ _ hc1
  have hq1 : (R == (n : Int) - (k : Int)) = true := by rw [HNR.out]; simp
  have hq2 : ((r : Int) == R - 1) = true := by rw [HRR.out]; simp
  go_wp2_with fail
  refine (left_any g _ 0 w4 hrd4).mono ?_
  rintro e w5 ⟨rfl, rfl⟩
  rw [HL2.out]
  go_wp2_with fail
  refine (err_any g _ 0 w4 hrd4).mono ?_
  rintro e w5 ⟨rfl, rfl⟩
  go_wp2_with fail
  go_ret
  exact ⟨rfl, hb04⟩
end Go.Proofs.Ytijogfjihnbmeaa
