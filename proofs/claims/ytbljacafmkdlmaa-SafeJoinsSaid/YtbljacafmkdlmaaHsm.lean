/- slices.Equal at []int, head.Same, pentimentoref05.Same, Sectors, Newer. Conditions: the lengths fit memory. -/
import Derived.Test.YtbljacafmkdlmaaMgF
import Derived.Test.YtbljacafmkdlmaaBlk
import Derived.Deep.QuietTactic
import Derived.BigQuiet
namespace Go.Proofs.Ytbljacafmkdlmaa
set_option maxRecDepth 100000
open Go.RowKit

def Hd.same (a b : Hd) : Bool := (a.b == b.b) && (a.z == b.z) && (a.n == b.n) && (a.g == b.g) && (a.c == b.c) && decide (a.p = b.p)
theorem Hd.same_iff (a b : Hd) : a.same b = true ↔ a = b := by
  obtain ⟨b1, z1, n1, g1, c1, p1⟩ := a
  obtain ⟨b2, z2, n2, g2, c2, p2⟩ := b
  unfold Hd.same
  simp only [Bool.and_eq_true, beq_iff_eq, decide_eq_true_eq, Hd.mk.injEq]
  constructor
  · rintro ⟨⟨⟨⟨⟨h1, h2⟩, h3⟩, h4⟩, h5⟩, h6⟩
    exact ⟨h1, h2, h3, h4, h5, h6⟩
  · rintro ⟨h1, h2, h3, h4, h5, h6⟩
    exact ⟨⟨⟨⟨⟨h1, h2⟩, h3⟩, h4⟩, h5⟩, h6⟩

set_option maxHeartbeats 2000000 in
theorem rSame5_any (b1 z1 g1 b2 z2 g2 : Int) (n1 n2 : List UInt8) (c1 c2 : Bool) (p1 p2 : List Int) (m1 m2 : Nat) (A A2 : Option Addr) (k1 k2 : Nat) (w : World) (hm1 : p1.length = m1) (hm2 : p2.length = m2) (hr : Row w A (iv p1)) (hr2 : Row w A2 (iv p2)) (hp : m1 ≤ 17592186044416) (hp2 : m2 ≤ 17592186044416) :
    Calls Try.prog 27 #[.agg #[.int .i64 b1, .int .i64 z1, .string (str n1), .int .i64 g1, .bool c1, .slice A m1 k1], .agg #[.int .i64 b2, .int .i64 z2, .string (str n2), .int .i64 g2, .bool c2, .slice A2 m2 k2]] w
      fun e w' => e = .returned (.bool (Hd.same ⟨b1, z1, n1, g1, c1, p1⟩ ⟨b2, z2, n2, g2, c2, p2⟩)) ∧ Below w.heap.size w w' := by
  have hB := Blk.new w 56 #[.int .i64 b1, .int .i64 z1, .string (str n1), .int .i64 g1, .bool c1, .slice A m1 k1]
  have hfin : (Hd.same ⟨b1, z1, n1, g1, c1, p1⟩ ⟨b2, z2, n2, g2, c2, p2⟩) = ((b1 == b2) && (z1 == z2) && (n1 == n2) && (g1 == g2) && (c1 == c2) && decide (p1 = p2)) := rfl
  have hb : ∀ (x y : Obj), Below w.heap.size w ((w.alloc x).alloc y) := fun x y => ((Below.refl _ _).alloc (Nat.le_refl _) _).alloc (by simp) _
  have HFIN := Lib.hid hfin
  have HM1 := Lib.hid hm1
  have HM2 := Lib.hid hm2
  clear hfin hm1 hm2
  cases h1 : (b1 == b2)
  · rw [h1] at HFIN
    have q1 : (b1 != b2) = true := by rw [bne, h1]; rfl
    go_enter Try.func27, Try.ntmps27
    go_wp2_with fail
    go_ret
    exact ⟨ret_bool (by rw [HFIN.out]; simp), hb _ _⟩
  have q1 : (b1 != b2) = false := by rw [bne, h1]; rfl
  cases h2 : (z1 == z2)
  · rw [h1, h2] at HFIN
    have q2 : (z1 != z2) = true := by rw [bne, h2]; rfl
    go_enter Try.func27, Try.ntmps27
    go_wp2_with fail
    go_ret
    exact ⟨ret_bool (by rw [HFIN.out]; simp), hb _ _⟩
  have q2 : (z1 != z2) = false := by rw [bne, h2]; rfl
  cases h3 : (n1 == n2)
  · rw [h1, h2, h3] at HFIN
    have q3 : (n1 != n2) = true := by rw [bne, h3]; rfl
    go_enter Try.func27, Try.ntmps27
    go_wp2_with fail
    go_ret
    exact ⟨ret_bool (by rw [HFIN.out]; simp), hb _ _⟩
  have q3 : (n1 != n2) = false := by rw [bne, h3]; rfl
  cases h4 : (g1 == g2)
  · rw [h1, h2, h3, h4] at HFIN
    have q4 : (g1 != g2) = true := by rw [bne, h4]; rfl
    go_enter Try.func27, Try.ntmps27
    go_wp2_with fail
    go_ret
    exact ⟨ret_bool (by rw [HFIN.out]; simp), hb _ _⟩
  have q4 : (g1 != g2) = false := by rw [bne, h4]; rfl
  cases h5 : (c1 == c2)
  · rw [h1, h2, h3, h4, h5] at HFIN
    have q5 : (c1 != c2) = true := by rw [bne, h5]; rfl
    go_enter Try.func27, Try.ntmps27
    go_wp2_with fail
    go_ret
    exact ⟨ret_bool (by rw [HFIN.out]; simp), hb _ _⟩
  have q5 : (c1 != c2) = false := by rw [bne, h5]; rfl
  rw [h1, h2, h3, h4, h5] at HFIN
  by_cases hm : m1 = m2
  case neg =>
    have q6 : ((m1 : Int) != (m2 : Int)) = true := by simp; omega
    have hne : decide (p1 = p2) = false := by
      rw [decide_eq_false_iff_not]
      rintro rfl
      exact hm (HM1.out.symm.trans HM2.out)
    have HNE := Lib.hid hne
    clear hne
    go_enter Try.func27, Try.ntmps27
    go_wp2_with fail
    go_ret
    exact ⟨ret_bool (by rw [HFIN.out, HNE.out]; simp), hb _ _⟩
  subst hm
  have q6 : ((m1 : Int) != (m1 : Int)) = false := by simp
  have hra := (hr.alloc (.cells #[.int .i64 b1, .int .i64 z1, .string (str n1), .int .i64 g1, .bool c1, .slice A m1 k1] 56)).alloc (.cells #[.int .i64 b2, .int .i64 z2, .string (str n2), .int .i64 g2, .bool c2, .slice A2 m1 k2] 56)
  have hra2 := (hr2.alloc (.cells #[.int .i64 b1, .int .i64 z1, .string (str n1), .int .i64 g1, .bool c1, .slice A m1 k1] 56)).alloc (.cells #[.int .i64 b2, .int .i64 z2, .string (str n2), .int .i64 g2, .bool c2, .slice A2 m1 k2] 56)
  have hbb := hb (.cells #[.int .i64 b1, .int .i64 z1, .string (str n1), .int .i64 g1, .bool c1, .slice A m1 k1] 56) (.cells #[.int .i64 b2, .int .i64 z2, .string (str n2), .int .i64 g2, .bool c2, .slice A2 m1 k2] 56)
  have hBa : Blk _ w.heap.size 56 _ := hB.alloc (.cells #[.int .i64 b2, .int .i64 z2, .string (str n2), .int .i64 g2, .bool c2, .slice A2 m1 k2] 56)
  go_enter Try.func27, Try.ntmps27
  go_wp2_with fail
  go_loopw [5] (fun i wr => ∃ k : Nat, k ≤ m1 ∧ i = .int .i64 k ∧ Hid (p1.take k = p2.take k) ∧ ∃ d, wr = (((w.alloc (.cells #[.int .i64 b1, .int .i64 z1, .string (str n1), .int .i64 g1, .bool c1, .slice A m1 k1] 56)).alloc (.cells #[.int .i64 b2, .int .i64 z2, .string (str n2), .int .i64 g2, .bool c2, .slice A2 m1 k2] 56))).drewN d) (fun i _ => m1 - (intOf i).toNat)
  case atStart => exact ⟨0, Nat.zero_le _, rfl, Lib.hid rfl, 0, rfl⟩
  case round =>
    obtain ⟨k, hk, rfl, HT, d, rfl⟩ := hrel
    by_cases hlt : k < m1
    · have hkl : k < p1.length := by rw [HM1.out]; exact hlt
      have hkl2 : k < p2.length := by rw [HM2.out]; exact hlt
      obtain ⟨g, o, rfl, hg, hc⟩ := hra.icell hkl
      obtain ⟨g', o2, rfl, hg2, hc2⟩ := hra2.icell hkl2
      have hi1 : (0 : Int) ≤ (k : Int) := by omega
      have hi2 : (k : Int) < (m1 : Int) := by omega
      by_cases hbe : p1[k] = p2[k]
      · have hbi : (p1[k] == p2[k]) = true := by rw [hbe]; simp
        have hbn : (p1[k] != p2[k]) = false := by rw [hbe]; simp
        go_wp2_with fail
        go_quiet (fail)
        go_wp2
        go_roundw
        case rel => exact ⟨k + 1, by omega, by go_num, Lib.hid (by rw [List.take_succ_eq_append_getElem hkl, List.take_succ_eq_append_getElem hkl2, HT.out, hbe]), _, rfl⟩
        case measure => simp [intOf]; omega
      · have hbi : (p1[k] == p2[k]) = false := by simp; exact hbe
        have hbn : (p1[k] != p2[k]) = true := by simp; exact hbe
        have hne : decide (p1 = p2) = false := by
          rw [decide_eq_false_iff_not]
          intro e
          apply hbe
          simp only [e]
        have HNE := Lib.hid hne
        clear hne hbe
        go_wp2_with fail
        go_quiet (fail)
        go_wp2
        go_ret
        refine ⟨ret_bool (by rw [HFIN.out, HNE.out]; simp), ?_⟩
        first | exact below_drewN (below_drewN hbb _) _ | exact below_drewN hbb _
    · obtain rfl : k = m1 := by omega
      have hpp : decide (p1 = p2) = true := by
        have := HT.out
        rw [List.take_of_length_le (by rw [HM1.out]; exact Nat.le_refl _), List.take_of_length_le (by rw [HM2.out]; exact Nat.le_refl _)] at this
        exact decide_eq_true this
      have HPP := Lib.hid hpp
      clear hpp
      go_wp2_with fail
      go_ret
      exact ⟨ret_bool (by rw [HFIN.out, HPP.out]; simp), below_drewN hbb _⟩
end Go.Proofs.Ytbljacafmkdlmaa
