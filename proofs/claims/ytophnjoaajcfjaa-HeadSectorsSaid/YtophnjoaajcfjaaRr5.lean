/- pentimentoref05.Right: what it answers. Conditions: the lengths fit memory. -/
import Derived.Test.YtophnjoaajcfjaaHr
import Derived.Test.YtophnjoaajcfjaaR4
namespace Go.Proofs.Ytophnjoaajcfjaa
open Go.RowKit

set_option maxHeartbeats 4000000 in
theorem rRight5_any (h : Hd) (A : Option Addr) (c : Nat) (w : World) (hr : Row w A (iv h.p)) (hp : h.p.length ≤ 17592186044416) (hnl : h.n.length ≤ 140737488355328) :
    Calls Try.prog 13 #[.agg #[.int .i64 h.b, .int .i64 h.z, .string (str h.n), .int .i64 h.g, .bool h.c, .slice A h.p.length c]] w fun e w' => e = .returned (.bool h.right) ∧ Below w.heap.size w w' := by
  have hB := Blk.new w 24 #[.int .i64 h.b, .int .i64 h.z, .string (str h.n), .int .i64 h.g, .bool h.c, .slice A h.p.length c]
  have hb := (Below.refl w.heap.size w).alloc (Nat.le_refl _) (.cells #[.int .i64 h.b, .int .i64 h.z, .string (str h.n), .int .i64 h.g, .bool h.c, .slice A h.p.length c] 24)
  have hra := hr.alloc (.cells #[.int .i64 h.b, .int .i64 h.z, .string (str h.n), .int .i64 h.g, .bool h.c, .slice A h.p.length c] 24)
  have hre := h.right_eq
  obtain ⟨m, hm⟩ : ∃ m, m = h.p.length := ⟨_, rfl⟩
  rw [← hm] at hB hb hra hp hre ⊢
  have HRE := Lib.hid hre
  have HM := Lib.hid hm
  clear hre hm hr
  by_cases c0 : h.b < 0
  · have hx : inTo h.b 3 = false := by unfold inTo; simp only [Bool.and_eq_false_iff, decide_eq_false_iff_not]; omega
    rw [hx] at HRE
    clear hx
    go_enter Try.func13, Try.ntmps13
    go_wp2_with fail
    go_ret
    exact ⟨ret_bool (by rw [HRE.out]; simp), hb⟩
  by_cases c1 : 3 < h.b
  · have hx : inTo h.b 3 = false := by unfold inTo; simp only [Bool.and_eq_false_iff, decide_eq_false_iff_not]; omega
    rw [hx] at HRE
    clear hx
    go_enter Try.func13, Try.ntmps13
    go_wp2_with fail
    go_ret
    exact ⟨ret_bool (by rw [HRE.out]; simp), hb⟩
  by_cases c2 : h.z < 0
  · have hx : inTo h.z 256 = false := by unfold inTo; simp only [Bool.and_eq_false_iff, decide_eq_false_iff_not]; omega
    rw [hx] at HRE
    clear hx
    go_enter Try.func13, Try.ntmps13
    go_wp2_with fail
    go_ret
    exact ⟨ret_bool (by rw [HRE.out]; simp), hb⟩
  by_cases c3 : 256 < h.z
  · have hx : inTo h.z 256 = false := by unfold inTo; simp only [Bool.and_eq_false_iff, decide_eq_false_iff_not]; omega
    rw [hx] at HRE
    clear hx
    go_enter Try.func13, Try.ntmps13
    go_wp2_with fail
    go_ret
    exact ⟨ret_bool (by rw [HRE.out]; simp), hb⟩
  by_cases c4 : h.g < 0
  · have hx : inTo h.g 1099511627776 = false := by unfold inTo; simp only [Bool.and_eq_false_iff, decide_eq_false_iff_not]; omega
    rw [hx] at HRE
    clear hx
    go_enter Try.func13, Try.ntmps13
    go_wp2_with fail
    go_ret
    exact ⟨ret_bool (by rw [HRE.out]; simp), hb⟩
  by_cases c5 : 1099511627776 < h.g
  · have hx : inTo h.g 1099511627776 = false := by unfold inTo; simp only [Bool.and_eq_false_iff, decide_eq_false_iff_not]; omega
    rw [hx] at HRE
    clear hx
    go_enter Try.func13, Try.ntmps13
    go_wp2_with fail
    go_ret
    exact ⟨ret_bool (by rw [HRE.out]; simp), hb⟩
  by_cases c6 : 8 < m
  · have hx : decide (m ≤ 8) = false := decide_eq_false (by omega)
    rw [hx] at HRE
    clear hx
    go_enter Try.func13, Try.ntmps13
    go_wp2_with fail
    go_ret
    exact ⟨ret_bool (by rw [HRE.out]; simp), hb⟩
  have hx1 : inTo h.b 3 = true := by unfold inTo; simp only [Bool.and_eq_true, decide_eq_true_eq]; omega
  have hx2 : inTo h.z 256 = true := by unfold inTo; simp only [Bool.and_eq_true, decide_eq_true_eq]; omega
  have hx3 : inTo h.g 1099511627776 = true := by unfold inTo; simp only [Bool.and_eq_true, decide_eq_true_eq]; omega
  have hx4 : decide (m ≤ 8) = true := decide_eq_true (by omega)
  rw [hx1, hx2, hx3, hx4] at HRE
  have HRE2 : Hid (h.right = ((decide (h.n = []) || nameOK h.n) && h.p.all okPart)) := Lib.hid (by rw [HRE.out]; simp)
  clear hx1 hx2 hx3 hx4 HRE
  obtain ⟨⟨f1, f2, f3, f4, f5, f6⟩, f7⟩ := hB.six
  go_enter Try.func13, Try.ntmps13
  go_wp2_with fail
  go_loop [3] (fun i => ∃ k : Nat, k ≤ m ∧ i = .int .i64 k ∧ Hid ((h.p.take k).all okPart = true)) (fun i => m - (intOf i).toNat)
  case atStart => exact ⟨0, Nat.zero_le _, rfl, Lib.hid rfl⟩
  case round =>
    obtain ⟨k, hk, rfl, hall⟩ := hrel
    by_cases hlt : k < m
    · have hkl : k < h.p.length := by rw [← HM.out]; exact hlt
      obtain ⟨b, o, rfl, hbb, h4⟩ := hra.icell hkl
      have htk : (h.p.take (k + 1)).all okPart = ((h.p.take k).all okPart && okPart h.p[k]) := by rw [List.take_succ_eq_append_getElem hkl, List.all_append]; simp
      have hmem := List.getElem_mem hkl
      obtain ⟨x, hx⟩ : ∃ x, x = h.p[k] := ⟨_, rfl⟩
      rw [← hx] at h4 htk hmem
      have HTK := Lib.hid htk
      clear hx htk
      cases hok : okPart x
      · have hno : h.p.all okPart = false := by
          cases h : h.p.all okPart
          · rfl
          · rw [List.all_eq_true.1 h _ hmem] at hok
            cases hok
        have hend : h.right = false := by rw [HRE2.out, hno]; simp
        have HEND := Lib.hid hend
        have hbad : x < 0 ∨ (¬ x < 0 ∧ 65535 < x) := by
          unfold okPart at hok
          simp only [Bool.and_eq_false_iff, decide_eq_false_iff_not] at hok
          omega
        clear hno hend hok
        rcases hbad with h1 | ⟨h1, h2⟩
        all_goals
          go_wp2_with fail
          go_ret
          exact ⟨ret_bool (by rw [HEND.out]), hb⟩
      · have hgood : ¬ x < 0 ∧ ¬ 65535 < x := by
          unfold okPart at hok
          simp only [Bool.and_eq_true, decide_eq_true_eq] at hok
          omega
        obtain ⟨h1, h2⟩ := hgood
        have HOK := Lib.hid hok
        clear hok
        go_wp2_with fail
        go_round
        case rel => exact ⟨k + 1, by omega, by go_num, Lib.hid (by rw [HTK.out, hall.out, HOK.out]; rfl)⟩
        case measure => simp [intOf]; omega
    · obtain rfl : k = m := by omega
      have ht : h.p.take k = h.p := List.take_of_length_le (by rw [← HM.out]; exact Nat.le_refl _)
      have hall2 := hall.out
      rw [ht] at hall2
      have hend : h.right = (decide (h.n = []) || nameOK h.n) := by rw [HRE2.out, hall2]; simp
      have HEND := Lib.hid hend
      clear hall2 ht hend
      by_cases hn0 : h.n = []
      · have hee : h.right = true := by rw [HEND.out, hn0]; rfl
        have HEE := Lib.hid hee
        rw [hn0] at f3
        rw [hn0] at hb hra
        clear hee
        try rw [hn0]
        go_wp2_with fail
        go_ret
        exact ⟨ret_bool (by rw [HEE.out]), by first | exact hb | (rw [hn0]; exact hb)⟩
      · have hee : h.right = nameOK h.n := by rw [HEND.out, decide_eq_false hn0]; rfl
        have HEE := Lib.hid hee
        have hne : (h.n == []) = false := by rw [beq_eq_false_iff_ne]; exact hn0
        clear hee hn0
        go_wp2_with fail
        refine (rRight4_any h.n _ hnl).mono ?_
        rintro e w2 ⟨rfl, hb2⟩
        go_wp2_with fail
        go_ret
        exact ⟨ret_bool (by rw [HEE.out]), below_all hb hb2⟩
end Go.Proofs.Ytophnjoaajcfjaa
