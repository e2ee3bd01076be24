/- The law HeadSectors. Conditions: the lengths fit memory; the numbers are int64's. -/
import Derived.Test.YtophnjoaajcfjaaLaw05b
import Derived.Test.YtophnjoaajcfjaaRhd
namespace Go.Proofs.Ytophnjoaajcfjaa
open Go.RowKit
set_option linter.unusedSimpArgs false

theorem sec_twice {h : Hd} (hr : h.right = true) : (Hd.sec ⟨h.b, 2 * h.z, h.n, h.g, h.c, h.p⟩ = 2 * h.sec ∧ 2 * h.z ≤ 256) ∨ (Hd.sec ⟨h.b, 2 * h.z, h.n, h.g, h.c, h.p⟩ = 0 ∧ 256 < 2 * h.z) := by
  have hr' := hr
  rw [Hd.right_eq] at hr'
  simp only [Bool.and_eq_true] at hr'
  obtain ⟨⟨⟨⟨⟨h1, h2⟩, h3⟩, h4⟩, h5⟩, h6⟩ := hr'
  have h2' : 0 ≤ h.z ∧ h.z ≤ 256 := by simpa [inTo] using h2
  unfold Hd.sec
  rw [if_pos hr]
  by_cases hz : 2 * h.z ≤ 256
  · left
    have e : (Hd.right ⟨h.b, 2 * h.z, h.n, h.g, h.c, h.p⟩) = true := by
      rw [Hd.right_eq]
      simp only [Bool.and_eq_true]
      refine ⟨⟨⟨⟨⟨h1, ?_⟩, h3⟩, h4⟩, h5⟩, h6⟩
      simp [inTo]
      omega
    rw [if_pos e]
    exact ⟨Int.mul_assoc _ _ _, hz⟩
  · right
    have e : ¬ (Hd.right ⟨h.b, 2 * h.z, h.n, h.g, h.c, h.p⟩) = true := by
      intro e
      have := (Hd.right_of e).2.2.2.1
      simp only at this
      omega
    rw [if_neg e]
    exact ⟨rfl, by omega⟩
theorem sec_more {h : Hd} (hr : h.right = true) : (Hd.sec ⟨h.b + 1, h.z, h.n, h.g, h.c, h.p⟩ = 2 * h.sec ∧ h.b + 1 ≤ 3) ∨ (Hd.sec ⟨h.b + 1, h.z, h.n, h.g, h.c, h.p⟩ = 0 ∧ 3 < h.b + 1) := by
  have hr' := hr
  rw [Hd.right_eq] at hr'
  simp only [Bool.and_eq_true] at hr'
  obtain ⟨⟨⟨⟨⟨h1, h2⟩, h3⟩, h4⟩, h5⟩, h6⟩ := hr'
  have h1' : 0 ≤ h.b ∧ h.b ≤ 3 := by simpa [inTo] using h1
  unfold Hd.sec
  rw [if_pos hr]
  by_cases hz : h.b + 1 ≤ 3
  · left
    have e : (Hd.right ⟨h.b + 1, h.z, h.n, h.g, h.c, h.p⟩) = true := by
      rw [Hd.right_eq]
      simp only [Bool.and_eq_true]
      refine ⟨⟨⟨⟨⟨?_, h2⟩, h3⟩, h4⟩, h5⟩, h6⟩
      simp [inTo]
      omega
    rw [if_pos e]
    refine ⟨?_, hz⟩
    simp only
    rw [show (h.b + 1).toNat = h.b.toNat + 1 by omega, Int.pow_succ, ← Int.mul_assoc, Int.mul_comm _ 2]
  · right
    have e : ¬ (Hd.right ⟨h.b + 1, h.z, h.n, h.g, h.c, h.p⟩) = true := by
      intro e
      have := (Hd.right_of e).2.1
      simp only at this
      omega
    rw [if_neg e]
    exact ⟨rfl, by omega⟩
theorem sec_wrong {h : Hd} (hr : h.right = false) : h.sec = 0 := by
  unfold Hd.sec
  rw [hr]
  rfl

set_option maxHeartbeats 4000000 in
theorem sectors_law (h : Hd) (A : Option Addr) (m c : Nat) (w : World) (hm : h.p.length = m) (hr : Row w A (iv h.p)) (hp : m ≤ 17592186044416) (hnl : h.n.length ≤ 140737488355328) :
    Calls Try.prog 7 #[.agg #[.int .i64 h.b, .int .i64 h.z, .string (str h.n), .int .i64 h.g, .bool h.c, .slice A m c]] w fun e w' => e = .returned (.bool true) ∧ Below w.heap.size w w' := by
  have HM := Lib.hid hm
  clear hm
  have hG := Blk.new w 24 #[.int .i64 h.b, .int .i64 h.z, .string (str h.n), .int .i64 h.g, .bool h.c, .slice A m c]
  have hra := hr.alloc (.cells #[.int .i64 h.b, .int .i64 h.z, .string (str h.n), .int .i64 h.g, .bool h.c, .slice A m c] 24)
  have hb0 := (Below.refl w.heap.size w).alloc (Nat.le_refl _) (.cells #[.int .i64 h.b, .int .i64 h.z, .string (str h.n), .int .i64 h.g, .bool h.c, .slice A m c] 24)
  obtain ⟨n, hn⟩ : ∃ n, n = h.sec := ⟨_, rfl⟩
  have hS := fun u hu => hSectors_u h A m c u HM.out hu (by omega) (by omega)
  rw [← hn] at hS
  have HS := Lib.hid hS
  have HNN := Lib.hid hn
  clear hS hn
  have hR := fun u hu => hRight_u h A m c u HM.out hu (by omega) (by omega)
  go_enter Try.func7, Try.ntmps7
  go_wp2_with fail
  refine (HS.out _ hra).mono ?_
  rintro e w1 ⟨rfl, hb1⟩
  have hG1 := hG.belowAll hb1
  have hr1 := hra.below hb1
  have hb01 := below_all hb0 hb1
  clear hG hra hb0 hb1 HS
  cases hrt : h.right
  · have HRT := Lib.hid hrt
    have hRx : ∀ u, Row u A (iv h.p) → Calls Try.prog 12 #[.agg #[.int .i64 h.b, .int .i64 h.z, .string (str h.n), .int .i64 h.g, .bool h.c, .slice A m c]] u fun e w' => e = .returned (.bool false) ∧ Below u.heap.size u w' := fun u hu => by have h1 := hR u hu; rw [hrt] at h1; exact h1
    have HR := Lib.hid hRx
    clear hrt hRx hR
    go_wp2_with fail
    refine wp_region_seqS ((fun u => Blk u w.heap.size 24 #[.int .i64 h.b, .int .i64 h.z, .string (str h.n), .int .i64 h.g, .bool h.c, .slice A m c])) (.hold 0 (.hold 1 (.fork 2 (.alone 3 (.alone 4 (.alone 5 .fin))) 3 (.alone 2 (.alone 4 (.alone 5 .fin)))))) (by kernel_rfl) (by kernel_rfl) (by kernel_rfl) ?_ ?_
    · exact hG1.drew
    simp only [preS, nxtS, List.getElem?_toArray, List.getElem?_cons_zero, List.getElem?_cons_succ, opAt, ghosts, List.nil_append]
    go_wp2_with fail
    refine next_hold (.agg #[.int .i64 h.b, .int .i64 h.z, .string (str h.n), .int .i64 h.g, .bool h.c, .slice A m c]) rfl (hold_row 24 _ rfl w.heap.size rfl 24 _ _ (fun u h => h) Try.underlying24 rfl (rhd_info _ _ _ _ _ _)) ?_
    go_wp2_with fail
    refine next_hold (.agg #[.int .i64 h.b, .int .i64 h.z, .string (str h.n), .int .i64 h.g, .bool h.c, .slice A m c]) rfl (hold_row 24 _ rfl w.heap.size rfl 24 _ _ (fun u h => h) Try.underlying24 rfl (rhd_info _ _ _ _ _ _)) ?_
    go_wp2_with fail
    refine next_fork ?_ ?_
    · go_wp2_with fail
      refine nextS (hG1.drew.alloc _) ?_
      go_wp2_with fail
      refine nextS ((hG1.drew.alloc _).alloc _) ?_
      go_wp2_with fail
      refine nextS ((hG1.drew.alloc _).alloc _) ?_
      go_wp2_with fail
      refine nextS ((hG1.drew.alloc _).alloc _) ?_
      go_wp2_with fail
      refine ends_normal ?_
      go_wp2_with fail
      refine wp_region_seqS ((fun u => Blk u w.heap.size 24 #[.int .i64 h.b, .int .i64 h.z, .string (str h.n), .int .i64 h.g, .bool h.c, .slice A m c])) (.take 0 .addr (.hold 1 (.take 2 .int2 (.take 3 .addr (.hold 4 (.take 5 .int2 (.take 6 .addr (.alone 7 (.take 8 .addr (.alone 9 .fin)))))))))) (by kernel_rfl) (by kernel_rfl) (by kernel_rfl) ?_ ?_
      · exact ((hG1.alloc _).alloc _).drew.drew
      simp only [preS, nxtS, List.getElem?_toArray, List.getElem?_cons_zero, List.getElem?_cons_succ, opAt, ghosts, List.nil_append, gInt, ghost, List.cons_append]
      go_wp2_with fail
      refine next_hold (.int .i64 h.z) rfl (hold_cell 3 _ rfl ⟨w.heap.size, 1, none⟩ rfl _ _ (fun u h => h.cell 1) rfl Try.underlying3) ?_
      go_wp2_with fail
      refine next_hold (.int .i64 h.b) rfl (hold_cell 3 _ rfl ⟨w.heap.size, 0, none⟩ rfl _ _ (fun u h => h.cell 0) rfl Try.underlying3) ?_
      go_wp2_with fail
      refine nextS ((hG1.alloc _).alloc _).drew.drew ?_
      go_wp2_with fail
      refine nextS ((hG1.alloc _).alloc _).drew.drew ?_
      go_wp2_with fail
      refine ends_normal ?_
      have hY0 := ((Blk.new w1 24 #[.int .i64 h.b, .int .i64 (wrap64 (2 * h.z)), .string (str h.n), .int .i64 h.g, .bool h.c, .slice A m c]).alloc (.cells #[.int .i64 (wrap64 (h.b + 1)), .int .i64 h.z, .string (str h.n), .int .i64 h.g, .bool h.c, .slice A m c] 24)).drew.drew
      have hY1 := (Blk.new (w1.alloc (.cells #[.int .i64 h.b, .int .i64 (wrap64 (2 * h.z)), .string (str h.n), .int .i64 h.g, .bool h.c, .slice A m c] 24)) 24 #[.int .i64 (wrap64 (h.b + 1)), .int .i64 h.z, .string (str h.n), .int .i64 h.g, .bool h.c, .slice A m c]).drew.drew
      rw [World.size_alloc] at hY1
      have hG2 := ((hG1.alloc (.cells #[.int .i64 h.b, .int .i64 (wrap64 (2 * h.z)), .string (str h.n), .int .i64 h.g, .bool h.c, .slice A m c] 24)).alloc (.cells #[.int .i64 (wrap64 (h.b + 1)), .int .i64 h.z, .string (str h.n), .int .i64 h.g, .bool h.c, .slice A m c] 24)).drew.drew
      have hr2 := ((hr1.alloc (.cells #[.int .i64 h.b, .int .i64 (wrap64 (2 * h.z)), .string (str h.n), .int .i64 h.g, .bool h.c, .slice A m c] 24)).alloc (.cells #[.int .i64 (wrap64 (h.b + 1)), .int .i64 h.z, .string (str h.n), .int .i64 h.g, .bool h.c, .slice A m c] 24)).drew.drew
      have hb02 := (hb01.alloc hb01.size (.cells #[.int .i64 h.b, .int .i64 (wrap64 (2 * h.z)), .string (str h.n), .int .i64 h.g, .bool h.c, .slice A m c] 24))
      have hb02 := (hb02.alloc hb02.size (.cells #[.int .i64 (wrap64 (h.b + 1)), .int .i64 h.z, .string (str h.n), .int .i64 h.g, .bool h.c, .slice A m c] 24)).drew.drew
      obtain ⟨g4, hg4⟩ : ∃ g4, g4 = w1.heap.size := ⟨_, rfl⟩
      obtain ⟨g5, hg5⟩ : ∃ g5, g5 = (w1.heap.size + 1) := ⟨_, rfl⟩
      obtain ⟨w2, hw2⟩ : ∃ w2, w2 = ((w1.alloc (.cells #[.int .i64 h.b, .int .i64 (wrap64 (2 * h.z)), .string (str h.n), .int .i64 h.g, .bool h.c, .slice A m c] 24)).alloc (.cells #[.int .i64 (wrap64 (h.b + 1)), .int .i64 h.z, .string (str h.n), .int .i64 h.g, .bool h.c, .slice A m c] 24)).drew.drew := ⟨_, rfl⟩
      rw [← hw2, ← hg4] at hY0
      rw [← hw2, ← hg5] at hY1
      rw [← hw2] at hG2 hr2 hb02 ⊢
      rw [← hg5, ← hg4]
      clear hw2 hg4 hg5 hG1 hr1 hb01
      have hN0 : n = 0 := by rw [HNN.out]; exact sec_wrong HRT.out
      subst hN0
      clear hY0 hY1
      obtain ⟨⟨g1, g2, g3, g4x, g5x, g6⟩, _⟩ := hG2.six
      by_cases hq7 : h.z < 0
      · go_wp2_with fail
        refine (alive_any _).mono ?_
        rintro e w4 ⟨rfl, hb4⟩
        have hr4 := hr2.below hb4
        have hG4 := hG2.belowAll hb4
        have hb04 := below_all hb02 hb4
        obtain ⟨⟨k1, k2, k3, k4, k5, k6⟩, _⟩ := hG4.six
        go_wp2_with fail
        refine (HR.out _ hr4).mono ?_
        rintro e w5 ⟨rfl, hb5⟩
        go_wp2_with fail
        go_ret
        exact ⟨ret_bool (by simp), below_all hb04 hb5⟩
      by_cases hq10 : 1000 < h.z
      · go_wp2_with fail
        refine (alive_any _).mono ?_
        rintro e w4 ⟨rfl, hb4⟩
        have hr4 := hr2.below hb4
        have hG4 := hG2.belowAll hb4
        have hb04 := below_all hb02 hb4
        obtain ⟨⟨k1, k2, k3, k4, k5, k6⟩, _⟩ := hG4.six
        go_wp2_with fail
        refine (HR.out _ hr4).mono ?_
        rintro e w5 ⟨rfl, hb5⟩
        go_wp2_with fail
        go_ret
        exact ⟨ret_bool (by simp), below_all hb04 hb5⟩
      go_wp2_with fail
      refine (HR.out _ hr2).mono ?_
      rintro e w3 ⟨rfl, hb3⟩
      have hr3 := hr2.below hb3
      have hG3 := hG2.belowAll hb3
      have hb03 := below_all hb02 hb3
      clear g1 g2 g3 g4x g5x g6
      go_wp2_with fail
      refine (alive_any _).mono ?_
      rintro e w4 ⟨rfl, hb4⟩
      have hr4 := hr3.below hb4
      have hG4 := hG3.belowAll hb4
      have hb04 := below_all hb03 hb4
      obtain ⟨⟨k1, k2, k3, k4, k5, k6⟩, _⟩ := hG4.six
      go_wp2_with fail
      refine (HR.out _ hr4).mono ?_
      rintro e w5 ⟨rfl, hb5⟩
      go_wp2_with fail
      go_ret
      exact ⟨ret_bool (by simp), below_all hb04 hb5⟩
    · go_wp2_with fail
      refine nextS (hG1.drew.alloc _) ?_
      go_wp2_with fail
      refine nextS ((hG1.drew.alloc _).alloc _) ?_
      go_wp2_with fail
      refine nextS ((hG1.drew.alloc _).alloc _) ?_
      go_wp2_with fail
      refine nextS ((hG1.drew.alloc _).alloc _) ?_
      go_wp2_with fail
      refine ends_normal ?_
      go_wp2_with fail
      refine wp_region_seqS ((fun u => Blk u w.heap.size 24 #[.int .i64 h.b, .int .i64 h.z, .string (str h.n), .int .i64 h.g, .bool h.c, .slice A m c])) (.take 0 .addr (.hold 1 (.take 2 .int2 (.take 3 .addr (.hold 4 (.take 5 .int2 (.take 6 .addr (.alone 7 (.take 8 .addr (.alone 9 .fin)))))))))) (by kernel_rfl) (by kernel_rfl) (by kernel_rfl) ?_ ?_
      · exact ((hG1.alloc _).alloc _).drew.drew
      simp only [preS, nxtS, List.getElem?_toArray, List.getElem?_cons_zero, List.getElem?_cons_succ, opAt, ghosts, List.nil_append, gInt, ghost, List.cons_append]
      go_wp2_with fail
      refine next_hold (.int .i64 h.z) rfl (hold_cell 3 _ rfl ⟨w.heap.size, 1, none⟩ rfl _ _ (fun u h => h.cell 1) rfl Try.underlying3) ?_
      go_wp2_with fail
      refine next_hold (.int .i64 h.b) rfl (hold_cell 3 _ rfl ⟨w.heap.size, 0, none⟩ rfl _ _ (fun u h => h.cell 0) rfl Try.underlying3) ?_
      go_wp2_with fail
      refine nextS ((hG1.alloc _).alloc _).drew.drew ?_
      go_wp2_with fail
      refine nextS ((hG1.alloc _).alloc _).drew.drew ?_
      go_wp2_with fail
      refine ends_normal ?_
      have hY0 := ((Blk.new w1 24 #[.int .i64 (wrap64 (h.b + 1)), .int .i64 h.z, .string (str h.n), .int .i64 h.g, .bool h.c, .slice A m c]).alloc (.cells #[.int .i64 h.b, .int .i64 (wrap64 (2 * h.z)), .string (str h.n), .int .i64 h.g, .bool h.c, .slice A m c] 24)).drew.drew
      have hY1 := (Blk.new (w1.alloc (.cells #[.int .i64 (wrap64 (h.b + 1)), .int .i64 h.z, .string (str h.n), .int .i64 h.g, .bool h.c, .slice A m c] 24)) 24 #[.int .i64 h.b, .int .i64 (wrap64 (2 * h.z)), .string (str h.n), .int .i64 h.g, .bool h.c, .slice A m c]).drew.drew
      rw [World.size_alloc] at hY1
      have hG2 := ((hG1.alloc (.cells #[.int .i64 (wrap64 (h.b + 1)), .int .i64 h.z, .string (str h.n), .int .i64 h.g, .bool h.c, .slice A m c] 24)).alloc (.cells #[.int .i64 h.b, .int .i64 (wrap64 (2 * h.z)), .string (str h.n), .int .i64 h.g, .bool h.c, .slice A m c] 24)).drew.drew
      have hr2 := ((hr1.alloc (.cells #[.int .i64 (wrap64 (h.b + 1)), .int .i64 h.z, .string (str h.n), .int .i64 h.g, .bool h.c, .slice A m c] 24)).alloc (.cells #[.int .i64 h.b, .int .i64 (wrap64 (2 * h.z)), .string (str h.n), .int .i64 h.g, .bool h.c, .slice A m c] 24)).drew.drew
      have hb02 := (hb01.alloc hb01.size (.cells #[.int .i64 (wrap64 (h.b + 1)), .int .i64 h.z, .string (str h.n), .int .i64 h.g, .bool h.c, .slice A m c] 24))
      have hb02 := (hb02.alloc hb02.size (.cells #[.int .i64 h.b, .int .i64 (wrap64 (2 * h.z)), .string (str h.n), .int .i64 h.g, .bool h.c, .slice A m c] 24)).drew.drew
      obtain ⟨g4, hg4⟩ : ∃ g4, g4 = (w1.heap.size + 1) := ⟨_, rfl⟩
      obtain ⟨g5, hg5⟩ : ∃ g5, g5 = w1.heap.size := ⟨_, rfl⟩
      obtain ⟨w2, hw2⟩ : ∃ w2, w2 = ((w1.alloc (.cells #[.int .i64 (wrap64 (h.b + 1)), .int .i64 h.z, .string (str h.n), .int .i64 h.g, .bool h.c, .slice A m c] 24)).alloc (.cells #[.int .i64 h.b, .int .i64 (wrap64 (2 * h.z)), .string (str h.n), .int .i64 h.g, .bool h.c, .slice A m c] 24)).drew.drew := ⟨_, rfl⟩
      rw [← hw2, ← hg5] at hY0
      rw [← hw2, ← hg4] at hY1
      rw [← hw2] at hG2 hr2 hb02 ⊢
      rw [← hg4, ← hg5]
      clear hw2 hg4 hg5 hG1 hr1 hb01
      have hN0 : n = 0 := by rw [HNN.out]; exact sec_wrong HRT.out
      subst hN0
      clear hY0 hY1
      obtain ⟨⟨g1, g2, g3, g4x, g5x, g6⟩, _⟩ := hG2.six
      by_cases hq7 : h.z < 0
      · go_wp2_with fail
        refine (alive_any _).mono ?_
        rintro e w4 ⟨rfl, hb4⟩
        have hr4 := hr2.below hb4
        have hG4 := hG2.belowAll hb4
        have hb04 := below_all hb02 hb4
        obtain ⟨⟨k1, k2, k3, k4, k5, k6⟩, _⟩ := hG4.six
        go_wp2_with fail
        refine (HR.out _ hr4).mono ?_
        rintro e w5 ⟨rfl, hb5⟩
        go_wp2_with fail
        go_ret
        exact ⟨ret_bool (by simp), below_all hb04 hb5⟩
      by_cases hq10 : 1000 < h.z
      · go_wp2_with fail
        refine (alive_any _).mono ?_
        rintro e w4 ⟨rfl, hb4⟩
        have hr4 := hr2.below hb4
        have hG4 := hG2.belowAll hb4
        have hb04 := below_all hb02 hb4
        obtain ⟨⟨k1, k2, k3, k4, k5, k6⟩, _⟩ := hG4.six
        go_wp2_with fail
        refine (HR.out _ hr4).mono ?_
        rintro e w5 ⟨rfl, hb5⟩
        go_wp2_with fail
        go_ret
        exact ⟨ret_bool (by simp), below_all hb04 hb5⟩
      go_wp2_with fail
      refine (HR.out _ hr2).mono ?_
      rintro e w3 ⟨rfl, hb3⟩
      have hr3 := hr2.below hb3
      have hG3 := hG2.belowAll hb3
      have hb03 := below_all hb02 hb3
      clear g1 g2 g3 g4x g5x g6
      go_wp2_with fail
      refine (alive_any _).mono ?_
      rintro e w4 ⟨rfl, hb4⟩
      have hr4 := hr3.below hb4
      have hG4 := hG3.belowAll hb4
      have hb04 := below_all hb03 hb4
      obtain ⟨⟨k1, k2, k3, k4, k5, k6⟩, _⟩ := hG4.six
      go_wp2_with fail
      refine (HR.out _ hr4).mono ?_
      rintro e w5 ⟨rfl, hb5⟩
      go_wp2_with fail
      go_ret
      exact ⟨ret_bool (by simp), below_all hb04 hb5⟩
  · have HRT := Lib.hid hrt
    have hRx : ∀ u, Row u A (iv h.p) → Calls Try.prog 12 #[.agg #[.int .i64 h.b, .int .i64 h.z, .string (str h.n), .int .i64 h.g, .bool h.c, .slice A m c]] u fun e w' => e = .returned (.bool true) ∧ Below u.heap.size u w' := fun u hu => by have h1 := hR u hu; rw [hrt] at h1; exact h1
    have HR := Lib.hid hRx
    have hq := Hd.right_of hrt
    have hb3 : 0 ≤ h.b ∧ h.b ≤ 3 := ⟨hq.1, hq.2.1⟩
    have hz3 : 0 ≤ h.z ∧ h.z ≤ 256 := ⟨hq.2.2.1, hq.2.2.2.1⟩
    clear hq
    clear hrt hRx hR
    go_wp2_with fail
    refine wp_region_seqS ((fun u => Blk u w.heap.size 24 #[.int .i64 h.b, .int .i64 h.z, .string (str h.n), .int .i64 h.g, .bool h.c, .slice A m c])) (.hold 0 (.hold 1 (.fork 2 (.alone 3 (.alone 4 (.alone 5 .fin))) 3 (.alone 2 (.alone 4 (.alone 5 .fin)))))) (by kernel_rfl) (by kernel_rfl) (by kernel_rfl) ?_ ?_
    · exact hG1.drew
    simp only [preS, nxtS, List.getElem?_toArray, List.getElem?_cons_zero, List.getElem?_cons_succ, opAt, ghosts, List.nil_append]
    go_wp2_with fail
    refine next_hold (.agg #[.int .i64 h.b, .int .i64 h.z, .string (str h.n), .int .i64 h.g, .bool h.c, .slice A m c]) rfl (hold_row 24 _ rfl w.heap.size rfl 24 _ _ (fun u h => h) Try.underlying24 rfl (rhd_info _ _ _ _ _ _)) ?_
    go_wp2_with fail
    refine next_hold (.agg #[.int .i64 h.b, .int .i64 h.z, .string (str h.n), .int .i64 h.g, .bool h.c, .slice A m c]) rfl (hold_row 24 _ rfl w.heap.size rfl 24 _ _ (fun u h => h) Try.underlying24 rfl (rhd_info _ _ _ _ _ _)) ?_
    go_wp2_with fail
    refine next_fork ?_ ?_
    · go_wp2_with fail
      refine nextS (hG1.drew.alloc _) ?_
      go_wp2_with fail
      refine nextS ((hG1.drew.alloc _).alloc _) ?_
      go_wp2_with fail
      refine nextS ((hG1.drew.alloc _).alloc _) ?_
      go_wp2_with fail
      refine nextS ((hG1.drew.alloc _).alloc _) ?_
      go_wp2_with fail
      refine ends_normal ?_
      go_wp2_with fail
      refine wp_region_seqS ((fun u => Blk u w.heap.size 24 #[.int .i64 h.b, .int .i64 h.z, .string (str h.n), .int .i64 h.g, .bool h.c, .slice A m c])) (.take 0 .addr (.hold 1 (.take 2 .int2 (.take 3 .addr (.hold 4 (.take 5 .int2 (.take 6 .addr (.alone 7 (.take 8 .addr (.alone 9 .fin)))))))))) (by kernel_rfl) (by kernel_rfl) (by kernel_rfl) ?_ ?_
      · exact ((hG1.alloc _).alloc _).drew.drew
      simp only [preS, nxtS, List.getElem?_toArray, List.getElem?_cons_zero, List.getElem?_cons_succ, opAt, ghosts, List.nil_append, gInt, ghost, List.cons_append]
      go_wp2_with fail
      refine next_hold (.int .i64 h.z) rfl (hold_cell 3 _ rfl ⟨w.heap.size, 1, none⟩ rfl _ _ (fun u h => h.cell 1) rfl Try.underlying3) ?_
      go_wp2_with fail
      refine next_hold (.int .i64 h.b) rfl (hold_cell 3 _ rfl ⟨w.heap.size, 0, none⟩ rfl _ _ (fun u h => h.cell 0) rfl Try.underlying3) ?_
      go_wp2_with fail
      refine nextS ((hG1.alloc _).alloc _).drew.drew ?_
      go_wp2_with fail
      refine nextS ((hG1.alloc _).alloc _).drew.drew ?_
      go_wp2_with fail
      refine ends_normal ?_
      have hY0 := ((Blk.new w1 24 #[.int .i64 h.b, .int .i64 (2 * h.z), .string (str h.n), .int .i64 h.g, .bool h.c, .slice A m c]).alloc (.cells #[.int .i64 (h.b + 1), .int .i64 h.z, .string (str h.n), .int .i64 h.g, .bool h.c, .slice A m c] 24)).drew.drew
      have hY1 := (Blk.new (w1.alloc (.cells #[.int .i64 h.b, .int .i64 (2 * h.z), .string (str h.n), .int .i64 h.g, .bool h.c, .slice A m c] 24)) 24 #[.int .i64 (h.b + 1), .int .i64 h.z, .string (str h.n), .int .i64 h.g, .bool h.c, .slice A m c]).drew.drew
      rw [World.size_alloc] at hY1
      have hG2 := ((hG1.alloc (.cells #[.int .i64 h.b, .int .i64 (2 * h.z), .string (str h.n), .int .i64 h.g, .bool h.c, .slice A m c] 24)).alloc (.cells #[.int .i64 (h.b + 1), .int .i64 h.z, .string (str h.n), .int .i64 h.g, .bool h.c, .slice A m c] 24)).drew.drew
      have hr2 := ((hr1.alloc (.cells #[.int .i64 h.b, .int .i64 (2 * h.z), .string (str h.n), .int .i64 h.g, .bool h.c, .slice A m c] 24)).alloc (.cells #[.int .i64 (h.b + 1), .int .i64 h.z, .string (str h.n), .int .i64 h.g, .bool h.c, .slice A m c] 24)).drew.drew
      have hb02 := (hb01.alloc hb01.size (.cells #[.int .i64 h.b, .int .i64 (2 * h.z), .string (str h.n), .int .i64 h.g, .bool h.c, .slice A m c] 24))
      have hb02 := (hb02.alloc hb02.size (.cells #[.int .i64 (h.b + 1), .int .i64 h.z, .string (str h.n), .int .i64 h.g, .bool h.c, .slice A m c] 24)).drew.drew
      obtain ⟨g4, hg4⟩ : ∃ g4, g4 = w1.heap.size := ⟨_, rfl⟩
      obtain ⟨g5, hg5⟩ : ∃ g5, g5 = (w1.heap.size + 1) := ⟨_, rfl⟩
      obtain ⟨w2, hw2⟩ : ∃ w2, w2 = ((w1.alloc (.cells #[.int .i64 h.b, .int .i64 (2 * h.z), .string (str h.n), .int .i64 h.g, .bool h.c, .slice A m c] 24)).alloc (.cells #[.int .i64 (h.b + 1), .int .i64 h.z, .string (str h.n), .int .i64 h.g, .bool h.c, .slice A m c] 24)).drew.drew := ⟨_, rfl⟩
      rw [← hw2, ← hg4] at hY0
      rw [← hw2, ← hg5] at hY1
      rw [← hw2] at hG2 hr2 hb02 ⊢
      rw [← hg5, ← hg4]
      clear hw2 hg4 hg5 hG1 hr1 hb01
      have hq1 : ¬ h.z < 0 := by omega
      have hq2 : ¬ 1000 < h.z := by omega
      obtain ⟨⟨g1, g2, g3, g4x, g5x, g6⟩, _⟩ := hG2.six
      go_wp2_with fail
      refine (HR.out _ hr2).mono ?_
      rintro e w3 ⟨rfl, hb3⟩
      have hr3 := hr2.below hb3
      have hP3 := hY0.belowAll hb3
      have hQ3 := hY1.belowAll hb3
      have hb03 := below_all hb02 hb3
      clear g1 g2 g3 g4x g5x g6 hG2 hY0 hY1 hr2 hb02 hb3 HR hq1 hq2
      obtain ⟨x, hx⟩ : ∃ x, x = Hd.sec ⟨h.b, 2 * h.z, h.n, h.g, h.c, h.p⟩ := ⟨_, rfl⟩
      obtain ⟨y, hy⟩ : ∃ y, y = Hd.sec ⟨h.b + 1, h.z, h.n, h.g, h.c, h.p⟩ := ⟨_, rfl⟩
      have hSx := fun u hu => hSectors_u ⟨h.b, 2 * h.z, h.n, h.g, h.c, h.p⟩ A m c u HM.out hu (by omega) (by omega)
      have hSy := fun u hu => hSectors_u ⟨h.b + 1, h.z, h.n, h.g, h.c, h.p⟩ A m c u HM.out hu (by omega) (by omega)
      rw [← hx] at hSx
      rw [← hy] at hSy
      have hcx : (x = 2 * n ∧ 2 * h.z ≤ 256) ∨ (x = 0 ∧ 256 < 2 * h.z) := by rw [hx, HNN.out]; exact sec_twice HRT.out
      have hcy : (y = 2 * n ∧ h.b + 1 ≤ 3) ∨ (y = 0 ∧ 3 < h.b + 1) := by rw [hy, HNN.out]; exact sec_more HRT.out
      have HSX := Lib.hid hSx
      have HSY := Lib.hid hSy
      have HCX := Lib.hid hcx
      have HCY := Lib.hid hcy
      have hn0 : 0 ≤ n ∧ n ≤ 4096 := by
        rw [HNN.out]
        unfold Hd.sec
        rw [if_pos HRT.out]
        have hcase : h.b = 0 ∨ h.b = 1 ∨ h.b = 2 ∨ h.b = 3 := by omega
        rcases hcase with hc | hc | hc | hc <;> rw [hc]
        · show 0 ≤ h.z * 1 ∧ h.z * 1 ≤ 4096; omega
        · show 0 ≤ h.z * 2 ∧ h.z * 2 ≤ 4096; omega
        · show 0 ≤ h.z * 4 ∧ h.z * 4 ≤ 4096; omega
        · show 0 ≤ h.z * 8 ∧ h.z * 8 ≤ 4096; omega
      have hwn : wrap64 (2 * n) = 2 * n := by unfold wrap64; omega
      clear hx hy hSx hSy hcx hcy HM HNN HRT
      go_wp2_with fail
      refine wp_region_seqS ((fun u => Blk u g4 24 #[.int .i64 h.b, .int .i64 (2 * h.z), .string (str h.n), .int .i64 h.g, .bool h.c, .slice A m c] ∧ Blk u g5 24 #[.int .i64 (h.b + 1), .int .i64 h.z, .string (str h.n), .int .i64 h.g, .bool h.c, .slice A m c])) (.hold 0 (.hold 2 (.alone 1 (.alone 3 (.take 4 .copy (.take 5 .copy .fin)))))) (by kernel_rfl) (by kernel_rfl) (by kernel_rfl) ?_ ?_
      · exact ⟨hP3.drew, hQ3.drew⟩
      simp only [preS, nxtS, List.getElem?_toArray, List.getElem?_cons_zero, List.getElem?_cons_succ, opAt, ghosts, List.nil_append, gInt, ghost, List.cons_append]
      go_wp2_with fail
      refine next_hold (.agg #[.int .i64 h.b, .int .i64 (2 * h.z), .string (str h.n), .int .i64 h.g, .bool h.c, .slice A m c]) rfl (hold_row 24 _ rfl g4 rfl 24 _ _ (fun u h => h.1) Try.underlying24 rfl (rhd_info _ _ _ _ _ _)) ?_
      go_wp2_with fail
      refine next_hold (.agg #[.int .i64 (h.b + 1), .int .i64 h.z, .string (str h.n), .int .i64 h.g, .bool h.c, .slice A m c]) rfl (hold_row 24 _ rfl g5 rfl 24 _ _ (fun u h => h.2) Try.underlying24 rfl (rhd_info _ _ _ _ _ _)) ?_
      go_wp2_with fail
      refine (HSX.out _ hr3.drew).mono ?_
      rintro e w4 ⟨rfl, hb4⟩
      have hr4 := hr3.drew.below hb4
      have hP4 := hP3.drew.belowAll hb4
      have hQ4 := hQ3.drew.belowAll hb4
      have hb04 := below_all hb03.drew hb4
      go_wp2_with fail
      refine nextS ⟨hP4, hQ4⟩ ?_
      go_wp2_with fail
      refine (HSY.out _ hr4).mono ?_
      rintro e w5 ⟨rfl, hb5⟩
      have hP5 := hP4.belowAll hb5
      have hQ5 := hQ4.belowAll hb5
      have hb05 := below_all hb04 hb5
      go_wp2_with fail
      refine nextS ⟨hP5, hQ5⟩ ?_
      go_wp2_with fail
      refine ends_normal ?_
      clear hr4 hP3 hQ3 hP4 hQ4 hb03 hb04 hb4 hb5 hr3 HSX HSY
      go_wp2_with fail
      refine (alive_any _).mono ?_
      rintro e w6 ⟨rfl, hb6⟩
      obtain ⟨⟨p1, p2, p3, p4, p5, p6⟩, _⟩ := (hP5.belowAll hb6).six
      obtain ⟨⟨q1, q2, q3, q4, q5, q6⟩, _⟩ := (hQ5.belowAll hb6).six
      have hb06 := below_all hb05 hb6
      clear hP5 hQ5 hb05 hb6
      rcases HCX.out with ⟨rfl, ux⟩ | ⟨rfl, ux⟩ <;> rcases HCY.out with ⟨rfl, uy⟩ | ⟨rfl, uy⟩
      all_goals
        clear HCX HCY
        go_wp2_with fail
      all_goals
        go_ret
        exact ⟨ret_bool (by simp [hwn, ux, uy]), hb06⟩
    · go_wp2_with fail
      refine nextS (hG1.drew.alloc _) ?_
      go_wp2_with fail
      refine nextS ((hG1.drew.alloc _).alloc _) ?_
      go_wp2_with fail
      refine nextS ((hG1.drew.alloc _).alloc _) ?_
      go_wp2_with fail
      refine nextS ((hG1.drew.alloc _).alloc _) ?_
      go_wp2_with fail
      refine ends_normal ?_
      go_wp2_with fail
      refine wp_region_seqS ((fun u => Blk u w.heap.size 24 #[.int .i64 h.b, .int .i64 h.z, .string (str h.n), .int .i64 h.g, .bool h.c, .slice A m c])) (.take 0 .addr (.hold 1 (.take 2 .int2 (.take 3 .addr (.hold 4 (.take 5 .int2 (.take 6 .addr (.alone 7 (.take 8 .addr (.alone 9 .fin)))))))))) (by kernel_rfl) (by kernel_rfl) (by kernel_rfl) ?_ ?_
      · exact ((hG1.alloc _).alloc _).drew.drew
      simp only [preS, nxtS, List.getElem?_toArray, List.getElem?_cons_zero, List.getElem?_cons_succ, opAt, ghosts, List.nil_append, gInt, ghost, List.cons_append]
      go_wp2_with fail
      refine next_hold (.int .i64 h.z) rfl (hold_cell 3 _ rfl ⟨w.heap.size, 1, none⟩ rfl _ _ (fun u h => h.cell 1) rfl Try.underlying3) ?_
      go_wp2_with fail
      refine next_hold (.int .i64 h.b) rfl (hold_cell 3 _ rfl ⟨w.heap.size, 0, none⟩ rfl _ _ (fun u h => h.cell 0) rfl Try.underlying3) ?_
      go_wp2_with fail
      refine nextS ((hG1.alloc _).alloc _).drew.drew ?_
      go_wp2_with fail
      refine nextS ((hG1.alloc _).alloc _).drew.drew ?_
      go_wp2_with fail
      refine ends_normal ?_
      have hY0 := ((Blk.new w1 24 #[.int .i64 (h.b + 1), .int .i64 h.z, .string (str h.n), .int .i64 h.g, .bool h.c, .slice A m c]).alloc (.cells #[.int .i64 h.b, .int .i64 (2 * h.z), .string (str h.n), .int .i64 h.g, .bool h.c, .slice A m c] 24)).drew.drew
      have hY1 := (Blk.new (w1.alloc (.cells #[.int .i64 (h.b + 1), .int .i64 h.z, .string (str h.n), .int .i64 h.g, .bool h.c, .slice A m c] 24)) 24 #[.int .i64 h.b, .int .i64 (2 * h.z), .string (str h.n), .int .i64 h.g, .bool h.c, .slice A m c]).drew.drew
      rw [World.size_alloc] at hY1
      have hG2 := ((hG1.alloc (.cells #[.int .i64 (h.b + 1), .int .i64 h.z, .string (str h.n), .int .i64 h.g, .bool h.c, .slice A m c] 24)).alloc (.cells #[.int .i64 h.b, .int .i64 (2 * h.z), .string (str h.n), .int .i64 h.g, .bool h.c, .slice A m c] 24)).drew.drew
      have hr2 := ((hr1.alloc (.cells #[.int .i64 (h.b + 1), .int .i64 h.z, .string (str h.n), .int .i64 h.g, .bool h.c, .slice A m c] 24)).alloc (.cells #[.int .i64 h.b, .int .i64 (2 * h.z), .string (str h.n), .int .i64 h.g, .bool h.c, .slice A m c] 24)).drew.drew
      have hb02 := (hb01.alloc hb01.size (.cells #[.int .i64 (h.b + 1), .int .i64 h.z, .string (str h.n), .int .i64 h.g, .bool h.c, .slice A m c] 24))
      have hb02 := (hb02.alloc hb02.size (.cells #[.int .i64 h.b, .int .i64 (2 * h.z), .string (str h.n), .int .i64 h.g, .bool h.c, .slice A m c] 24)).drew.drew
      obtain ⟨g4, hg4⟩ : ∃ g4, g4 = (w1.heap.size + 1) := ⟨_, rfl⟩
      obtain ⟨g5, hg5⟩ : ∃ g5, g5 = w1.heap.size := ⟨_, rfl⟩
      obtain ⟨w2, hw2⟩ : ∃ w2, w2 = ((w1.alloc (.cells #[.int .i64 (h.b + 1), .int .i64 h.z, .string (str h.n), .int .i64 h.g, .bool h.c, .slice A m c] 24)).alloc (.cells #[.int .i64 h.b, .int .i64 (2 * h.z), .string (str h.n), .int .i64 h.g, .bool h.c, .slice A m c] 24)).drew.drew := ⟨_, rfl⟩
      rw [← hw2, ← hg5] at hY0
      rw [← hw2, ← hg4] at hY1
      rw [← hw2] at hG2 hr2 hb02 ⊢
      rw [← hg4, ← hg5]
      clear hw2 hg4 hg5 hG1 hr1 hb01
      have hq1 : ¬ h.z < 0 := by omega
      have hq2 : ¬ 1000 < h.z := by omega
      obtain ⟨⟨g1, g2, g3, g4x, g5x, g6⟩, _⟩ := hG2.six
      go_wp2_with fail
      refine (HR.out _ hr2).mono ?_
      rintro e w3 ⟨rfl, hb3⟩
      have hr3 := hr2.below hb3
      have hP3 := hY1.belowAll hb3
      have hQ3 := hY0.belowAll hb3
      have hb03 := below_all hb02 hb3
      clear g1 g2 g3 g4x g5x g6 hG2 hY0 hY1 hr2 hb02 hb3 HR hq1 hq2
      obtain ⟨x, hx⟩ : ∃ x, x = Hd.sec ⟨h.b, 2 * h.z, h.n, h.g, h.c, h.p⟩ := ⟨_, rfl⟩
      obtain ⟨y, hy⟩ : ∃ y, y = Hd.sec ⟨h.b + 1, h.z, h.n, h.g, h.c, h.p⟩ := ⟨_, rfl⟩
      have hSx := fun u hu => hSectors_u ⟨h.b, 2 * h.z, h.n, h.g, h.c, h.p⟩ A m c u HM.out hu (by omega) (by omega)
      have hSy := fun u hu => hSectors_u ⟨h.b + 1, h.z, h.n, h.g, h.c, h.p⟩ A m c u HM.out hu (by omega) (by omega)
      rw [← hx] at hSx
      rw [← hy] at hSy
      have hcx : (x = 2 * n ∧ 2 * h.z ≤ 256) ∨ (x = 0 ∧ 256 < 2 * h.z) := by rw [hx, HNN.out]; exact sec_twice HRT.out
      have hcy : (y = 2 * n ∧ h.b + 1 ≤ 3) ∨ (y = 0 ∧ 3 < h.b + 1) := by rw [hy, HNN.out]; exact sec_more HRT.out
      have HSX := Lib.hid hSx
      have HSY := Lib.hid hSy
      have HCX := Lib.hid hcx
      have HCY := Lib.hid hcy
      have hn0 : 0 ≤ n ∧ n ≤ 4096 := by
        rw [HNN.out]
        unfold Hd.sec
        rw [if_pos HRT.out]
        have hcase : h.b = 0 ∨ h.b = 1 ∨ h.b = 2 ∨ h.b = 3 := by omega
        rcases hcase with hc | hc | hc | hc <;> rw [hc]
        · show 0 ≤ h.z * 1 ∧ h.z * 1 ≤ 4096; omega
        · show 0 ≤ h.z * 2 ∧ h.z * 2 ≤ 4096; omega
        · show 0 ≤ h.z * 4 ∧ h.z * 4 ≤ 4096; omega
        · show 0 ≤ h.z * 8 ∧ h.z * 8 ≤ 4096; omega
      have hwn : wrap64 (2 * n) = 2 * n := by unfold wrap64; omega
      clear hx hy hSx hSy hcx hcy HM HNN HRT
      go_wp2_with fail
      refine wp_region_seqS ((fun u => Blk u g4 24 #[.int .i64 h.b, .int .i64 (2 * h.z), .string (str h.n), .int .i64 h.g, .bool h.c, .slice A m c] ∧ Blk u g5 24 #[.int .i64 (h.b + 1), .int .i64 h.z, .string (str h.n), .int .i64 h.g, .bool h.c, .slice A m c])) (.hold 0 (.hold 2 (.alone 1 (.alone 3 (.take 4 .copy (.take 5 .copy .fin)))))) (by kernel_rfl) (by kernel_rfl) (by kernel_rfl) ?_ ?_
      · exact ⟨hP3.drew, hQ3.drew⟩
      simp only [preS, nxtS, List.getElem?_toArray, List.getElem?_cons_zero, List.getElem?_cons_succ, opAt, ghosts, List.nil_append, gInt, ghost, List.cons_append]
      go_wp2_with fail
      refine next_hold (.agg #[.int .i64 h.b, .int .i64 (2 * h.z), .string (str h.n), .int .i64 h.g, .bool h.c, .slice A m c]) rfl (hold_row 24 _ rfl g4 rfl 24 _ _ (fun u h => h.1) Try.underlying24 rfl (rhd_info _ _ _ _ _ _)) ?_
      go_wp2_with fail
      refine next_hold (.agg #[.int .i64 (h.b + 1), .int .i64 h.z, .string (str h.n), .int .i64 h.g, .bool h.c, .slice A m c]) rfl (hold_row 24 _ rfl g5 rfl 24 _ _ (fun u h => h.2) Try.underlying24 rfl (rhd_info _ _ _ _ _ _)) ?_
      go_wp2_with fail
      refine (HSX.out _ hr3.drew).mono ?_
      rintro e w4 ⟨rfl, hb4⟩
      have hr4 := hr3.drew.below hb4
      have hP4 := hP3.drew.belowAll hb4
      have hQ4 := hQ3.drew.belowAll hb4
      have hb04 := below_all hb03.drew hb4
      go_wp2_with fail
      refine nextS ⟨hP4, hQ4⟩ ?_
      go_wp2_with fail
      refine (HSY.out _ hr4).mono ?_
      rintro e w5 ⟨rfl, hb5⟩
      have hP5 := hP4.belowAll hb5
      have hQ5 := hQ4.belowAll hb5
      have hb05 := below_all hb04 hb5
      go_wp2_with fail
      refine nextS ⟨hP5, hQ5⟩ ?_
      go_wp2_with fail
      refine ends_normal ?_
      clear hr4 hP3 hQ3 hP4 hQ4 hb03 hb04 hb4 hb5 hr3 HSX HSY
      go_wp2_with fail
      refine (alive_any _).mono ?_
      rintro e w6 ⟨rfl, hb6⟩
      obtain ⟨⟨p1, p2, p3, p4, p5, p6⟩, _⟩ := (hP5.belowAll hb6).six
      obtain ⟨⟨q1, q2, q3, q4, q5, q6⟩, _⟩ := (hQ5.belowAll hb6).six
      have hb06 := below_all hb05 hb6
      clear hP5 hQ5 hb05 hb6
      rcases HCX.out with ⟨rfl, ux⟩ | ⟨rfl, ux⟩ <;> rcases HCY.out with ⟨rfl, uy⟩ | ⟨rfl, uy⟩
      all_goals
        clear HCX HCY
        go_wp2_with fail
      all_goals
        go_ret
        exact ⟨ret_bool (by simp [hwn, ux, uy]), hb06⟩
end Go.Proofs.Ytophnjoaajcfjaa
