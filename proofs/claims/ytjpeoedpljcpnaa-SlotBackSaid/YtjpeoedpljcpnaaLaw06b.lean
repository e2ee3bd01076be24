/- The laws SlotBack, SlotJoin. Conditions: the lengths fit memory. -/
import Derived.Test.YtjpeoedpljcpnaaLaw06a
namespace Go.Proofs.Ytjpeoedpljcpnaa
open Go.RowKit

set_option maxHeartbeats 4000000 in
theorem back_law (A A2 : Option Addr) (n c n2 c2 : Nat) (l : List Sl) (b : List UInt8) (w : World) (hn : l.length = n) (hr : Row w A (scells l)) (hn2 : b.length = n2) (hr2 : Row w A2 (bv b)) :
    Calls Try.prog 5 #[.slice A n c, .slice A2 n2 c2] w fun e w' => e = .returned (.bool true) ∧ Below w.heap.size w w' := by
  have HN := Lib.hid hn
  have HN2 := Lib.hid hn2
  clear hn hn2
  by_cases h1 : 1000 < n
  · go_enter Try.func5, Try.ntmps5
    go_wp2_with fail
    refine (alive_any w).mono ?_
    rintro e w2 ⟨rfl, hb2⟩
    go_wp2_with fail
    go_ret
    exact ⟨rfl, hb2⟩
  by_cases h2 : 5000 < n2
  · go_enter Try.func5, Try.ntmps5
    go_wp2_with fail
    refine (alive_any w).mono ?_
    rintro e w2 ⟨rfl, hb2⟩
    go_wp2_with fail
    go_ret
    exact ⟨rfl, hb2⟩
  go_enter Try.func5, Try.ntmps5
  go_wp2_with fail
  refine (own_any A n c l w HN.out hr (by omega)).mono ?_
  rintro e w1 ⟨A1, c1, rfl, hown1, hb1⟩
  go_wp2_with fail
  refine (all_any A1 n c1 l w1 HN.out hown1.row (by omega)).mono ?_
  rintro e w3 ⟨⟨hbad, rfl⟩ | ⟨hgood, Ax, cx, rfl, hownx⟩, hb3⟩
  · have hr23 := (hr2.below hb1).below hb3
    have hb03 := below_all hb1 hb3
    clear hbad
    have hr2x := hr23
    go_wp2_with fail
    refine (rest_any A2 n2 c2 b w3 HN2.out hr2x (by omega)).mono ?_
    rintro e w11 hp11
    rcases hb0 : restF b with _ | l2
    · obtain ⟨⟨_, rfl⟩ | ⟨l3, A3, c3, h3, _⟩, hb11⟩ := hp11
      · clear hb0
        go_wp2_with fail
        refine (alive_any w11).mono ?_
        rintro e w12 ⟨rfl, hb12⟩
        go_wp2_with fail
        go_ret
        exact ⟨rfl, below_all hb03 (below_all hb11 hb12)⟩
      · rw [hb0] at h3
        cases h3
    · obtain ⟨⟨h3, _⟩ | ⟨l3, A3, c3, h3, rfl, hown3⟩, hb11⟩ := hp11
      · rw [hb0] at h3
        cases h3
      · obtain rfl : l3 = l2 := by rw [hb0] at h3; injection h3 with h3; exact h3.symm
        obtain ⟨hall3, hB3⟩ := restF_some b.length b l3 (Nat.le_refl _) hb0
        have hlen3 : l3.length ≤ n2 := by
          have := allB_length l3
          rw [hB3, HN2.out] at this
          omega
        have HALL3 := Lib.hid hall3
        have HB3 := Lib.hid hB3
        have hrb11 := hr2x.below hb11
        clear hb0 h3 hall3 hB3
        go_wp2_with fail
        refine (all_any A3 l3.length c3 l3 w11 rfl hown3.row (by omega)).mono ?_
        rintro e w12 ⟨⟨h4, _⟩ | ⟨_, A4, c4, rfl, hown4⟩, hb12⟩
        · rw [HALL3.out] at h4
          cases h4
        have hrb12 := hrb11.below hb12
        rw [HB3.out] at hown4
        have hl4 : b.length = 4 * l3.length := by rw [← HB3.out, allB_length]
        have HL4 := Lib.hid hl4
        clear hl4
        go_wp2_with fail
        refine (alive_any w12).mono ?_
        rintro e w13 ⟨rfl, hb13⟩
        have hrb13 := hrb12.below hb13
        have hs1 := run_string (P := Try.prog) HL4.out 24 9 5 (c := c4) Try.underlying24 Try.underlying5 Try.underlying9 (hown4.row.below hb13)
        have hs2 := run_string (P := Try.prog) HN2.out 24 9 5 (c := c2) Try.underlying24 Try.underlying5 Try.underlying9 hrb13
        go_wp2_with fail
        go_ret
        exact ⟨rfl, below_all hb03 (below_all hb11 (below_all hb12 hb13))⟩
  · have hr23 := (hr2.below hb1).below hb3
    have hr13 := (hr.below hb1).below hb3
    have hb03 := below_all hb1 hb3
    have HG := Lib.hid hgood
    clear hgood
    rw [HN.out] at hownx ⊢
    go_wp2_with fail
    refine (rest_any Ax (4 * n) cx (allB l) w3 (by rw [allB_length, HN.out]) hownx.row (by omega)).mono ?_
    rintro e w4 ⟨⟨hno, _⟩ | ⟨l4, A4, c4, hso, rfl, hown4⟩, hb4⟩
    · rw [restF_all l HG.out] at hno
      cases hno
    obtain rfl : l = l4 := by rw [restF_all l HG.out] at hso; injection hso
    clear hso
    rw [HN.out] at hown4 ⊢
    have hr14 := hr13.below hb4
    have hr24 := hr23.below hb4
    go_wp2_with fail
    refine (plain_any A4 n c4 l w4 HN.out hown4.row (by omega)).mono ?_
    rintro e w5 ⟨A5, c5, rfl, hown5, hb5⟩
    go_wp2_with fail
    refine (same_any A5 A n c5 n c l l w5 HN.out hown5.row HN.out (hr14.below hb5) (by omega) rfl).mono ?_
    rintro e w6 ⟨rfl, hb6⟩
    have hr26 := (hr24.below hb5).below hb6
    have hb06 := below_all hb03 (below_all hb4 (below_all hb5 hb6))
    clear hown1 hownx hown4 hown5 hr14 hr24 hr13 hr23
    have hr2x := hr26
    go_wp2_with fail
    refine (rest_any A2 n2 c2 b w6 HN2.out hr2x (by omega)).mono ?_
    rintro e w11 hp11
    rcases hb0 : restF b with _ | l2
    · obtain ⟨⟨_, rfl⟩ | ⟨l3, A3, c3, h3, _⟩, hb11⟩ := hp11
      · clear hb0
        go_wp2_with fail
        refine (alive_any w11).mono ?_
        rintro e w12 ⟨rfl, hb12⟩
        go_wp2_with fail
        go_ret
        exact ⟨rfl, below_all hb06 (below_all hb11 hb12)⟩
      · rw [hb0] at h3
        cases h3
    · obtain ⟨⟨h3, _⟩ | ⟨l3, A3, c3, h3, rfl, hown3⟩, hb11⟩ := hp11
      · rw [hb0] at h3
        cases h3
      · obtain rfl : l3 = l2 := by rw [hb0] at h3; injection h3 with h3; exact h3.symm
        obtain ⟨hall3, hB3⟩ := restF_some b.length b l3 (Nat.le_refl _) hb0
        have hlen3 : l3.length ≤ n2 := by
          have := allB_length l3
          rw [hB3, HN2.out] at this
          omega
        have HALL3 := Lib.hid hall3
        have HB3 := Lib.hid hB3
        have hrb11 := hr2x.below hb11
        clear hb0 h3 hall3 hB3
        go_wp2_with fail
        refine (all_any A3 l3.length c3 l3 w11 rfl hown3.row (by omega)).mono ?_
        rintro e w12 ⟨⟨h4, _⟩ | ⟨_, A4, c4, rfl, hown4⟩, hb12⟩
        · rw [HALL3.out] at h4
          cases h4
        have hrb12 := hrb11.below hb12
        rw [HB3.out] at hown4
        have hl4 : b.length = 4 * l3.length := by rw [← HB3.out, allB_length]
        have HL4 := Lib.hid hl4
        clear hl4
        go_wp2_with fail
        refine (alive_any w12).mono ?_
        rintro e w13 ⟨rfl, hb13⟩
        have hrb13 := hrb12.below hb13
        have hs1 := run_string (P := Try.prog) HL4.out 24 9 5 (c := c4) Try.underlying24 Try.underlying5 Try.underlying9 (hown4.row.below hb13)
        have hs2 := run_string (P := Try.prog) HN2.out 24 9 5 (c := c2) Try.underlying24 Try.underlying5 Try.underlying9 hrb13
        go_wp2_with fail
        go_ret
        exact ⟨rfl, below_all hb06 (below_all hb11 (below_all hb12 hb13))⟩

set_option maxHeartbeats 4000000 in
theorem join_law (A A2 : Option Addr) (n c n2 c2 : Nat) (l l2 : List Sl) (w : World) (hn : l.length = n) (hr : Row w A (scells l)) (hn2 : l2.length = n2) (hr2 : Row w A2 (scells l2)) (hsz : n ≤ 140737488355328) (hsz2 : n2 ≤ 140737488355328) :
    Calls Try.prog 7 #[.slice A n c, .slice A2 n2 c2] w fun e w' => e = .returned (.bool true) ∧ Below w.heap.size w w' := by
  have HN := Lib.hid hn
  have HN2 := Lib.hid hn2
  clear hn hn2
  by_cases h1 : 1000 < n + n2
  · go_enter Try.func7, Try.ntmps7
    go_wp2_with fail
    refine (alive_any w).mono ?_
    rintro e w2 ⟨rfl, hb2⟩
    go_wp2_with fail
    go_ret
    exact ⟨rfl, hb2⟩
  obtain ⟨i0, hi0, hz0, hz1, hz2⟩ := info_parts info_rslot
  go_enter Try.func7, Try.ntmps7
  go_wp2_with fail
  refine (own_any A n c l w HN.out hr (by omega)).mono ?_
  rintro e w1 ⟨A1, c1, rfl, hown1, hb1⟩
  go_wp2_with fail
  refine (all_any A1 n c1 l w1 HN.out hown1.row (by omega)).mono ?_
  rintro e w3 hp3
  obtain ⟨Ax, mx, cx, xs, rfl, hxl, hxr, hxs, hb3⟩ := hp3.uni
  have hr3 := (hr.below hb1).below hb3
  have hr23 := (hr2.below hb1).below hb3
  obtain ⟨er, her⟩ : ∃ er : Int, er = (if allR l then 0 else 60) := ⟨_, rfl⟩
  rw [← her]
  have HXL := Lib.hid hxl
  have HXS := Lib.hid hxs
  have HER := Lib.hid her
  clear her hxs hp3 hxl
  go_wp2_with fail
  refine (own_any A2 n2 c2 l2 w3 HN2.out hr23 (by omega)).mono ?_
  rintro e w4 ⟨A4, c4, rfl, hown4, hb4⟩
  go_wp2_with fail
  refine (all_any A4 n2 c4 l2 w4 HN2.out hown4.row (by omega)).mono ?_
  rintro e w5 hp5
  obtain ⟨Ay, my, cy, ys, rfl, hyl, hyr, hys, hb5⟩ := hp5.uni
  have hr5 := (hr3.below hb4).below hb5
  have hr25 := (hr23.below hb4).below hb5
  have hxr5 := (hxr.below hb4).below hb5
  obtain ⟨fr, hfr⟩ : ∃ fr : Int, fr = (if allR l2 then 0 else 60) := ⟨_, rfl⟩
  rw [← hfr]
  have HYL := Lib.hid hyl
  have HYS := Lib.hid hys
  have HFR := Lib.hid hfr
  have hb05 := below_all hb1 (below_all hb3 (below_all hb4 hb5))
  clear hfr hys hp5 hyl hb1 hb3 hb4 hb5 hown1 hown4 hr3 hr23
  have hsr1 : Src Try.prog (w5.alloc (.cells #[] 23)) 39 (.slice A n c) 3 n (scells l) := Src.slice Try.underlying39 (hr5.alloc _) (by rw [scells_length, HN.out]) (scells_one l)
  have HJ := Lib.hid (scells_append l l2)
  go_wp2_with (first
    | (at_builtin; refine wpList_app _ rfl _ _ 39 39 rfl w5.heap.size 23 i0 _ 3 24 Try.underlying39 hi0 hz0 hz1 hz2 rfl _ 0 0 [] rfl (Own.nil _ _ _ _ _) _ n (scells l) rfl hsr1 (by simp only [maxLen]; omega) (by omega) (by simp) ?_; intro A6 c6 w6 hown6 hg6 hb6; rw [Nat.zero_add, List.nil_append] at hown6; rw [Nat.zero_add]; have hb56 : Below w5.heap.size w5 w6 := ((Below.refl _ _).alloc (Nat.le_refl _) _).grown hg6 (by simp) (fun i hi => by simp [ownB] at hi); have hsr2 : Src Try.prog w6 39 (.slice A2 n2 c2) 3 n2 (scells l2) := Src.slice Try.underlying39 (hr25.below hb56) (by rw [scells_length, HN2.out]) (scells_one l2))
    | (at_builtin; refine wpList_app _ rfl _ _ 39 39 rfl w5.heap.size 23 i0 _ 3 24 Try.underlying39 hi0 hz0 hz1 hz2 rfl A6 n c6 (scells l) rfl hown6 _ n2 (scells l2) rfl hsr2 (by simp only [maxLen]; omega) (by omega) hb56.size ?_; intro A7 c7 w7 hown7 hg7 hb7; rw [← HJ.out] at hown7; have hb67 : Below w5.heap.size w5 w7 := hb56.grown hg7 hb56.size (fun i hi => (hown6.lt i hi).1)))
  have hlj : (l ++ l2).length = n + n2 := by rw [List.length_append, HN.out, HN2.out]
  refine (own_any A7 (n + n2) c7 (l ++ l2) w7 hlj hown7.row (by omega)).mono ?_
  rintro e w8 ⟨A8, c8, rfl, hown8, hb8⟩
  go_wp2_with fail
  refine (all_any A8 (n + n2) c8 (l ++ l2) w8 hlj hown8.row (by omega)).mono ?_
  rintro e w9 hp9
  obtain ⟨Az, mz, cz, zs, rfl, hzl, hzr, hzs, hb9⟩ := hp9.uni
  have hxr9 := ((hxr5.below hb67).below hb8).below hb9
  have hyr9 := ((hyr.below hb67).below hb8).below hb9
  have hb09 := below_all hb05 (below_all hb67 (below_all hb8 hb9))
  have hja := allR_append l l2
  rw [hja, allB_append] at hzs
  rw [hja]
  have HZL := Lib.hid hzl
  have HZS := Lib.hid hzs
  have HER2 := HER.out
  have HFR2 := HFR.out
  clear hja hzs hzl hp9 hlj hown6 hown7 hown8
  cases ha : allR l
  · rw [ha] at HER2
    obtain rfl : er = 60 := HER2
    clear HFR2 ha
    go_wp2_with fail
    refine (alive_any w9).mono ?_
    rintro e w10 ⟨rfl, hb10⟩
    go_wp2_with fail
    go_ret
    exact ⟨rfl, below_all hb09 hb10⟩
  · cases ha2 : allR l2
    · rw [ha2] at HFR2
      obtain rfl : fr = 60 := HFR2
      rw [ha] at HER2
      obtain rfl : er = 0 := HER2
      clear ha ha2
      go_wp2_with fail
      refine (alive_any w9).mono ?_
      rintro e w10 ⟨rfl, hb10⟩
      go_wp2_with fail
      go_ret
      exact ⟨rfl, below_all hb09 hb10⟩
    · rw [ha2] at HFR2
      obtain rfl : fr = 0 := HFR2
      rw [ha] at HER2
      obtain rfl : er = 0 := HER2
      have h1x := HXS.out
      have h2x := HYS.out
      have h3x := HZS.out
      rw [ha] at h1x
      rw [ha2] at h2x
      rw [ha, ha2] at h3x
      have hzz : zs = xs ++ ys := by rw [h1x, h2x, h3x]; rfl
      have hxy : xs.length + ys.length ≤ 9223372036854775807 := by
        have e1 : xs.length = 4 * n := by rw [h1x]; show (allB l).length = _; rw [allB_length, HN.out]
        have e2 : ys.length = 4 * n2 := by rw [h2x]; show (allB l2).length = _; rw [allB_length, HN2.out]
        omega
      have hcat := run_cat (P := Try.prog) xs ys hxy
      rw [← hzz] at hcat
      clear ha ha2 h1x h2x h3x hzz hxy HXS HYS HZS
      go_wp2_with fail
      refine (alive_any w9).mono ?_
      rintro e w10 ⟨rfl, hb10⟩
      have hs1 := run_string (P := Try.prog) HZL.out 24 9 5 (c := cz) Try.underlying24 Try.underlying5 Try.underlying9 (hzr.below hb10)
      have hs2 := run_string (P := Try.prog) HXL.out 24 9 5 (c := cx) Try.underlying24 Try.underlying5 Try.underlying9 (hxr9.below hb10)
      have hs3 := run_string (P := Try.prog) HYL.out 24 9 5 (c := cy) Try.underlying24 Try.underlying5 Try.underlying9 (hyr9.below hb10)
      go_wp2_with fail
      go_ret
      exact ⟨rfl, below_all hb09 hb10⟩
end Go.Proofs.Ytjpeoedpljcpnaa
