/- The law SlotUnlike. No condition. -/
import Derived.Test.YtjpeoedpljcpnaaLaw06a
namespace Go.Proofs.Ytjpeoedpljcpnaa
open Go.RowKit

set_option maxHeartbeats 4000000 in
theorem unlike_law (a b : Sl) (w : World) :
    Calls Try.prog 6 #[.agg #[.int .i64 a.k, .int .i64 a.h, .bool a.o], .agg #[.int .i64 b.k, .int .i64 b.h, .bool b.o]] w fun e w' => e = .returned (.bool true) ∧ Below w.heap.size w w' := by
  have hB1 := (Blk.new w 23 #[.int .i64 a.k, .int .i64 a.h, .bool a.o]).alloc (.cells #[.int .i64 b.k, .int .i64 b.h, .bool b.o] 23)
  have hB2 := Blk.new (w.alloc (.cells #[.int .i64 a.k, .int .i64 a.h, .bool a.o] 23)) 23 #[.int .i64 b.k, .int .i64 b.h, .bool b.o]
  rw [World.size_alloc] at hB2
  have hb0 : Below w.heap.size w _ := ((Below.refl w.heap.size w).alloc (Nat.le_refl _) (.cells #[.int .i64 a.k, .int .i64 a.h, .bool a.o] 23)).alloc (by simp) (.cells #[.int .i64 b.k, .int .i64 b.h, .bool b.o] 23)
  go_enter Try.func6, Try.ntmps6
  go_wp2_with fail
  refine (encode_any a _).mono ?_
  rintro e w1 hp1
  obtain ⟨Ax, mx, cx, xs, rfl, hxl, hxr, hxs, hb1⟩ := hp1.uni
  obtain ⟨er, her⟩ : ∃ er : Int, er = (if allR [a] then 0 else 60) := ⟨_, rfl⟩
  rw [← her]
  have HXL := Lib.hid hxl
  have HXS := Lib.hid hxs
  have HER := Lib.hid her
  have hB11 := hB1.belowAll hb1
  have hB21 := hB2.belowAll hb1
  have hb01 := below_all hb0 hb1
  clear her hxs hp1 hxl hB1 hB2 hb0 hb1
  obtain ⟨⟨f1, f2, f3⟩, _, f4⟩ := hB11.three
  obtain ⟨⟨g1, g2, g3⟩, _, g4⟩ := hB21.three
  go_wp2_with fail
  refine (encode_any b w1).mono ?_
  rintro e w2 hp2
  obtain ⟨Ay, my, cy, ys, rfl, hyl, hyr, hys, hb2⟩ := hp2.uni
  obtain ⟨fr, hfr⟩ : ∃ fr : Int, fr = (if allR [b] then 0 else 60) := ⟨_, rfl⟩
  rw [← hfr]
  have HYL := Lib.hid hyl
  have HYS := Lib.hid hys
  have HFR := Lib.hid hfr
  have hB12 := hB11.belowAll hb2
  have hB22 := hB21.belowAll hb2
  have hxr2 := hxr.below hb2
  have hb02 := below_all hb01 hb2
  have hE1 := HER.out
  have hE2 := HFR.out
  clear hfr hys hp2 hyl f1 f2 f3 f4 g1 g2 g3 g4 hB11 hB21
  cases ha : allR [a]
  · rw [ha] at hE1
    obtain rfl : er = 60 := hE1
    clear hE2 ha
    go_wp2_with fail
    refine wp_region_seq true (.alone 0 (.take 1 .copy (.take 2 .copy (.take 3 .int2 (.take 4 .copy (.take 5 .copy (.take 6 .int2 (.take 7 .copy (.take 8 .copy (.take 9 .copy (.take 10 (.text 24 5 9) (.take 11 .copy (.take 12 (.text 24 5 9) (.take 13 (.str2 9) (.take 14 .load (.take 15 .load (.alone 16 (.take 17 .bool2 (.take 18 .copy (.take 19 .copy (.take 20 .copy .fin))))))))))))))))))))) (by kernel_rfl) (by kernel_rfl) (by kernel_rfl) ?_
    simp only [pre, nxt, List.getElem?_toArray, List.getElem?_cons_zero, List.getElem?_cons_succ, opAt, ghosts, List.nil_append, gInt, gStr, gBool, ghost, List.cons_append]
    go_wp2_with fail
    refine (alive_any _).mono ?_
    rintro e w3 ⟨rfl, hb3⟩
    go_wp2_with fail
    refine next_keep (Keep.below hb3) ?_
    go_wp2_with fail
    refine next_keep (Keep.refl _) ?_
    go_wp2_with fail
    refine ends_normal ?_
    go_wp2_with fail
    go_ret
    exact ⟨rfl, below_all hb02.drew hb3⟩
  · rw [ha] at hE1
    obtain rfl : er = 0 := hE1
    cases hbb : allR [b]
    · rw [hbb] at hE2
      obtain rfl : fr = 60 := hE2
      clear ha hbb
      go_wp2_with fail
      refine wp_region_seq true (.alone 0 (.take 1 .copy (.take 2 .copy (.take 3 .int2 (.take 4 .copy (.take 5 .copy (.take 6 .int2 (.take 7 .copy (.take 8 .copy (.take 9 .copy (.take 10 (.text 24 5 9) (.take 11 .copy (.take 12 (.text 24 5 9) (.take 13 (.str2 9) (.take 14 .load (.take 15 .load (.alone 16 (.take 17 .bool2 (.take 18 .copy (.take 19 .copy (.take 20 .copy .fin))))))))))))))))))))) (by kernel_rfl) (by kernel_rfl) (by kernel_rfl) ?_
      simp only [pre, nxt, List.getElem?_toArray, List.getElem?_cons_zero, List.getElem?_cons_succ, opAt, ghosts, List.nil_append, gInt, gStr, gBool, ghost, List.cons_append]
      go_wp2_with fail
      refine (alive_any _).mono ?_
      rintro e w3 ⟨rfl, hb3⟩
      go_wp2_with fail
      refine next_keep (Keep.below hb3) ?_
      go_wp2_with fail
      refine next_keep (Keep.refl _) ?_
      go_wp2_with fail
      refine ends_normal ?_
      go_wp2_with fail
      go_ret
      exact ⟨rfl, below_all hb02.drew hb3⟩
    · rw [hbb] at hE2
      obtain rfl : fr = 0 := hE2
      have h1 := HXS.out
      have h2 := HYS.out
      rw [ha] at h1
      rw [hbb] at h2
      by_cases hab : a = b
      · subst hab
        obtain rfl : xs = ys := h1.trans h2.symm
        clear ha hbb h1 h2
        go_wp2_with fail
        refine wp_region_seq true (.alone 0 (.take 1 .copy (.take 2 .copy (.take 3 .int2 (.take 4 .copy (.take 5 .copy (.take 6 .int2 (.take 7 .copy (.take 8 .copy (.take 9 .copy (.take 10 (.text 24 5 9) (.take 11 .copy (.take 12 (.text 24 5 9) (.take 13 (.str2 9) (.take 14 .load (.take 15 .load (.alone 16 (.take 17 .bool2 (.take 18 .copy (.take 19 .copy (.take 20 .copy .fin))))))))))))))))))))) (by kernel_rfl) (by kernel_rfl) (by kernel_rfl) ?_
        simp only [pre, nxt, List.getElem?_toArray, List.getElem?_cons_zero, List.getElem?_cons_succ, opAt, ghosts, List.nil_append, gInt, gStr, gBool, ghost, List.cons_append]
        go_wp2_with fail
        refine (alive_any _).mono ?_
        rintro e w3 ⟨rfl, hb3⟩
        have hs1 := run_string (P := Try.prog) HXL.out 24 9 5 (c := cx) Try.underlying24 Try.underlying5 Try.underlying9 (hxr2.drew.below hb3)
        have hs2 := run_string (P := Try.prog) HYL.out 24 9 5 (c := cy) Try.underlying24 Try.underlying5 Try.underlying9 (hyr.drew.below hb3)
        obtain ⟨⟨f1, f2, f3⟩, _, f4⟩ := (hB12.drew.belowAll hb3).three
        obtain ⟨⟨g1, g2, g3⟩, _, g4⟩ := (hB22.drew.belowAll hb3).three
        go_wp2_with fail
        refine next_keep (Keep.below hb3) ?_
        go_wp2_with fail
        refine next_keep (Keep.refl _) ?_
        go_wp2_with fail
        refine ends_normal ?_
        go_wp2_with fail
        go_ret
        exact ⟨rfl, below_all hb02.drew hb3⟩
      · have hxy : (xs == ys) = false := by
          rw [beq_eq_false_iff_ne]
          intro h
          have h3 : allB [a] = allB [b] := h1.symm.trans (h.trans h2)
          have h4 := allB_inj ha hbb h3
          injection h4 with h4
          exact hab h4
        clear ha hbb h1 h2 HXS HYS
        go_wp2_with fail
        refine wp_region_seq true (.alone 0 (.take 1 .copy (.take 2 .copy (.take 3 .int2 (.take 4 .copy (.take 5 .copy (.take 6 .int2 (.take 7 .copy (.take 8 .copy (.take 9 .copy (.take 10 (.text 24 5 9) (.take 11 .copy (.take 12 (.text 24 5 9) (.take 13 (.str2 9) (.take 14 .load (.take 15 .load (.alone 16 (.take 17 .bool2 (.take 18 .copy (.take 19 .copy (.take 20 .copy .fin))))))))))))))))))))) (by kernel_rfl) (by kernel_rfl) (by kernel_rfl) ?_
        simp only [pre, nxt, List.getElem?_toArray, List.getElem?_cons_zero, List.getElem?_cons_succ, opAt, ghosts, List.nil_append, gInt, gStr, gBool, ghost, List.cons_append]
        go_wp2_with fail
        refine (alive_any _).mono ?_
        rintro e w3 ⟨rfl, hb3⟩
        have hs1 := run_string (P := Try.prog) HXL.out 24 9 5 (c := cx) Try.underlying24 Try.underlying5 Try.underlying9 (hxr2.drew.below hb3)
        have hs2 := run_string (P := Try.prog) HYL.out 24 9 5 (c := cy) Try.underlying24 Try.underlying5 Try.underlying9 (hyr.drew.below hb3)
        obtain ⟨⟨f1, f2, f3⟩, _, f4⟩ := (hB12.drew.belowAll hb3).three
        obtain ⟨⟨g1, g2, g3⟩, _, g4⟩ := (hB22.drew.belowAll hb3).three
        go_wp2_with fail
        refine next_keep (Keep.below hb3) ?_
        go_wp2_with fail
        all_goals first
          | (exfalso; refine hab ?_; cases a; cases b; simp_all; done)
          | skip
        all_goals
          refine next_keep (Keep.refl _) ?_
          go_wp2_with fail
          refine ends_normal ?_
          go_wp2_with fail
          go_ret
          exact ⟨rfl, below_all hb02.drew hb3⟩
end Go.Proofs.Ytjpeoedpljcpnaa
