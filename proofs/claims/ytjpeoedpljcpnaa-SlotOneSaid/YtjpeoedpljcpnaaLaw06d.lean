/- The law SlotOne. Conditions: the length of the bytes fits memory. -/
import Derived.Test.YtjpeoedpljcpnaaLaw06a
namespace Go.Proofs.Ytjpeoedpljcpnaa
open Go.RowKit

theorem enc_one (s : Sl) : (if allR [s] then allB [s] else []) = encS s ∧ (if allR [s] then (0 : Int) else 60) = encE s := by
  have h1 : allR [s] = s.right := by simp [allR]
  have h2 : allB [s] = be 4 s.num.toNat := by simp [allB]
  unfold encS encE
  rw [h1, h2]
  exact ⟨rfl, rfl⟩

set_option maxHeartbeats 4000000 in
theorem one_law (s : Sl) (A : Option Addr) (n c : Nat) (b : List UInt8) (w : World) (hn : b.length = n) (hr : Row w A (bv b)) :
    Calls Try.prog 3 #[.agg #[.int .i64 s.k, .int .i64 s.h, .bool s.o], .slice A n c] w fun e w' => e = .returned (.bool true) ∧ Below w.heap.size w w' := by
  have HN := Lib.hid hn
  clear hn
  have hB0 := Blk.new w 23 #[.int .i64 s.k, .int .i64 s.h, .bool s.o]
  have hb0 := (Below.refl w.heap.size w).alloc (Nat.le_refl _) (.cells #[.int .i64 s.k, .int .i64 s.h, .bool s.o] 23)
  by_cases h1 : 20000 < n
  · go_enter Try.func3, Try.ntmps3
    go_wp2_with fail
    refine (alive_any _).mono ?_
    rintro e w2 ⟨rfl, hb2⟩
    go_wp2_with fail
    go_ret
    exact ⟨rfl, below_all hb0 hb2⟩
  go_enter Try.func3, Try.ntmps3
  go_wp2_with fail
  refine (encode_any s _).mono ?_
  rintro e w1 hp1
  obtain ⟨Ax, mx, cx, xs, rfl, hxl, hxr, hxs, hb1⟩ := hp1.uni
  obtain ⟨o1, o2⟩ := enc_one s
  rw [o1] at hxs
  rw [o2]
  subst hxs
  obtain ⟨xs, hxs⟩ : ∃ xs, xs = encS s := ⟨_, rfl⟩
  obtain ⟨er, her⟩ : ∃ er, er = encE s := ⟨_, rfl⟩
  rw [← hxs] at hxl hxr
  rw [← her]
  have HXL := Lib.hid hxl
  have HXS := Lib.hid hxs
  have HER := Lib.hid her
  have hB1 := hB0.belowAll hb1
  have hb01 := below_all hb0 hb1
  have hr1 := (hr.below hb01)
  clear her hxs hp1 hxl o1 o2 hB0 hb0 hb1
  obtain ⟨⟨f1, f2, f3⟩, _, f4⟩ := hB1.three
  go_wp2_with fail
  refine (rEnc_any s w1).mono ?_
  rw [← HXS.out, ← HER.out]
  rintro e w2 ⟨rfl, hb2⟩
  have hB2 := hB1.belowAll hb2
  have hr2 := hr1.below hb2
  have hxr2 := hxr.below hb2
  have hb02 := below_all hb01 hb2
  clear f1 f2 f3 f4 hB1 hr1
  go_wp2_with fail
  refine (decode_any A n c b w2 HN.out hr2 (by omega)).mono ?_
  have hD := fun u => rDec_any b u (by have := HN.out; omega)
  obtain ⟨d, hd⟩ : ∃ d, d = decS b := ⟨_, rfl⟩
  obtain ⟨dr, hdr⟩ : ∃ dr, dr = decE b := ⟨_, rfl⟩
  rw [← hd, ← hdr] at hD ⊢
  have HD := Lib.hid hD
  clear hd hdr hD
  rintro e w3 ⟨rfl, hb3⟩
  have hB3 := (hB2.belowAll hb3).alloc (.cells #[.int .i64 d.k, .int .i64 d.h, .bool d.o] 29)
  have hr3 := (hr2.below hb3).alloc (.cells #[.int .i64 d.k, .int .i64 d.h, .bool d.o] 29)
  have hxr3 := (hxr2.below hb3).alloc (.cells #[.int .i64 d.k, .int .i64 d.h, .bool d.o] 29)
  have hC3 := Blk.new w3 29 #[.int .i64 d.k, .int .i64 d.h, .bool d.o]
  have hb03 := (below_all hb02 hb3).alloc (below_all hb02 hb3).size (.cells #[.int .i64 d.k, .int .i64 d.h, .bool d.o] 29)
  obtain ⟨w4, hw4⟩ : ∃ w4, w4 = w3.alloc (.cells #[.int .i64 d.k, .int .i64 d.h, .bool d.o] 29) := ⟨_, rfl⟩
  rw [← hw4] at hB3 hr3 hxr3 hC3 hb03
  have HW4 := Lib.hid hw4
  clear hw4 hB2 hr2 hxr2 hb3 hb02
  have hs4 := run_string (P := Try.prog) HN.out 24 9 5 (c := c) Try.underlying24 Try.underlying5 Try.underlying9 hr3
  rw [HW4.out] at hs4
  go_wp2_with fail
  rw [← HW4.out]
  refine (HD.out w4).mono ?_
  rintro e w5 ⟨rfl, hb5⟩
  have hB5 := (hB3.belowAll hb5).alloc (.cells #[.int .i64 d.k, .int .i64 d.h, .bool d.o] 23)
  have hC5 := (hC3.belowAll hb5).alloc (.cells #[.int .i64 d.k, .int .i64 d.h, .bool d.o] 23)
  have hD5 := Blk.new w5 23 #[.int .i64 d.k, .int .i64 d.h, .bool d.o]
  have hxr5 := (hxr3.below hb5).alloc (.cells #[.int .i64 d.k, .int .i64 d.h, .bool d.o] 23)
  have hb05 := (below_all hb03 hb5).alloc (below_all hb03 hb5).size (.cells #[.int .i64 d.k, .int .i64 d.h, .bool d.o] 23)
  clear hs4
  obtain ⟨w6, hw6⟩ : ∃ w6, w6 = w5.alloc (.cells #[.int .i64 d.k, .int .i64 d.h, .bool d.o] 23) := ⟨_, rfl⟩
  rw [← hw6] at hB5 hC5 hD5 hxr5 hb05
  go_wp2_with fail
  rw [← hw6]
  clear hw6 hB3 hC3 hr3 hxr3
  refine wp_region_seq true (.alone 0 (.take 1 .copy (.take 2 .copy (.take 3 (.text 24 5 9) (.take 4 .copy (.take 5 (.str2 9) (.take 6 .copy (.take 7 .copy (.take 8 .copy (.take 9 .copy (.take 10 .int2 (.take 11 .copy (.take 12 .copy (.take 13 .load (.take 14 .load (.alone 15 (.take 16 .copy (.take 17 .copy (.take 18 .copy (.take 19 .copy (.take 20 .int2 (.take 21 .copy (.take 22 .copy (.take 23 .load (.take 25 .load (.alone 24 (.alone 26 (.take 27 .bool2 (.take 28 .copy (.take 29 .copy (.take 30 .load (.take 32 .addr (.take 33 .load (.take 34 .int2 (.alone 31 (.take 35 .copy (.take 36 .addr (.take 37 .load (.take 38 .copy (.take 39 .bool2 (.take 40 .copy (.take 41 .copy .fin)))))))))))))))))))))))))))))))))))))))))) (by kernel_rfl) (by kernel_rfl) (by kernel_rfl) ?_
  simp only [pre, nxt, List.getElem?_toArray, List.getElem?_cons_zero, List.getElem?_cons_succ, opAt, ghosts, List.nil_append, gInt, gStr, gBool, ghost, List.cons_append]
  go_wp2_with fail
  refine (alive_any _).mono ?_
  rintro e w7 ⟨rfl, hb7⟩
  have hs7 := run_string (P := Try.prog) HXL.out 24 9 5 (c := cx) Try.underlying24 Try.underlying5 Try.underlying9 (hxr5.drew.below hb7)
  have hB7 := hB5.drew.belowAll hb7
  have hC7 := hC5.drew.belowAll hb7
  have hD7 := hD5.drew.belowAll hb7
  obtain ⟨⟨f1, f2, f3⟩, _, f4⟩ := hB7.three
  obtain ⟨⟨g1, g2, g3⟩, _, g4⟩ := hC7.three
  obtain ⟨⟨k1, k2, k3⟩, _, k4⟩ := hD7.three
  have hb07 := below_all hb05.drew hb7
  go_wp2_with fail
  refine next_keep (Keep.below hb7) ?_
  go_wp2_with fail
  refine next_keep (Keep.refl _) ?_
  go_wp2_with fail
  refine (sRight_any s w7).mono ?_
  rintro e w8 ⟨rfl, hb8⟩
  obtain ⟨⟨f1', f2', f3'⟩, _, f4'⟩ := (hB7.belowAll hb8).three
  go_wp2_with fail
  refine next_keep (Keep.below hb8) ?_
  go_wp2_with fail
  refine (rRight6_any s w8).mono ?_
  rintro e w9 ⟨rfl, hb9⟩
  obtain ⟨⟨f1'', f2'', f3''⟩, _, f4''⟩ := ((hB7.belowAll hb8).belowAll hb9).three
  go_wp2_with fail
  refine next_keep (Keep.below hb9) ?_
  go_wp2_with fail
  refine (sWrites_any s w9).mono ?_
  rintro e w10 ⟨rfl, hb10⟩
  obtain ⟨⟨z1, z2, z3⟩, _, z4⟩ := (((hB7.belowAll hb8).belowAll hb9).belowAll hb10).three
  go_wp2_with fail
  all_goals refine next_keep (Keep.below hb10) ?_
  all_goals go_wp2_with fail
  all_goals refine ends_normal ?_
  all_goals go_wp2_with fail
  all_goals go_ret
  all_goals refine ⟨ret_bool ?_, below_all hb07 (below_all hb8 (below_all hb9 hb10))⟩
  all_goals first
    | rfl
    | (simp_all; done)
end Go.Proofs.Ytjpeoedpljcpnaa
