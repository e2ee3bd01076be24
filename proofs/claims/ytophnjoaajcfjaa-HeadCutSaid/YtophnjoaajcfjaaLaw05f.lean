/- The law HeadCut. Conditions: the lengths fit memory. -/
import Derived.Test.YtophnjoaajcfjaaLaw05b
namespace Go.Proofs.Ytophnjoaajcfjaa
open Go.RowKit

set_option maxHeartbeats 4000000 in
theorem cut_law (h : Hd) (A : Option Addr) (m c : Nat) (B0 : Option Addr) (k2 c2 : Nat) (more : List UInt8) (pos : Int) (w : World) (hm : h.p.length = m) (hr : Row w A (iv h.p)) (hp : m ≤ 17592186044416) (hnl : h.n.length ≤ 140737488355328)
    (hk2 : more.length = k2) (_hkc : k2 ≤ c2) (hrm : Row w B0 (bv more)) :
    Calls Try.prog 8 #[.agg #[.int .i64 h.b, .int .i64 h.z, .string (str h.n), .int .i64 h.g, .bool h.c, .slice A m c], .slice B0 k2 c2, .int .i64 pos] w fun e w' => e = .returned (.bool true) ∧ Below w.heap.size w w' := by
  have HM := Lib.hid hm
  have HK := Lib.hid hk2
  clear hm hk2
  have hra := hr.alloc (.cells #[.int .i64 h.b, .int .i64 h.z, .string (str h.n), .int .i64 h.g, .bool h.c, .slice A m c] 24)
  have hrma := hrm.alloc (.cells #[.int .i64 h.b, .int .i64 h.z, .string (str h.n), .int .i64 h.g, .bool h.c, .slice A m c] 24)
  have hb0 := (Below.refl w.heap.size w).alloc (Nat.le_refl _) (.cells #[.int .i64 h.b, .int .i64 h.z, .string (str h.n), .int .i64 h.g, .bool h.c, .slice A m c] 24)
  go_enter Try.func8, Try.ntmps8
  go_wp2_with fail
  refine (hEncode_u h A m c _ HM.out hra (by omega) (by omega)).mono ?_
  rintro e w1 ⟨⟨h1, rfl⟩ | ⟨h1, Ab, cb, rfl, hown1⟩, hb1⟩
  · clear h1
    go_wp2_with fail
    refine (alive_any _).mono ?_
    rintro e w2 ⟨rfl, hb2⟩
    go_wp2_with fail
    go_ret
    exact ⟨rfl, below_all hb0 (below_all hb1 hb2)⟩
  have hxl : (sealed h.text).length = 28 + h.n.length + h.p.length * 2 := by
    rw [sealed_length, text_len]
    omega
  have hh := Hd.right_of h1
  have hnl15 : h.n.length ≤ 15 := hh.2.2.2.2.1
  have hp8 : h.p.length ≤ 8 := hh.2.2.2.2.2.2.2.1
  clear h1 hh
  obtain ⟨xs, hxs⟩ : ∃ xs, xs = sealed h.text := ⟨_, rfl⟩
  rw [← hxs] at hown1 hxl ⊢
  obtain ⟨N, hN⟩ : ∃ N, xs.length = N := ⟨_, rfl⟩
  rw [hN] at hown1 hxl ⊢
  have hN50 : N ≤ 100 := by omega
  have HN := Lib.hid hN
  clear hxs hN hxl hnl15 hp8
  have hb01 := below_all hb0 hb1
  have hnc1 := hown1.2.1
  have hx1 := hown1.row
  have hm1 := hrma.below hb1
  clear hra hrma hb0 hb1 hr hrm hown1

  by_cases q1 : 1000 < k2
  · go_wp2_with fail
    refine (alive_any _).mono ?_
    rintro e w4 ⟨rfl, hb4⟩
    go_wp2_with fail
    go_ret
    exact ⟨rfl, below_all hb01 hb4⟩
  by_cases q2 : pos < 0
  · go_wp2_with fail
    refine (alive_any _).mono ?_
    rintro e w4 ⟨rfl, hb4⟩
    go_wp2_with fail
    go_ret
    exact ⟨rfl, below_all hb01 hb4⟩
  by_cases q3 : (N : Int) ≤ pos
  · go_wp2_with fail
    refine (alive_any _).mono ?_
    rintro e w4 ⟨rfl, hb4⟩
    go_wp2_with fail
    go_ret
    exact ⟨rfl, below_all hb01 hb4⟩
  obtain ⟨k, rfl⟩ := Int.eq_ofNat_of_zero_le (show 0 ≤ pos by omega)
  have hkN : k < N := by omega
  have hkc : k ≤ cb := by omega
  obtain ⟨cs, hcs⟩ : ∃ cs, cs = xs.take k := ⟨_, rfl⟩
  obtain ⟨zs, hzs⟩ : ∃ zs, zs = xs ++ more := ⟨_, rfl⟩
  have hcl : cs.length = k := by rw [hcs, List.length_take, HN.out]; omega
  have hzl : zs.length = N + k2 := by rw [hzs, List.length_append, HN.out, HK.out]
  have hxk : Row w1 Ab (bv cs) := by rw [hcs, ← bv_take]; exact hx1.take k
  obtain ⟨d, er, hd⟩ : ∃ d er, decH cs = (d, er) := ⟨_, _, rfl⟩
  obtain ⟨z, zr, hz⟩ : ∃ z zr, decH zs = (z, zr) := ⟨_, _, rfl⟩
  have HD := Lib.hid hd
  have HZ := Lib.hid hz
  have HCL := Lib.hid hcl
  have HZL := Lib.hid hzl
  have HCS := Lib.hid hcs
  have HZS := Lib.hid hzs
  clear hd hz hcl hzl hcs hzs
  go_wp2_with fail
  refine (hDecode_any Ab k cb cs w1 HCL.out hkc hxk (by omega)).mono ?_
  intro e w2 hp2
  obtain ⟨A3, m3, c3, rfl, hm3, h83, hr3, hb2⟩ := dec_U HD.out hp2
  have HM3 := Lib.hid hm3
  have hxk2 := (hxk.below hb2).alloc (.cells #[.int .i64 d.b, .int .i64 d.z, .string (str d.n), .int .i64 d.g, .bool d.c, .slice A3 m3 c3] 30)
  have hx2 := (hx1.below hb2).alloc (.cells #[.int .i64 d.b, .int .i64 d.z, .string (str d.n), .int .i64 d.g, .bool d.c, .slice A3 m3 c3] 30)
  have hm2 := (hm1.below hb2).alloc (.cells #[.int .i64 d.b, .int .i64 d.z, .string (str d.n), .int .i64 d.g, .bool d.c, .slice A3 m3 c3] 30)
  have hr3a := hr3.alloc (.cells #[.int .i64 d.b, .int .i64 d.z, .string (str d.n), .int .i64 d.g, .bool d.c, .slice A3 m3 c3] 30)
  have hG := Blk.new w2 30 #[.int .i64 d.b, .int .i64 d.z, .string (str d.n), .int .i64 d.g, .bool d.c, .slice A3 m3 c3]
  have hb2a := below_all hb01 hb2
  have hb2a := hb2a.alloc hb2a.size (.cells #[.int .i64 d.b, .int .i64 d.z, .string (str d.n), .int .i64 d.g, .bool d.c, .slice A3 m3 c3] 30)
  have hcv := run_string (P := Try.prog) HCL.out 26 9 5 (c := cb) Try.underlying26 Try.underlying5 Try.underlying9 hxk2
  have hD := fun u => rDecode5_any cs u (by have := HCL.out; omega)
  have HDR := Lib.hid hD
  clear hD hp2 hm3 hr3 hxk hx1 hm1 hb01 hb2
  go_wp2_with fail
  refine (HDR.out _).mono ?_
  intro e w4 hp4
  obtain ⟨A5, m5, c5, rfl, hm5, h85, hr5, hb4⟩ := dec_U HD.out hp4
  have HM5 := Lib.hid hm5
  have hr3b := (hr3a.below hb4).alloc (.cells #[.int .i64 d.b, .int .i64 d.z, .string (str d.n), .int .i64 d.g, .bool d.c, .slice A5 m5 c5] 24)
  have hr5b := hr5.alloc (.cells #[.int .i64 d.b, .int .i64 d.z, .string (str d.n), .int .i64 d.g, .bool d.c, .slice A5 m5 c5] 24)
  have hx4 := (hx2.below hb4).alloc (.cells #[.int .i64 d.b, .int .i64 d.z, .string (str d.n), .int .i64 d.g, .bool d.c, .slice A5 m5 c5] 24)
  have hm4 := (hm2.below hb4).alloc (.cells #[.int .i64 d.b, .int .i64 d.z, .string (str d.n), .int .i64 d.g, .bool d.c, .slice A5 m5 c5] 24)
  have hG4 := (hG.belowAll hb4).alloc (.cells #[.int .i64 d.b, .int .i64 d.z, .string (str d.n), .int .i64 d.g, .bool d.c, .slice A5 m5 c5] 24)
  have hJ4 := Blk.new w4 24 #[.int .i64 d.b, .int .i64 d.z, .string (str d.n), .int .i64 d.g, .bool d.c, .slice A5 m5 c5]
  have hb4a := below_all hb2a hb4
  have hb4a := hb4a.alloc hb4a.size (.cells #[.int .i64 d.b, .int .i64 d.z, .string (str d.n), .int .i64 d.g, .bool d.c, .slice A5 m5 c5] 24)
  clear hcv hxk2 hp4 hm5 hr3a hx2 hm2 hG hb2a hb4 hr5 HDR
  obtain ⟨i0, hi0, hz0, hz1, hz2⟩ := info_parts info_u8
  have hs7 : Src Try.prog ((w4.alloc (.cells #[.int .i64 d.b, .int .i64 d.z, .string (str d.n), .int .i64 d.g, .bool d.c, .slice A5 m5 c5] 24)).alloc (.cells #[] 5)) 26 (.slice Ab N cb) 1 N (bv xs) := Src.slice Try.underlying26 (hx4.alloc _) (by rw [bv_length, HN.out, Nat.mul_one]) (bv_one xs)
  go_wp2_with (at_builtin; refine wpList_app _ rfl _ _ 26 26 rfl (w4.heap.size + 1) 5 i0 _ 1 1 Try.underlying26 hi0 hz0 hz1 hz2 rfl _ 0 0 [] rfl (Own.nil _ _ _ _ _) _ N (bv xs) rfl hs7 (by simp only [maxLen]; omega) (by omega) (by simp) ?_; intro A8 c8 w8 hown8 hg8 hb8; rw [Nat.zero_add, List.nil_append] at hown8; rw [Nat.zero_add]; refine Classical.byContradiction fun hstop => ?_)
  refine absurd ?_ hstop
  clear hstop
  have hb58 : Below (w4.alloc (.cells #[.int .i64 d.b, .int .i64 d.z, .string (str d.n), .int .i64 d.g, .bool d.c, .slice A5 m5 c5] 24)).heap.size (w4.alloc (.cells #[.int .i64 d.b, .int .i64 d.z, .string (str d.n), .int .i64 d.g, .bool d.c, .slice A5 m5 c5] 24)) w8 := ((Below.refl _ _).alloc (Nat.le_refl _) _).grown hg8 (by simp) (fun i hi => by simp [ownB] at hi)
  have hb59 : w4.heap.size + 1 ≤ w8.heap.size := by have := hb58.size; simpa using this
  have hbz : bv xs ++ bv more = bv zs := by rw [← bv_append, HZS.out]
  go_wp2_with (at_builtin; refine wpList_app _ rfl _ _ 26 26 rfl (w4.heap.size + 1) 5 i0 _ 1 1 Try.underlying26 hi0 hz0 hz1 hz2 rfl A8 N c8 (bv xs) rfl hown8 _ k2 (bv more) rfl (Src.slice (c := c2) Try.underlying26 (hm4.below hb58) (by rw [bv_length, HK.out, Nat.mul_one]) (bv_one _)) (by simp only [maxLen]; omega) (by omega) (by omega) ?_; intro A9 c9 w9 hown9 hg9 hb9; rw [hbz] at hown9; refine Classical.byContradiction fun hstop => ?_)
  refine absurd ?_ hstop
  clear hstop
  have hb5n : Below (w4.alloc (.cells #[.int .i64 d.b, .int .i64 d.z, .string (str d.n), .int .i64 d.g, .bool d.c, .slice A5 m5 c5] 24)).heap.size (w4.alloc (.cells #[.int .i64 d.b, .int .i64 d.z, .string (str d.n), .int .i64 d.g, .bool d.c, .slice A5 m5 c5] 24)) w9 := hb58.grown hg9 (by simp; omega) (fun i hi => by have := (hown8.lt i hi).1; simpa using this)
  have hrow9 := hown9.row
  have hnc9 := hown9.2.1
  have hx9 := hx4.below hb5n
  have hm9 := hm4.below hb5n
  have hr3c := hr3b.below hb5n
  have hr5c := hr5b.below hb5n
  have hG9 := hG4.belowAll hb5n
  have hJ9 := hJ4.belowAll hb5n
  have hb9a := below_all hb4a hb5n
  clear hbz hown8 hg8 hb8 hs7 hb58 hb59 hown9 hg9 hb9 hx4 hm4 hr3b hr5b hG4 hJ4 hb4a hb5n
  go_wp2_with fail
  refine (hDecode_any A9 (N + k2) c9 zs w9 HZL.out hnc9 hrow9 (by omega)).mono ?_
  intro e w10 hp10
  obtain ⟨A7, m7, c7, rfl, hm7, h87, hr7, hb10⟩ := dec_U HZ.out hp10
  have HM7 := Lib.hid hm7
  have hb10s := hb10.size
  have hG10 := (hG9.belowAll hb10).alloc (.cells #[.int .i64 z.b, .int .i64 z.z, .string (str z.n), .int .i64 z.g, .bool z.c, .slice A7 m7 c7] 30)
  have hJ10 := (hJ9.belowAll hb10).alloc (.cells #[.int .i64 z.b, .int .i64 z.z, .string (str z.n), .int .i64 z.g, .bool z.c, .slice A7 m7 c7] 30)
  have hK10 := Blk.new w10 30 #[.int .i64 z.b, .int .i64 z.z, .string (str z.n), .int .i64 z.g, .bool z.c, .slice A7 m7 c7]
  have hx10 := (hx9.below hb10).alloc (.cells #[.int .i64 z.b, .int .i64 z.z, .string (str z.n), .int .i64 z.g, .bool z.c, .slice A7 m7 c7] 30)
  have hm10 := (hm9.below hb10).alloc (.cells #[.int .i64 z.b, .int .i64 z.z, .string (str z.n), .int .i64 z.g, .bool z.c, .slice A7 m7 c7] 30)
  have hr3d := (hr3c.below hb10).alloc (.cells #[.int .i64 z.b, .int .i64 z.z, .string (str z.n), .int .i64 z.g, .bool z.c, .slice A7 m7 c7] 30)
  have hr5d := (hr5c.below hb10).alloc (.cells #[.int .i64 z.b, .int .i64 z.z, .string (str z.n), .int .i64 z.g, .bool z.c, .slice A7 m7 c7] 30)
  have hr7a := hr7.alloc (.cells #[.int .i64 z.b, .int .i64 z.z, .string (str z.n), .int .i64 z.g, .bool z.c, .slice A7 m7 c7] 30)
  have hb10a := below_all hb9a hb10
  have hb10a := hb10a.alloc hb10a.size (.cells #[.int .i64 z.b, .int .i64 z.z, .string (str z.n), .int .i64 z.g, .bool z.c, .slice A7 m7 c7] 30)
  clear hp10 hm7 hrow9 hnc9 hx9 hm9 hr3c hr5c hG9 hJ9 hb9a hb10 hr7
  have hcx := run_string (P := Try.prog) HN.out 26 9 5 (c := cb) Try.underlying26 Try.underlying5 Try.underlying9 hx10
  have hcm := run_string (P := Try.prog) HK.out 26 9 5 (c := c2) Try.underlying26 Try.underlying5 Try.underlying9 hm10
  have hsa : (Op.stringOp .add (str xs) (str more)).run Try.prog (w10.alloc (.cells #[.int .i64 z.b, .int .i64 z.z, .string (str z.n), .int .i64 z.g, .bool z.c, .slice A7 m7 c7] 30)) = .ok (.string (str zs)) (w10.alloc (.cells #[.int .i64 z.b, .int .i64 z.z, .string (str z.n), .int .i64 z.g, .bool z.c, .slice A7 m7 c7] 30)) := by
    rw [HZS.out]
    exact run_cat xs more (by rw [HN.out, HK.out]; omega) _
  have hD := fun u => rDecode5_any zs u (by have := HZL.out; omega)
  have HDR := Lib.hid hD
  clear hD hx10 hm10
  go_wp2_with fail
  refine (HDR.out _).mono ?_
  intro e w12 hp12
  obtain ⟨A13, m13, c13, rfl, hm13, h813, hr13, hb12⟩ := dec_U HZ.out hp12
  have HM13 := Lib.hid hm13
  have hG12 := (hG10.belowAll hb12).alloc (.cells #[.int .i64 z.b, .int .i64 z.z, .string (str z.n), .int .i64 z.g, .bool z.c, .slice A13 m13 c13] 24)
  have hJ12 := (hJ10.belowAll hb12).alloc (.cells #[.int .i64 z.b, .int .i64 z.z, .string (str z.n), .int .i64 z.g, .bool z.c, .slice A13 m13 c13] 24)
  have hK12 := (hK10.belowAll hb12).alloc (.cells #[.int .i64 z.b, .int .i64 z.z, .string (str z.n), .int .i64 z.g, .bool z.c, .slice A13 m13 c13] 24)
  have hL12 := Blk.new w12 24 #[.int .i64 z.b, .int .i64 z.z, .string (str z.n), .int .i64 z.g, .bool z.c, .slice A13 m13 c13]
  have hr3e := (hr3d.below hb12).alloc (.cells #[.int .i64 z.b, .int .i64 z.z, .string (str z.n), .int .i64 z.g, .bool z.c, .slice A13 m13 c13] 24)
  have hr5e := (hr5d.below hb12).alloc (.cells #[.int .i64 z.b, .int .i64 z.z, .string (str z.n), .int .i64 z.g, .bool z.c, .slice A13 m13 c13] 24)
  have hr7b := (hr7a.below hb12).alloc (.cells #[.int .i64 z.b, .int .i64 z.z, .string (str z.n), .int .i64 z.g, .bool z.c, .slice A13 m13 c13] 24)
  have hr13a := hr13.alloc (.cells #[.int .i64 z.b, .int .i64 z.z, .string (str z.n), .int .i64 z.g, .bool z.c, .slice A13 m13 c13] 24)
  have hb12a := below_all hb10a hb12
  have hb12a := hb12a.alloc hb12a.size (.cells #[.int .i64 z.b, .int .i64 z.z, .string (str z.n), .int .i64 z.g, .bool z.c, .slice A13 m13 c13] 24)
  clear hp12 hm13 hcx hcm hsa hG10 hJ10 hK10 hr3d hr5d hr7a hr13 hb10a hb12 HDR
  go_wp2_with fail
  refine (alive_any _).mono ?_
  rintro e w14 ⟨rfl, hb14⟩
  have hG14 := hG12.belowAll hb14
  have hJ14 := hJ12.belowAll hb14
  have hK14 := hK12.belowAll hb14
  have hL14 := hL12.belowAll hb14
  have hr3f := hr3e.below hb14
  have hr5f := hr5e.below hb14
  have hr7c := hr7b.below hb14
  have hr13b := hr13a.below hb14
  have hb14a := below_all hb12a hb14
  clear hG12 hJ12 hK12 hL12 hr3e hr5e hr7b hr13a hb12a hb14
  obtain ⟨⟨g1, g2, g3, g4, g5, g6⟩, _⟩ := hG14.six
  obtain ⟨⟨j1, j2, j3, j4, j5, j6⟩, _⟩ := hJ14.six
  go_wp2_with fail
  refine (rSame_self d m3 m5 A3 A5 c3 c5 w14 HM3.out HM5.out hr3f hr5f (by omega)).mono ?_
  rintro e w15 ⟨rfl, hb15⟩
  have hK15 := hK14.belowAll hb15
  have hL15 := hL14.belowAll hb15
  have hr7d := hr7c.below hb15
  have hr13c := hr13b.below hb15
  have hb15a := below_all hb14a hb15
  clear g1 g2 g3 g4 g5 g6 j1 j2 j3 j4 j5 j6 hG14 hJ14 hK14 hL14 hr3f hr5f hr7c hr13b hb14a hb15
  obtain ⟨⟨g1, g2, g3, g4, g5, g6⟩, _⟩ := hK15.six
  obtain ⟨⟨j1, j2, j3, j4, j5, j6⟩, _⟩ := hL15.six
  go_wp2_with fail
  refine (rSame_self z m7 m13 A7 A13 c7 c13 w15 HM7.out HM13.out hr7d hr13c (by omega)).mono ?_
  rintro e w16 ⟨rfl, hb16⟩
  go_wp2_with fail
  go_ret
  exact ⟨ret_bool (by simp), below_all hb15a hb16⟩
end Go.Proofs.Ytophnjoaajcfjaa
