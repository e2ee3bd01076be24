/- The law HeadWrites. Conditions: the lengths fit memory. -/
import Derived.Test.YtophnjoaajcfjaaLaw05a
import Derived.Test.YtophnjoaajcfjaaRe
namespace Go.Proofs.Ytophnjoaajcfjaa
open Go.RowKit

theorem rEncode5_u (h : Hd) (A : Option Addr) (m c : Nat) (w : World) (hm : h.p.length = m) (hr : Row w A (iv h.p)) (hp : m ≤ 17592186044416) (hnl : h.n.length ≤ 140737488355328) :
    Calls Try.prog 11 #[.agg #[.int .i64 h.b, .int .i64 h.z, .string (str h.n), .int .i64 h.g, .bool h.c, .slice A m c]] w fun e w' => e = .returned (.tuple #[.string (str (encB h)), .int .i64 (encE h)]) ∧ Below w.heap.size w w' := by
  subst hm
  exact rEncode5_any h A c w hr hp hnl
theorem hEncode_u (h : Hd) (A : Option Addr) (m c : Nat) (w : World) (hm : h.p.length = m) (hr : Row w A (iv h.p)) (hp : m ≤ 17592186044416) (hnl : h.n.length ≤ 140737488355328) :
    Calls Try.prog 10 #[.agg #[.int .i64 h.b, .int .i64 h.z, .string (str h.n), .int .i64 h.g, .bool h.c, .slice A m c]] w (EncPost w h) := by
  subst hm
  exact hEncode_any h A c w hr hp hnl
theorem hRight_u (h : Hd) (A : Option Addr) (m c : Nat) (w : World) (hm : h.p.length = m) (hr : Row w A (iv h.p)) (hp : m ≤ 17592186044416) (hnl : h.n.length ≤ 140737488355328) :
    Calls Try.prog 12 #[.agg #[.int .i64 h.b, .int .i64 h.z, .string (str h.n), .int .i64 h.g, .bool h.c, .slice A m c]] w fun e w' => e = .returned (.bool h.right) ∧ Below w.heap.size w w' := by
  subst hm
  exact hRight_any h A c w hr hp hnl
theorem rRight5_u (h : Hd) (A : Option Addr) (m c : Nat) (w : World) (hm : h.p.length = m) (hr : Row w A (iv h.p)) (hp : m ≤ 17592186044416) (hnl : h.n.length ≤ 140737488355328) :
    Calls Try.prog 13 #[.agg #[.int .i64 h.b, .int .i64 h.z, .string (str h.n), .int .i64 h.g, .bool h.c, .slice A m c]] w fun e w' => e = .returned (.bool h.right) ∧ Below w.heap.size w w' := by
  subst hm
  exact rRight5_any h A c w hr hp hnl
theorem hSectors_u (h : Hd) (A : Option Addr) (m c : Nat) (w : World) (hm : h.p.length = m) (hr : Row w A (iv h.p)) (hp : m ≤ 17592186044416) (hnl : h.n.length ≤ 140737488355328) :
    Calls Try.prog 14 #[.agg #[.int .i64 h.b, .int .i64 h.z, .string (str h.n), .int .i64 h.g, .bool h.c, .slice A m c]] w fun e w' => e = .returned (.int .i64 h.sec) ∧ Below w.heap.size w w' := by
  subst hm
  exact hSectors_any h A c w hr hp hnl
theorem rSectors5_u (h : Hd) (A : Option Addr) (m c : Nat) (w : World) (hm : h.p.length = m) (hr : Row w A (iv h.p)) (hp : m ≤ 17592186044416) (hnl : h.n.length ≤ 140737488355328) :
    Calls Try.prog 15 #[.agg #[.int .i64 h.b, .int .i64 h.z, .string (str h.n), .int .i64 h.g, .bool h.c, .slice A m c]] w fun e w' => e = .returned (.int .i64 h.sec) ∧ Below w.heap.size w w' := by
  subst hm
  exact rSectors5_any h A c w hr hp hnl

set_option maxHeartbeats 8000000 in
theorem writes_law (a b : Hd) (A : Option Addr) (m c : Nat) (A2 : Option Addr) (m2 c2 : Nat) (w : World) (hm : a.p.length = m) (hr : Row w A (iv a.p)) (hp : m ≤ 17592186044416) (hnl : a.n.length ≤ 140737488355328) :
    Calls Try.prog 3 #[.agg #[.int .i64 a.b, .int .i64 a.z, .string (str a.n), .int .i64 a.g, .bool a.c, .slice A m c], .agg #[.int .i64 b.b, .int .i64 b.z, .string (str b.n), .int .i64 b.g, .bool b.c, .slice A2 m2 c2]] w fun e w' => e = .returned (.bool true) ∧ Below w.heap.size w w' := by
  have HM := Lib.hid hm
  clear hm
  have hG := (Blk.new w 24 #[.int .i64 a.b, .int .i64 a.z, .string (str a.n), .int .i64 a.g, .bool a.c, .slice A m c]).alloc (.cells #[.int .i64 b.b, .int .i64 b.z, .string (str b.n), .int .i64 b.g, .bool b.c, .slice A2 m2 c2] 24)
  have hJ := Blk.new (w.alloc (.cells #[.int .i64 a.b, .int .i64 a.z, .string (str a.n), .int .i64 a.g, .bool a.c, .slice A m c] 24)) 24 #[.int .i64 b.b, .int .i64 b.z, .string (str b.n), .int .i64 b.g, .bool b.c, .slice A2 m2 c2]
  rw [World.size_alloc] at hJ
  have hra := (hr.alloc (.cells #[.int .i64 a.b, .int .i64 a.z, .string (str a.n), .int .i64 a.g, .bool a.c, .slice A m c] 24)).alloc (.cells #[.int .i64 b.b, .int .i64 b.z, .string (str b.n), .int .i64 b.g, .bool b.c, .slice A2 m2 c2] 24)
  have hb0 := (((Below.refl w.heap.size w).alloc (Nat.le_refl _) (.cells #[.int .i64 a.b, .int .i64 a.z, .string (str a.n), .int .i64 a.g, .bool a.c, .slice A m c] 24)).alloc (by simp) (.cells #[.int .i64 b.b, .int .i64 b.z, .string (str b.n), .int .i64 b.g, .bool b.c, .slice A2 m2 c2] 24))
  have hN47 := hnl
  by_cases h1 : 100 < m
  · go_enter Try.func3, Try.ntmps3
    go_wp2_with fail
    refine (alive_any _).mono ?_
    rintro e w2 ⟨rfl, hb2⟩
    go_wp2_with fail
    go_ret
    exact ⟨rfl, below_all hb0 hb2⟩
  by_cases h2 : 1000 < a.n.length
  · go_enter Try.func3, Try.ntmps3
    go_wp2_with fail
    refine (alive_any _).mono ?_
    rintro e w2 ⟨rfl, hb2⟩
    go_wp2_with fail
    go_ret
    exact ⟨rfl, below_all hb0 hb2⟩
  go_enter Try.func3, Try.ntmps3
  go_wp2_with fail
  refine (hEncode_u a A m c _ HM.out hra (by omega) (by omega)).mono ?_
  intro e w1 hp1
  obtain ⟨Ax, mx, cx, rfl, hxm, hxc, hown1, hb1⟩ := hp1.uni
  obtain ⟨xs, hxs⟩ : ∃ xs, xs = encB a := ⟨_, rfl⟩
  obtain ⟨er, her⟩ : ∃ er, er = encE a := ⟨_, rfl⟩
  rw [← hxs] at hxm hown1
  rw [← her]
  have hE := fun u hu => rEncode5_u a A m c u HM.out hu (by omega) (by omega)
  rw [← hxs, ← her] at hE
  have HE := Lib.hid hE
  have HXM := Lib.hid hxm
  have hG1 := hG.belowAll hb1
  have hJ1 := hJ.belowAll hb1
  have hr1 := hra.below hb1
  have hb01 := below_all hb0 hb1
  have hx1 := hown1.row
  obtain ⟨⟨g1, g2, g3, g4, g5, g6⟩, _⟩ := hG1.six
  clear hE hxs her hxm hp1 hG hJ hra hb0 hb1 hown1
  go_wp2_with fail
  refine (HE.out _ hr1).mono ?_
  rintro e w2 ⟨rfl, hb2⟩
  have hG2 := hG1.belowAll hb2
  have hJ2 := hJ1.belowAll hb2
  have hr2 := hr1.below hb2
  have hx2 := hx1.below hb2
  have hb02 := below_all hb01 hb2
  clear g1 g2 g3 g4 g5 g6 hG1 hJ1 hr1 hx1 hb01 hb2
  go_wp2_with fail
  refine wp_region_seq true (.alone 0 (.take 1 .copy (.take 2 .copy (.take 3 (.text 26 5 9) (.take 4 .copy (.take 5 (.str2 9) (.take 6 .copy (.take 7 .copy (.take 8 .copy (.take 9 .copy (.take 10 .int2 (.take 11 .copy (.take 12 .copy (.take 13 .load (.take 15 .load (.alone 14 (.alone 16 (.take 17 .bool2 (.take 18 .copy (.take 19 .copy (.take 20 .load (.take 22 .load (.alone 21 (.alone 23 (.take 24 .int2 (.take 25 .copy (.take 26 .copy (.take 27 .load (.take 28 .load (.take 30 .addr (.take 31 .load (.take 32 .addr (.take 33 .load (.take 34 .int2 (.alone 29 (.take 35 .bool2 (.take 36 .copy (.take 37 .copy .fin)))))))))))))))))))))))))))))))))))))) (by kernel_rfl) (by kernel_rfl) (by kernel_rfl) ?_
  simp only [pre, nxt, List.getElem?_toArray, List.getElem?_cons_zero, List.getElem?_cons_succ, opAt, ghosts, List.nil_append, gInt, gStr, gBool, ghost, List.cons_append]
  go_wp2_with fail
  refine (alive_any _).mono ?_
  rintro e w3 ⟨rfl, hb3⟩
  have hG3 := hG2.drew.belowAll hb3
  have hJ3 := hJ2.drew.belowAll hb3
  have hr3 := hr2.drew.below hb3
  have hx3 := hx2.drew.below hb3
  have hb03 := below_all hb02.drew hb3
  have hcv := run_string (P := Try.prog) HXM.out 26 9 5 (c := cx) Try.underlying26 Try.underlying5 Try.underlying9 hx3
  obtain ⟨⟨g1, g2, g3, g4, g5, g6⟩, _⟩ := hG3.six
  clear hG2 hJ2 hr2 hx2 hb02
  go_wp2_with fail
  refine next_keep (Keep.below hb3) ?_
  go_wp2_with fail
  refine (hRight_u a A m c w3 HM.out hr3 (by omega) (by omega)).mono ?_
  have hRR := fun u hu => rRight5_u a A m c u HM.out hu (by omega) (by omega)
  have HRR := Lib.hid hRR
  obtain ⟨rt, hrt⟩ : ∃ rt, rt = a.right := ⟨_, rfl⟩
  rw [← hrt] at hRR ⊢
  have HRR := Lib.hid hRR
  clear hRR hrt
  rintro e w4 ⟨rfl, hb4⟩
  have hG4 := hG3.belowAll hb4
  have hJ4 := hJ3.belowAll hb4
  have hr4 := hr3.below hb4
  have hb04 := below_all hb03 hb4
  clear g1 g2 g3 g4 g5 g6 hcv hx3 hG3 hJ3 hr3 hb03 hb3
  go_wp2_with fail
  refine next_keep (Keep.below hb4) ?_
  go_wp2_with fail
  refine (HRR.out _ hr4).mono ?_
  rintro e w5 ⟨rfl, hb5⟩
  have hG5 := hG4.belowAll hb5
  have hJ5 := hJ4.belowAll hb5
  have hr5 := hr4.below hb5
  have hb05 := below_all hb04 hb5
  obtain ⟨⟨g1, g2, g3, g4, g5, g6⟩, _⟩ := hG5.six
  clear hG4 hJ4 hr4 hb04 hb4
  go_wp2_with fail
  refine next_keep (Keep.below hb5) ?_
  go_wp2_with fail
  refine (hSectors_u a A m c w5 HM.out hr5 (by omega) (by omega)).mono ?_
  have hRR := fun u hu => rSectors5_u a A m c u HM.out hu (by omega) (by omega)
  obtain ⟨rs, hrs⟩ : ∃ rs, rs = a.sec := ⟨_, rfl⟩
  rw [← hrs] at hRR ⊢
  have HRS := Lib.hid hRR
  clear hRR hrs HRR
  rintro e w6 ⟨rfl, hb6⟩
  have hG6 := hG5.belowAll hb6
  have hJ6 := hJ5.belowAll hb6
  have hr6 := hr5.below hb6
  have hb06 := below_all hb05 hb6
  clear g1 g2 g3 g4 g5 g6 hG5 hJ5 hr5 hb05 hb5
  go_wp2_with fail
  refine next_keep (Keep.below hb6) ?_
  go_wp2_with fail
  refine (HRS.out _ hr6).mono ?_
  rintro e w7 ⟨rfl, hb7⟩
  have hG7 := hG6.belowAll hb7
  have hJ7 := hJ6.belowAll hb7
  have hb07 := below_all hb06 hb7
  obtain ⟨⟨g1, g2, g3, g4, g5, g6⟩, _⟩ := hG7.six
  obtain ⟨⟨j1, j2, j3, j4, j5, j6⟩, _⟩ := hJ7.six
  clear hG6 hJ6 hr6 hb06 hb6
  go_wp2_with fail
  refine next_keep (Keep.below hb7) ?_
  go_wp2_with fail
  refine (newer_any a.b a.z a.g b.b b.z b.g a.n b.n a.c b.c _ _ w7).mono ?_
  rintro e w8 ⟨rfl, hb8⟩
  go_wp2_with fail
  all_goals
    refine next_keep (Keep.below hb8) ?_
    go_wp2_with fail
    refine ends_normal ?_
    go_wp2_with fail
    go_ret
    exact ⟨ret_bool (by simp), below_all hb07 hb8⟩
end Go.Proofs.Ytophnjoaajcfjaa
