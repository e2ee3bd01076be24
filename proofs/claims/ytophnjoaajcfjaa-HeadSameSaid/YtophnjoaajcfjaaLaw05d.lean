/- The law HeadSame. Conditions: the lengths fit memory. -/
import Derived.Test.YtophnjoaajcfjaaLaw05b
namespace Go.Proofs.Ytophnjoaajcfjaa
open Go.RowKit

theorem sealed_text_inj {a b : Hd} (ha : a.right = true) (hb : b.right = true) (h : sealed a.text = sealed b.text) : a = b := by
  have h1 := decH_text ha
  rw [h, decH_text hb] at h1
  injection h1 with h1
  exact h1.symm

set_option maxHeartbeats 8000000 in
theorem same_law (a b : Hd) (A : Option Addr) (m c : Nat) (A2 : Option Addr) (m2 c2 : Nat) (w : World) (hm : a.p.length = m) (hr : Row w A (iv a.p)) (hp : m ≤ 17592186044416) (hnl : a.n.length ≤ 140737488355328) (hm2 : b.p.length = m2) (hr2 : Row w A2 (iv b.p)) (hp2 : m2 ≤ 17592186044416) (hnl2 : b.n.length ≤ 140737488355328) :
    Calls Try.prog 6 #[.agg #[.int .i64 a.b, .int .i64 a.z, .string (str a.n), .int .i64 a.g, .bool a.c, .slice A m c], .agg #[.int .i64 b.b, .int .i64 b.z, .string (str b.n), .int .i64 b.g, .bool b.c, .slice A2 m2 c2]] w fun e w' => e = .returned (.bool true) ∧ Below w.heap.size w w' := by
  have HM := Lib.hid hm
  have HM2 := Lib.hid hm2
  clear hm hm2
  have hG := (Blk.new w 24 #[.int .i64 a.b, .int .i64 a.z, .string (str a.n), .int .i64 a.g, .bool a.c, .slice A m c]).alloc (.cells #[.int .i64 b.b, .int .i64 b.z, .string (str b.n), .int .i64 b.g, .bool b.c, .slice A2 m2 c2] 24)
  have hJ := Blk.new (w.alloc (.cells #[.int .i64 a.b, .int .i64 a.z, .string (str a.n), .int .i64 a.g, .bool a.c, .slice A m c] 24)) 24 #[.int .i64 b.b, .int .i64 b.z, .string (str b.n), .int .i64 b.g, .bool b.c, .slice A2 m2 c2]
  rw [World.size_alloc] at hJ
  have hra := (hr.alloc (.cells #[.int .i64 a.b, .int .i64 a.z, .string (str a.n), .int .i64 a.g, .bool a.c, .slice A m c] 24)).alloc (.cells #[.int .i64 b.b, .int .i64 b.z, .string (str b.n), .int .i64 b.g, .bool b.c, .slice A2 m2 c2] 24)
  have hrb := (hr2.alloc (.cells #[.int .i64 a.b, .int .i64 a.z, .string (str a.n), .int .i64 a.g, .bool a.c, .slice A m c] 24)).alloc (.cells #[.int .i64 b.b, .int .i64 b.z, .string (str b.n), .int .i64 b.g, .bool b.c, .slice A2 m2 c2] 24)
  have hb0 := (((Below.refl w.heap.size w).alloc (Nat.le_refl _) (.cells #[.int .i64 a.b, .int .i64 a.z, .string (str a.n), .int .i64 a.g, .bool a.c, .slice A m c] 24)).alloc (by simp) (.cells #[.int .i64 b.b, .int .i64 b.z, .string (str b.n), .int .i64 b.g, .bool b.c, .slice A2 m2 c2] 24))
  clear hr hr2
  by_cases h1 : 100 < m
  · go_enter Try.func6, Try.ntmps6
    go_wp2_with fail
    refine (alive_any _).mono ?_
    rintro e w2 ⟨rfl, hb2⟩
    go_wp2_with fail
    go_ret
    exact ⟨rfl, below_all hb0 hb2⟩
  by_cases h2 : 100 < m2
  · go_enter Try.func6, Try.ntmps6
    go_wp2_with fail
    refine (alive_any _).mono ?_
    rintro e w2 ⟨rfl, hb2⟩
    go_wp2_with fail
    go_ret
    exact ⟨rfl, below_all hb0 hb2⟩
  obtain ⟨sm, hsm⟩ : ∃ sm, sm = a.same b := ⟨_, rfl⟩
  have hS := fun u hu hv => hSame_any a.b a.z a.g b.b b.z b.g a.n b.n a.c b.c a.p b.p m m2 A A2 c c2 u HM.out HM2.out hu hv (by omega) (by omega)
  have hS2 := fun u hu hv => rSame5_any a.b a.z a.g b.b b.z b.g a.n b.n a.c b.c a.p b.p m m2 A A2 c c2 u HM.out HM2.out hu hv (by omega) (by omega)
  have e1 : (Hd.same ⟨a.b, a.z, a.n, a.g, a.c, a.p⟩ ⟨b.b, b.z, b.n, b.g, b.c, b.p⟩) = sm := hsm.symm
  simp only [e1] at hS hS2
  have hS3 := fun u hu hv => hSame_any a.b a.z a.g a.b a.z a.g a.n a.n a.c a.c a.p a.p m m A A c c u HM.out HM.out hu hv (by omega) (by omega)
  have e2 : (Hd.same ⟨a.b, a.z, a.n, a.g, a.c, a.p⟩ ⟨a.b, a.z, a.n, a.g, a.c, a.p⟩) = true := (Hd.same_iff _ _).2 rfl
  simp only [e2] at hS3
  obtain ⟨xs, hxs⟩ : ∃ xs, xs = encB a := ⟨_, rfl⟩
  obtain ⟨ys, hys⟩ : ∃ ys, ys = encB b := ⟨_, rfl⟩
  obtain ⟨er, her⟩ : ∃ er, er = encE a := ⟨_, rfl⟩
  obtain ⟨fr, hfr⟩ : ∃ fr, fr = encE b := ⟨_, rfl⟩
  have hcase : er = 50 ∨ (er = 0 ∧ fr = 50) ∨ (er = 0 ∧ fr = 0 ∧ (xs == ys) = sm) := by
    subst her hfr hxs hys hsm
    unfold encE encB
    cases ha : a.right
    · left; rfl
    · right
      cases hb : b.right
      · left; exact ⟨rfl, rfl⟩
      · right
        refine ⟨rfl, rfl, ?_⟩
        simp only [if_true]
        rw [Bool.eq_iff_iff, beq_iff_eq, Hd.same_iff]
        exact ⟨fun h => sealed_text_inj ha hb h, fun h => by rw [h]⟩
  have HS := Lib.hid hS
  have HS2 := Lib.hid hS2
  have HS3 := Lib.hid hS3
  have HC := Lib.hid hcase
  clear hS hS2 hS3 hcase e1 e2 hsm
  go_enter Try.func6, Try.ntmps6
  go_wp2_with fail
  refine (hEncode_u a A m c _ HM.out hra (by omega) (by omega)).mono ?_
  intro e w1 hp1
  obtain ⟨Ax, mx, cx, rfl, hxm, hxc, hown1, hb1⟩ := hp1.uni
  rw [← hxs] at hxm hown1
  rw [← her]
  have HXM := Lib.hid hxm
  have hG1 := hG.belowAll hb1
  have hJ1 := hJ.belowAll hb1
  have hr1 := hra.below hb1
  have hs1 := hrb.below hb1
  have hb01 := below_all hb0 hb1
  have hx1 := hown1.row
  obtain ⟨⟨g1, g2, g3, g4, g5, g6⟩, _⟩ := hJ1.six
  clear hxs her hxm hp1 hG hJ hra hrb hb0 hb1 hown1
  go_wp2_with fail
  refine (hEncode_u b A2 m2 c2 _ HM2.out hs1 (by omega) (by omega)).mono ?_
  intro e w2 hp2
  obtain ⟨Ay, my, cy, rfl, hym, hyc, hown2, hb2⟩ := hp2.uni
  rw [← hys] at hym hown2
  rw [← hfr]
  have HYM := Lib.hid hym
  have hG2 := hG1.belowAll hb2
  have hJ2 := hJ1.belowAll hb2
  have hr2 := hr1.below hb2
  have hs2 := hs1.below hb2
  have hx2 := hx1.below hb2
  have hb02 := below_all hb01 hb2
  have hy2 := hown2.row
  clear g1 g2 g3 g4 g5 g6 hys hfr hym hp2 hG1 hJ1 hr1 hs1 hb01 hb2 hown2 hx1
  obtain ⟨⟨g1, g2, g3, g4, g5, g6⟩, _⟩ := hG2.six
  obtain ⟨⟨j1, j2, j3, j4, j5, j6⟩, _⟩ := hJ2.six
  go_wp2_with fail
  refine (HS.out _ hr2 hs2).mono ?_
  rintro e w3 ⟨rfl, hb3⟩
  have hG3 := hG2.belowAll hb3
  have hJ3 := hJ2.belowAll hb3
  have hr3 := hr2.below hb3
  have hs3 := hs2.below hb3
  have hx3 := hx2.below hb3
  have hy3 := hy2.below hb3
  have hb03 := below_all hb02 hb3
  clear g1 g2 g3 g4 g5 g6 j1 j2 j3 j4 j5 j6 hG2 hJ2 hr2 hs2 hx2 hy2 hb02 hb3
  go_wp2_with fail
  refine (alive_any _).mono ?_
  rintro e w4 ⟨rfl, hb4⟩
  have hG4 := hG3.belowAll hb4
  have hJ4 := hJ3.belowAll hb4
  have hr4 := hr3.below hb4
  have hs4 := hs3.below hb4
  have hx4 := hx3.below hb4
  have hy4 := hy3.below hb4
  have hb04 := below_all hb03 hb4
  obtain ⟨⟨g1, g2, g3, g4, g5, g6⟩, _⟩ := hG4.six
  obtain ⟨⟨j1, j2, j3, j4, j5, j6⟩, _⟩ := hJ4.six
  clear hG3 hJ3 hr3 hs3 hx3 hy3 hb03 hb4
  go_wp2_with fail
  refine (HS2.out _ hr4 hs4).mono ?_
  rintro e w5 ⟨rfl, hb5⟩
  have hG5 := hG4.belowAll hb5
  have hr5 := hr4.below hb5
  have hx5 := hx4.below hb5
  have hy5 := hy4.below hb5
  have hb05 := below_all hb04 hb5
  clear g1 g2 g3 g4 g5 g6 j1 j2 j3 j4 j5 j6 hG4 hJ4 hr4 hs4 hx4 hy4 hb04 hb5
  obtain ⟨⟨g1, g2, g3, g4, g5, g6⟩, _⟩ := hG5.six
  go_wp2_with fail
  refine (HS3.out _ hr5 hr5).mono ?_
  rintro e w6 ⟨rfl, hb6⟩
  have hx6 := hx5.below hb6
  have hy6 := hy5.below hb6
  have hb06 := below_all hb05 hb6
  have hcx := run_string (P := Try.prog) HXM.out 26 9 5 (c := cx) Try.underlying26 Try.underlying5 Try.underlying9 hx6
  have hcy := run_string (P := Try.prog) HYM.out 26 9 5 (c := cy) Try.underlying26 Try.underlying5 Try.underlying9 hy6
  clear g1 g2 g3 g4 g5 g6 hG5 hr5 hx5 hy5 hb05 hb6 hx6 hy6
  rcases HC.out with rfl | ⟨rfl, rfl⟩ | ⟨rfl, rfl, hxy⟩
  · go_wp2_with fail
    go_ret
    exact ⟨ret_bool (by simp), hb06⟩
  · go_wp2_with fail
    go_ret
    exact ⟨ret_bool (by simp), hb06⟩
  · cases sm
    · go_wp2_with fail
      go_ret
      exact ⟨ret_bool (by simp), hb06⟩
    · go_wp2_with fail
      go_ret
      exact ⟨ret_bool (by simp), hb06⟩
end Go.Proofs.Ytophnjoaajcfjaa
