/- pentimentolaw05.alive answers true. No condition. -/
import Derived.Test.YtophnjoaajcfjaaHdF
import Derived.Test.YtophnjoaajcfjaaHsm
import Derived.Test.YtophnjoaajcfjaaHsc
import Derived.Test.YtophnjoaajcfjaaHe
namespace Go.Proofs.Ytophnjoaajcfjaa
open Go.RowKit

def hdA : Hd := ⟨2, 3, [97], 7, true, [5]⟩
theorem hdA_right : hdA.right = true := by decide
theorem hdA_len : (sealed hdA.text).length = 31 := by decide
theorem hdA_dec : decH (sealed hdA.text) = (hdA, 0) := decH_text hdA_right
theorem nil_dec : decH [] = (noH, 51) := by unfold decH; rw [show opened [] = none from by decide]
theorem hdA_sec : hdA.sec = 12 := by decide

theorem dec_A {w w' : World} {b : List UInt8} {e : Ending} (h : HDecPost w b e w') (hd : decH b = (hdA, 0)) : ∃ A c, e = .returned (.tuple #[.agg #[.int .i64 2, .int .i64 3, .string ⟨#[97]⟩, .int .i64 7, .bool true, .slice A 1 c], .int .i64 0]) ∧ Row w' A (iv [5]) ∧ Below w.heap.size w w' := by
  unfold HDecPost at h
  rw [hd] at h
  obtain ⟨A, c, h1, _, h2, h3⟩ := h
  exact ⟨A, c, h1, h2, h3⟩
theorem dec_N {w w' : World} {b : List UInt8} {e : Ending} {er : Int} (h : HDecPost w b e w') (hd : decH b = (noH, er)) : ∃ A c, e = .returned (.tuple #[.agg #[.int .i64 0, .int .i64 0, .string ⟨#[]⟩, .int .i64 0, .bool false, .slice A 0 c], .int .i64 er]) ∧ Below w.heap.size w w' := by
  unfold HDecPost at h
  rw [hd] at h
  obtain ⟨A, c, h1, _, h2, h3⟩ := h
  exact ⟨A, c, h1, h3⟩

set_option maxHeartbeats 4000000 in
theorem alive_any (w : World) :
    Calls Try.prog 9 #[] w fun e w' => e = .returned (.bool true) ∧ Below w.heap.size w w' := by
  have hE : ∀ (u : World) (g : Nat), Row u (some ⟨g, 0, none⟩) (iv [5]) → Calls Try.prog 10 #[.agg #[.int .i64 2, .int .i64 3, .string ⟨#[97]⟩, .int .i64 7, .bool true, .slice (some ⟨g, 0, none⟩) 1 1]] u (EncPost u hdA) := fun u g hr => hEncode_any hdA (some ⟨g, 0, none⟩) 1 u hr (by decide) (by decide)
  have hS : ∀ (u : World) (A : Option Addr) (c g : Nat), Row u A (iv [5]) → Row u (some ⟨g, 0, none⟩) (iv [5]) → Calls Try.prog 20 #[.agg #[.int .i64 2, .int .i64 3, .string ⟨#[97]⟩, .int .i64 7, .bool true, .slice A 1 c], .agg #[.int .i64 2, .int .i64 3, .string ⟨#[97]⟩, .int .i64 7, .bool true, .slice (some ⟨g, 0, none⟩) 1 1]] u fun e w' => e = .returned (.bool true) ∧ Below u.heap.size u w' :=
    fun u A c g h1 h2 => (hSame_any 2 3 7 2 3 7 [97] [97] true true [5] [5] 1 1 A (some ⟨g, 0, none⟩) c 1 u rfl rfl h1 h2 (by omega) (by omega)).mono fun e w' h => ⟨h.1, h.2⟩
  have hX : ∀ (u : World) (g : Nat), Row u (some ⟨g, 0, none⟩) (iv [5]) → Calls Try.prog 14 #[.agg #[.int .i64 2, .int .i64 3, .string ⟨#[97]⟩, .int .i64 7, .bool true, .slice (some ⟨g, 0, none⟩) 1 1]] u fun e w' => e = .returned (.int .i64 12) ∧ Below u.heap.size u w' := fun u g hr => (hSectors_any hdA (some ⟨g, 0, none⟩) 1 u hr (by decide) (by decide)).mono fun e w' h => ⟨by rw [h.1, hdA_sec], h.2⟩
  have hN : ∀ (u : World) (g : Nat), Calls Try.prog 16 #[.agg #[.int .i64 2, .int .i64 3, .string ⟨#[97]⟩, .int .i64 7, .bool true, .slice (some ⟨g, 0, none⟩) 1 1], .agg #[.int .i64 0, .int .i64 0, .string ⟨#[]⟩, .int .i64 6, .bool false, .slice none 0 0]] u fun e w' => e = .returned (.bool true) ∧ Below u.heap.size u w' := fun u g => newer_any 2 3 7 0 0 6 [97] [] true false _ _ u
  have HE := Lib.hid hE
  have HS := Lib.hid hS
  have HX := Lib.hid hX
  have HNW := Lib.hid hN
  have HR := Lib.hid hdA_right
  have HL := Lib.hid hdA_len
  clear hE hS hX hN
  go_enter Try.func9, Try.ntmps9
  go_wp2_with fail
  have hb0 := (((Below.refl w.heap.size w).alloc (Nat.le_refl _) (.cells #[.int .i64 5] 3)).alloc (by simp) (.cells #[.int .i64 2, .int .i64 3, .string ⟨#[97]⟩, .int .i64 7, .bool true, .slice (some ⟨w.heap.size, 0, none⟩) 1 1] 30))
  have hrow0 : Row ((w.alloc (.cells #[.int .i64 5] 3)).alloc (.cells #[.int .i64 2, .int .i64 3, .string ⟨#[97]⟩, .int .i64 7, .bool true, .slice (some ⟨w.heap.size, 0, none⟩) 1 1] 30)) (some ⟨w.heap.size, 0, none⟩) (iv [5]) := (row_one (w := w) (x := 5)).alloc _
  have hB0 := Blk.new (w.alloc (.cells #[.int .i64 5] 3)) 30 #[.int .i64 2, .int .i64 3, .string ⟨#[97]⟩, .int .i64 7, .bool true, .slice (some ⟨w.heap.size, 0, none⟩) 1 1]
  rw [World.size_alloc] at hB0
  refine (HE.out _ _ hrow0).mono ?_
  rintro e w1 ⟨⟨h1, _⟩ | ⟨_, Ab, cb, rfl, hown1⟩, hb1⟩
  · rw [HR.out] at h1
    cases h1
  have hrow1 := hrow0.below hb1
  have hB1 := hB0.belowAll hb1
  have hb01 := below_all hb0 hb1
  rw [HL.out] at hown1 ⊢
  have hxr := hown1.row
  have hxc := hown1.2.1
  clear hrow0 hB0 hb0 hb1 hown1
  go_wp2_with fail
  refine (hDecode_any Ab 31 cb (sealed hdA.text) w1 HL.out hxc hxr (by omega)).mono ?_
  intro e w2 hp2
  obtain ⟨A2, c2, rfl, hr2, hb2⟩ := dec_A hp2 hdA_dec
  have hD := fun u => hDecode_any none 0 0 [] u rfl (Nat.le_refl _) (Row.nil _ _) (by omega)
  have HD := Lib.hid hD
  clear hD hp2
  go_wp2_with fail
  refine (HD.out _).mono ?_
  intro e w3 hp3
  obtain ⟨A3, c3, rfl, hb3⟩ := dec_N hp3 nil_dec
  have hr2a := (hr2.alloc (.cells #[.int .i64 2, .int .i64 3, .string ⟨#[97]⟩, .int .i64 7, .bool true, .slice A2 1 c2] 30)).below hb3
  have hG := (Blk.new w2 30 #[.int .i64 2, .int .i64 3, .string ⟨#[97]⟩, .int .i64 7, .bool true, .slice A2 1 c2]).belowAll hb3
  have hF := ((hB1.belowAll hb2).alloc (.cells #[.int .i64 2, .int .i64 3, .string ⟨#[97]⟩, .int .i64 7, .bool true, .slice A2 1 c2] 30)).belowAll hb3
  have hrf := ((hrow1.below hb2).alloc (.cells #[.int .i64 2, .int .i64 3, .string ⟨#[97]⟩, .int .i64 7, .bool true, .slice A2 1 c2] 30)).below hb3
  have hb02 := below_all hb01 hb2
  have hb03 := below_all (hb02.alloc hb02.size (.cells #[.int .i64 2, .int .i64 3, .string ⟨#[97]⟩, .int .i64 7, .bool true, .slice A2 1 c2] 30)) hb3
  have hG4 := hG.alloc (.cells #[.int .i64 0, .int .i64 0, .string ⟨#[]⟩, .int .i64 0, .bool false, .slice A3 0 c3] 30)
  have hF4 := hF.alloc (.cells #[.int .i64 0, .int .i64 0, .string ⟨#[]⟩, .int .i64 0, .bool false, .slice A3 0 c3] 30)
  have hr4 := hr2a.alloc (.cells #[.int .i64 0, .int .i64 0, .string ⟨#[]⟩, .int .i64 0, .bool false, .slice A3 0 c3] 30)
  have hrf4 := hrf.alloc (.cells #[.int .i64 0, .int .i64 0, .string ⟨#[]⟩, .int .i64 0, .bool false, .slice A3 0 c3] 30)
  have hb04 := hb03.alloc hb03.size (.cells #[.int .i64 0, .int .i64 0, .string ⟨#[]⟩, .int .i64 0, .bool false, .slice A3 0 c3] 30)
  clear hp3 hb2 hb3 hr2 hr2a hG hF hrf hb02 hb03 hb01 hB1 hrow1 hxr
  obtain ⟨⟨g1, g2, g3, g4, g5, g6⟩, _⟩ := hG4.six
  obtain ⟨⟨f1, f2, f3, f4, f5, f6⟩, _⟩ := hF4.six
  go_wp2_with fail
  refine (HS.out _ _ _ _ hr4 hrf4).mono ?_
  rintro e w5 ⟨rfl, hb5⟩
  have hF5 := hF4.belowAll hb5
  have hrf5 := hrf4.below hb5
  have hb05 := below_all hb04 hb5
  clear g1 g2 g3 g4 g5 g6 f1 f2 f3 f4 f5 f6 hG4 hF4 hr4 hrf4 hb04 hb5
  obtain ⟨⟨f1, f2, f3, f4, f5, f6⟩, _⟩ := hF5.six
  go_wp2_with fail
  refine (HX.out _ _ hrf5).mono ?_
  rintro e w6 ⟨rfl, hb6⟩
  have hF6 := hF5.belowAll hb6
  have hb06 := below_all hb05 hb6
  clear f1 f2 f3 f4 f5 f6 hF5 hrf5 hb05 hb6
  obtain ⟨⟨f1, f2, f3, f4, f5, f6⟩, _⟩ := hF6.six
  go_wp2_with fail
  refine (HNW.out _ _).mono ?_
  rintro e w7 ⟨rfl, hb7⟩
  have hb07 := below_all hb06 hb7
  go_wp2_with fail
  go_ret
  exact ⟨rfl, hb07⟩
end Go.Proofs.Ytophnjoaajcfjaa
