/- pentimentolaw01.alive answers true. No condition. -/
import Derived.Test.YtijogfjihnbmeaaText
namespace Go.Proofs.Ytijogfjihnbmeaa
open Go.RowKit

theorem alive_nums : nm [1, 2, 0, 3, 2, 97, 98] 0 2 = ([0, 3, 2, 97, 98], 0, 258) ∧ nm [0, 3, 2, 97, 98] 0 2 = ([2, 97, 98], 0, 3) ∧ tx [2, 97, 98] 0 1 = ([], 0, [97, 98]) ∧ nm [0, 0, 1] 0 4 = ([0, 0, 1], 10, 0) := by
  decide
theorem alive_end : endOf [] 0 = 0 := by decide

set_option maxHeartbeats 2000000 in
theorem alive_any (w : World) :
    Calls Try.prog 11 #[] w fun e w' => e = .returned (.bool true) ∧ Below w.heap.size w w' := by
  go_enter Try.func11, Try.ntmps11
  go_wp2_with fail
  refine (put_yes_at w.heap.size none 0 0 2 2 rfl _ 2 2 [258, 3] [] _ rfl row_new (by simp) (Own.nil _ _ _ _ _) (by decide) (by decide) (by intro a _ h; cases h) (by omega)).mono ?_
  rintro e w1 ⟨A1, c1, rfl, hown1, hon1, hblk1⟩
  have hb1 : Below w.heap.size w w1 := (Only.belowB (B := w.heap.size) (F := (w.heap.size ≤ ·)) (((Only.refl _ _).alloc _).trans hon1 (fun i hi hk => by simp [ownB] at hk)) (fun k hk => hk) (Nat.le_refl _))
  have hown1' : Own w1 w.heap.size 5 1 A1 4 c1 (bv [1, 2, 0, 3]) := hown1
  clear hown1
  go_wp2_with fail
  have hab : ({ data := #[97, 98] } : ByteArray) = str [97, 98] := rfl
  rw [hab]
  refine (text_yes w.heap.size A1 4 c1 1 [97, 98] [1, 2, 0, 3] w1 hb1.size hown1' (by decide) (by decide) (by show 4 + 1 + 2 ≤ _; omega)).mono ?_
  rintro e w2 ⟨A2, c2, rfl, hown2, hon2, hblk2⟩
  have hown2' : Own w2 w.heap.size 5 1 A2 7 c2 (bv [1, 2, 0, 3, 2, 97, 98]) := hown2
  have hb2 : Below w.heap.size w w2 := hb1.trans (hon2.belowB (fun k hk => (hown1'.lt k hk).1) hb1.size)
  clear hown2
  go_wp2_with fail
  refine (newReader_any A2 7 c2 [1, 2, 0, 3, 2, 97, 98] w2 rfl hown2'.row (by omega)).mono ?_
  rintro e w3 ⟨g, rfl, hg, hrd3, hb3⟩
  have hown3 := hown2'.below hb3
  have hb03 := hb2.trans (hb3.mono hb2.size)
  have hgs : w.heap.size ≤ g := Nat.le_trans hb2.size hg
  obtain ⟨an1, an2, an3, an4⟩ := alive_nums
  have AN1 := Lib.hid an1
  have AN2 := Lib.hid an2
  have AN3 := Lib.hid an3
  have AN4 := Lib.hid an4
  clear an1 an2 an3 an4 hab
  go_wp2_with fail
  refine (rnum_any g _ 0 2 w3 hrd3).mono ?_
  rintro e w4 ⟨rfl, hrd4, hon4⟩
  rw [AN1.out] at hrd4 ⊢
  go_wp2_with fail
  refine (rnum_any g _ 0 2 w4 hrd4).mono ?_
  rintro e w5 ⟨rfl, hrd5, hon5⟩
  rw [AN2.out] at hrd5 ⊢
  go_wp2_with fail
  refine (rtext_any g _ 0 1 w5 hrd5).mono ?_
  rintro e w6 ⟨rfl, hrd6, hon6⟩
  rw [AN3.out] at hrd6 ⊢
  have hon36 : Only w3 w6 (· = g) := (hon4.trans hon5 (fun i _ h => h)).trans hon6 (fun i _ h => h)
  clear hon4 hon5 hon6 hrd3 hrd4 hrd5
  have hown6 : Row w6 A2 (bv [1, 2, 0, 3, 2, 97, 98]) := by
    refine (hown3.only hon36 (fun k hk => ?_)).row
    have := (hown2'.lt k hk).2
    omega
  have hb06 : Below w.heap.size w w6 := below_only hb03 (Nat.le_refl _) hgs hon36
  go_wp2_with fail
  refine (newReader_any _ 3 3 [0, 0, 1] _ rfl row_new (by omega)).mono ?_
  rintro e w7 ⟨h, rfl, hh, hrd7, hb7⟩
  rw [World.size_alloc] at hh
  have hb67 : Below w6.heap.size w6 w7 := ((Below.refl _ _).alloc (Nat.le_refl _) _).trans (hb7.mono (by simp))
  go_wp2_with fail
  refine (rnum_any h _ 0 4 w7 hrd7).mono ?_
  rintro e w8 ⟨rfl, hrd8, hon8⟩
  rw [AN4.out] at hrd8
  have hb68 : Below w6.heap.size w6 w8 := below_only hb67 (Nat.le_refl _) (by omega) hon8
  have hrd86 := hrd6.only hb68
  have hrow8 := hown6.below hb68
  have hcv := run_string (P := Try.prog) (show ([1, 2, 0, 3, 2, 97, 98] : List UInt8).length = 7 from rfl) 22 9 5 (c := c2) Try.underlying22 Try.underlying5 Try.underlying9 hrow8
  go_wp2_with fail
  refine (end_any g [] 0 w8 hrd86).mono ?_
  rintro e w9 ⟨rfl, rfl⟩
  rw [alive_end]
  go_wp2_with fail
  refine (err_any h _ _ w8 hrd8).mono ?_
  rintro e w9 ⟨rfl, rfl⟩
  go_wp2_with fail
  go_ret
  exact ⟨rfl, hb06.trans (hb68.mono hb06.size)⟩
end Go.Proofs.Ytijogfjihnbmeaa
