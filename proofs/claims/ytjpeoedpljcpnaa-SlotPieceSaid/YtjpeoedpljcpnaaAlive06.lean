/- pentimentolaw06.alive answers true. No condition. -/
import Derived.Test.YtjpeoedpljcpnaaRun
namespace Go.Proofs.Ytjpeoedpljcpnaa
open Go.RowKit

def l5 : List Sl := [⟨0, 0, false⟩, ⟨0, 0, false⟩, ⟨1, 4, false⟩, ⟨1, 5, false⟩, ⟨1, 9, false⟩]
theorem l5_runs : rT l5 5 = [⟨0, 2, 0⟩, ⟨2, 2, 1⟩, ⟨4, 1, 1⟩] := by rfl
theorem s1_all : allR [⟨1, 2, true⟩] = true ∧ allB [⟨1, 2, true⟩] = [0, 0, 0, 21] := by decide
theorem s1_dec : decS [0, 0, 0, 21] = ⟨1, 2, true⟩ ∧ decE [0, 0, 0, 21] = 0 := by decide

set_option maxHeartbeats 4000000 in
theorem alive_any (w : World) :
    Calls Try.prog 9 #[] w fun e w' => e = .returned (.bool true) ∧ Below w.heap.size w w' := by
  have HRUN := Lib.hid l5_runs
  obtain ⟨a1, a2⟩ := s1_all
  obtain ⟨a3, a4⟩ := s1_dec
  have A1 := Lib.hid a1
  have A2 := Lib.hid a2
  have A3 := Lib.hid a3
  have A4 := Lib.hid a4
  clear a1 a2 a3 a4
  have hB := Blk.new w 29 #[.int .i64 1, .int .i64 2, .bool true]
  have hb0 := (Below.refl w.heap.size w).alloc (Nat.le_refl _) (.cells #[.int .i64 1, .int .i64 2, .bool true] 29)
  go_enter Try.func9, Try.ntmps9
  go_wp2_with fail
  refine (encode_any ⟨1, 2, true⟩ _).mono ?_
  rintro e w1 ⟨⟨h1, _⟩ | ⟨_, Ab, cb, rfl, hown1⟩, hb1⟩
  · rw [A1.out] at h1
    cases h1
  rw [A2.out] at hown1
  have hown1' : Own w1 _ 5 1 Ab 4 cb (bv [0, 0, 0, 21]) := hown1
  clear hown1
  have hB1 := hB.belowAll hb1
  have hb01 := below_all hb0 hb1
  go_wp2_with fail
  refine (decode_any Ab 4 cb [0, 0, 0, 21] w1 rfl hown1'.row (by omega)).mono ?_
  rw [A3.out, A4.out]
  rintro e w2 ⟨rfl, hb2⟩
  have hown2 := hown1'.below hb2
  have hB2 := hB1.belowAll hb2
  have hb02 := below_all hb01 hb2
  have hD2 := Blk.new w2 29 #[.int .i64 1, .int .i64 2, .bool true]
  have hb03 := hb02.alloc hb02.size (.cells #[.int .i64 1, .int .i64 2, .bool true] 29)
  have hown3 := hown2.alloc (.cells #[.int .i64 1, .int .i64 2, .bool true] 29)
  have hB3 := hB2.alloc (.cells #[.int .i64 1, .int .i64 2, .bool true] 29)
  obtain ⟨w3, hw3⟩ : ∃ w3, w3 = w2.alloc (.cells #[.int .i64 1, .int .i64 2, .bool true] 29) := ⟨_, rfl⟩
  have hs3 : w3.heap.size = w2.heap.size + 1 := by rw [hw3, World.size_alloc]
  rw [← hw3] at hD2 hb03 hown3 hB3
  have HW3 := Lib.hid hw3
  have HS3 := Lib.hid hs3
  clear hw3 hs3
  go_wp2_with fail
  rw [← HW3.out, ← HS3.out]
  have hrow : Row (w3.alloc (.cells #[.int .i64 0, .int .i64 0, .bool false, .int .i64 0, .int .i64 0, .bool false, .int .i64 1, .int .i64 4, .bool false, .int .i64 1, .int .i64 5, .bool false, .int .i64 1, .int .i64 9, .bool false] 29)) (some ⟨w3.heap.size, 0, none⟩) (scells l5) := row_new
  refine (runs_any _ 5 5 l5 _ rfl hrow (by omega) (by decide)).mono ?_
  rw [HRUN.out]
  rintro e w4 ⟨A4x, c4, rfl, hown4, hb4⟩
  have hb34 : Below w3.heap.size w3 w4 := ((Below.refl _ _).alloc (Nat.le_refl _) _).trans (hb4.mono (by simp))
  have hownb := hown3.below hb34
  obtain ⟨⟨b1, b2, b3⟩, _, b4⟩ := (hB3.belowAll hb34).three
  obtain ⟨⟨d1, d2, d3⟩, _, d4⟩ := (hD2.belowAll hb34).three
  have hcv := run_string (P := Try.prog) (show ([0, 0, 0, 21] : List UInt8).length = 4 from rfl) 24 9 5 (c := cb) Try.underlying24 Try.underlying5 Try.underlying9 hownb.row
  obtain ⟨gx, ox, rfl, hgx, x1, x2, x3⟩ := hown4.row.ex (i := 1) (by simp)
  simp only [List.getElem_cons_succ, List.getElem_cons_zero, Nat.one_mul] at x1 x2 x3
  have hb04 := below_all hb03 hb34
  clear hB hB1 hB2 hB3 hD2 hown4 hrow hb4
  rw [show ([⟨0, 2, 0⟩, ⟨2, 2, 1⟩, ⟨4, 1, 1⟩] : List Ex).length = 3 from rfl]
  go_wp2_with fail
  refine (sWrites_any ⟨1, 2, true⟩ w4).mono ?_
  rintro e w5 ⟨rfl, hb5⟩
  have y1 := (hb5.cell (World.block_lt_of_cell? w4 _ x1)).trans x1
  have y2 := (hb5.cell (World.block_lt_of_cell? w4 _ x2)).trans x2
  have y3 := (hb5.cell (World.block_lt_of_cell? w4 _ x3)).trans x3
  go_wp2_with fail
  go_ret
  exact ⟨ret_bool (by simp), below_all hb04 hb5⟩
end Go.Proofs.Ytjpeoedpljcpnaa
