/- head.Decode where the sign is another one. Conditions: the bytes fit memory. -/
import Derived.Test.YtophnjoaajcfjaaHd
namespace Go.Proofs.Ytophnjoaajcfjaa
open Go.RowKit

set_option maxHeartbeats 400000 in
theorem hDecode_magic (A : Option Addr) (n c : Nat) (b : List UInt8) (w : World) (hn : b.length = n) (hnc : n ≤ c) (hr : Row w A (bv b)) (hsz : n ≤ 140737488355300) (x : List UInt8) (ho : opened b = some x) (hl : ¬ n - 4 < 10) (hm : x.take 10 ≠ magic) :
    Calls Try.prog 17 #[.slice A n c] w (HDecPost w b) := by
  have hz := Blk.new w 30 #[.int .i64 0, .int .i64 0, .string ⟨#[]⟩, .int .i64 0, .bool false, .slice none 0 0]
  have hbz := (Below.refl w.heap.size w).alloc (Nat.le_refl _) (.cells #[.int .i64 0, .int .i64 0, .string ⟨#[]⟩, .int .i64 0, .bool false, .slice none 0 0] 30)
  have hra := hr.alloc (.cells #[.int .i64 0, .int .i64 0, .string ⟨#[]⟩, .int .i64 0, .bool false, .slice none 0 0] 30)
  have hop := open_yes A n c b x (w.alloc (.cells #[.int .i64 0, .int .i64 0, .string ⟨#[]⟩, .int .i64 0, .bool false, .slice none 0 0] 30)) hn hnc hra (by omega) ho
  have hd : decH b = (noH, 50) := by
    unfold decH
    rw [ho]
    simp only
    rw [if_pos (.inr hm)]
  have HOP := Lib.hid hop
  have HM := Lib.hid hm
  have HD := Lib.hid hd
  clear hop hn ho hr hra hm hd
  obtain ⟨N, hN⟩ : ∃ N, N = n - 4 := ⟨_, rfl⟩
  rw [← hN] at HOP hl
  have hl' : ¬ ((N : Int) < 10) := by omega
  clear hN
  go_enter Try.func17, Try.ntmps17
  go_wp2_with fail
  refine HOP.out.mono ?_
  rintro e w1 ⟨A1, c1, rfl, hxl, h4, hown1, hb1⟩
  have hz1 := hz.belowAll hb1
  have hb01 := below_all hbz hb1
  have hrow1 := hown1.row
  have hnc1 : N ≤ c1 := hown1.2.1
  have hlim1 : c1 ≤ maxLen := hown1.2.2.1
  have hc10 : (x.take 10).length = 10 := by rw [List.length_take]; omega
  have hr10 : Row w1 A1 (bv (x.take 10)) := by rw [← bv_take]; exact hrow1.take _
  have hcv := run_string (P := Try.prog) hc10 26 9 5 (c := c1) Try.underlying26 Try.underlying5 Try.underlying9 hr10
  clear hown1 hrow1 hr10 hc10 hxl h4 hz hbz
  have HM2 := HM.out
  obtain ⟨y, hy⟩ : ∃ y, y = x.take 10 := ⟨_, rfl⟩
  rw [← hy] at hcv HM2
  have hym : (y == [112, 101, 110, 116, 105, 109, 101, 110, 116, 111]) = false := by
    rw [beq_eq_false_iff_ne]
    exact HM2
  clear hy HM2
  go_upto_region 5 with fail
  clear hcv hym
  obtain ⟨⟨f1, f2, f3, f4, f5, f6⟩, ⟨g1, g2, g3, g4, g5, g6⟩, hz2, hbe⟩ := hz1.put6 (.int .i64 0) (.int .i64 0) (.string ⟨#[]⟩) (.int .i64 0) (.bool false) (.slice none 0 0)
  go_wp2_with fail
  (try simp only [Exit.inBlock, Exit.then])
  refine bodyPost_ret (results_row_tmp rfl _ _ _ 30 _ (0, 0) _ rfl hz2 Try.underlying30 rfl (head_info _ _ _ _ _ _)) rfl ?_
  exact hdec_no HD.out (hbe w _ hb01 (Nat.le_refl _))
end Go.Proofs.Ytophnjoaajcfjaa
