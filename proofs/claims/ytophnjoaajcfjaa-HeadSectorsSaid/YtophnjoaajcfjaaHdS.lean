/- head.Decode where there is too little for the sign. Conditions: the bytes fit memory. -/
import Derived.Test.YtophnjoaajcfjaaHd
namespace Go.Proofs.Ytophnjoaajcfjaa
open Go.RowKit

set_option maxHeartbeats 400000 in
theorem hDecode_short (A : Option Addr) (n c : Nat) (b : List UInt8) (w : World) (hn : b.length = n) (hnc : n ≤ c) (hr : Row w A (bv b)) (hsz : n ≤ 140737488355300) (x : List UInt8) (ho : opened b = some x) (hl : n - 4 < 10) :
    Calls Try.prog 17 #[.slice A n c] w (HDecPost w b) := by
  have hz := Blk.new w 30 #[.int .i64 0, .int .i64 0, .string ⟨#[]⟩, .int .i64 0, .bool false, .slice none 0 0]
  have hbz := (Below.refl w.heap.size w).alloc (Nat.le_refl _) (.cells #[.int .i64 0, .int .i64 0, .string ⟨#[]⟩, .int .i64 0, .bool false, .slice none 0 0] 30)
  have hra := hr.alloc (.cells #[.int .i64 0, .int .i64 0, .string ⟨#[]⟩, .int .i64 0, .bool false, .slice none 0 0] 30)
  have kfr := fun (o : Nat) => hz.frozen o
  have hop := open_yes A n c b x (w.alloc (.cells #[.int .i64 0, .int .i64 0, .string ⟨#[]⟩, .int .i64 0, .bool false, .slice none 0 0] 30)) hn hnc hra (by omega) ho
  have HOP := Lib.hid hop
  have HO := Lib.hid ho
  clear hop hn ho hr hra
  obtain ⟨N, hN⟩ : ∃ N, N = n - 4 := ⟨_, rfl⟩
  rw [← hN] at HOP hl
  have hl' : (N : Int) < 10 := by omega
  clear hN
  go_enter Try.func17, Try.ntmps17
  go_wp2_with fail
  refine HOP.out.mono ?_
  rintro e w1 ⟨A1, c1, rfl, hxl, h4, hown1, hb1⟩
  have hd : decH b = (noH, 50) := by
    unfold decH
    rw [HO.out]
    simp only
    rw [if_pos (.inl (by omega))]
  have HD := Lib.hid hd
  clear hd hxl
  have hz1 := hz.belowAll hb1
  obtain ⟨⟨f1, f2, f3, f4, f5, f6⟩, ⟨g1, g2, g3, g4, g5, g6⟩, hz2, hbe⟩ := hz1.put6 (.int .i64 0) (.int .i64 0) (.string ⟨#[]⟩) (.int .i64 0) (.bool false) (.slice none 0 0)
  go_wp2_with fail
  (try simp only [Exit.inBlock, Exit.then])
  refine bodyPost_ret (results_row_tmp rfl _ _ _ 30 _ (0, 0) _ rfl hz2 Try.underlying30 rfl (head_info _ _ _ _ _ _)) rfl ?_
  exact hdec_no HD.out (hbe w _ (below_all hbz hb1) (Nat.le_refl _))
end Go.Proofs.Ytophnjoaajcfjaa
