/- The law SumLong. No condition. -/
import Derived.Test.YtdoigdbegijcnaaAlive02
import Derived.Test.YtdoigdbegijcnaaSeq
namespace Go.Proofs.Ytdoigdbegijcnaa
open Go.RowKit

set_option maxHeartbeats 1000000 in
theorem sumLong_law (A : Option Addr) (n c : Nat) (l : List UInt8) (w : World) (hn : l.length = n) (hnc : n ≤ c) (hr : Row w A (bv l)) (hsz : n ≤ 9223372036854775807) :
    Calls Try.prog 7 #[.slice A n c] w fun e w' => e = .returned (.bool true) ∧ Below w.heap.size w w' := by
  by_cases hb : 20000 < n
  · go_enter Try.func7, Try.ntmps7
    go_wp2_with fail
    refine (alive_any w).mono ?_
    rintro e w1 ⟨rfl, hb1⟩
    go_wp2_with fail
    go_ret
    exact ⟨rfl, hb1⟩
  cases ho : opened l with
  | none =>
    have HN := Lib.hid hn
    have hop : Calls Try.prog 10 #[.slice A n c] w fun e w' => e = .returned (.tuple #[.slice none 0 0, .bool false]) ∧ Below w.heap.size w w' := by
      by_cases h4 : n < 4
      · exact (open_short A n c w h4).mono fun e w' h => ⟨h.1, by rw [← h.2]; exact Below.refl _ _⟩
      · exact open_no A n c l w hn hnc hr (by omega) (by omega) ho
    have HOP := Lib.hid hop
    clear hop hn ho
    go_enter Try.func7, Try.ntmps7
    go_wp2_with fail
    refine HOP.out.mono ?_
    rintro e w1 ⟨rfl, hb1⟩
    have hr1 := hr.below hb1
    go_wp2_with fail
    refine wp_region_seq (.alone 0 (.take 1 .copy (.take 2 .copy (.take 5 .copy (.take 6 (.len 22) (.take 7 .int2 (.alone 3 (.take 4 (.len 22) (.take 8 .int2 (.take 9 .copy (.take 10 .copy (.take 11 .copy (.take 12 .copy (.take 13 .copy (.take 14 .copy (.take 15 (.len 22) (.take 16 .int2 (.take 17 .copy (.take 18 .copy (.take 19 .copy (.take 20 .copy (.take 21 .copy (.take 24 .copy (.take 25 (.text 22 5 9) (.alone 22 (.take 23 (.text 22 5 9) (.take 26 (.str2 9) (.take 27 .copy (.take 28 .copy (.take 29 .copy (.take 30 .copy .fin))))))))))))))))))))))))))))))) (by kernel_rfl) (by kernel_rfl) (by kernel_rfl) ?_
    simp only [pre, nxt, List.getElem?_toArray, List.getElem?_cons_zero, List.getElem?_cons_succ, opAt, ghosts, List.nil_append, gInt, gStr, ghost, List.cons_append]
    go_wp2_with fail
    refine (alive_any _).mono ?_
    rintro e w2 ⟨rfl, hb2⟩
    go_wp2_with fail
    refine next_keep (Keep.below hb2) ?_
    have hr2 := hr1.drew.below hb2
    go_wp2_with fail
    refine (seal_any A n c l _ HN.out hr2 (by omega)).mono ?_
    rintro e w3 ⟨A3, c3, rfl, hown3, hb3⟩
    go_wp2_with fail
    refine next_keep (Keep.below hb3) ?_
    go_wp2_with fail
    refine next_keep (Keep.refl _) ?_
    go_wp2_with fail
    refine ends_normal ?_
    go_wp2_with fail
    go_ret
    exact ⟨rfl, below_all hb1 (below_all (w1 := w2) (Below.trans (Below.refl _ _).drew hb2) hb3)⟩
  | some m =>
    have hs := opened_some ho
    have HS := Lib.hid hs
    have HN := Lib.hid hn
    have hop := open_yes A n c l m w hn hnc hr (by omega) ho
    have HOP := Lib.hid hop
    have hst : (sealed m == l) = true := by rw [beq_iff_eq]; exact hs
    clear hop hn ho hs
    go_enter Try.func7, Try.ntmps7
    go_wp2_with fail
    refine HOP.out.mono ?_
    rintro e w1 ⟨A1, c1, rfl, hml, h4, hown1, hb1⟩
    have HML := Lib.hid hml
    clear hml
    have hr1 := hr.below hb1
    go_wp2_with fail
    refine wp_region_seq (.alone 0 (.take 1 .copy (.take 2 .copy (.take 5 .copy (.take 6 (.len 22) (.take 7 .int2 (.alone 3 (.take 4 (.len 22) (.take 8 .int2 (.take 9 .copy (.take 10 .copy (.take 11 .copy (.take 12 .copy (.take 13 .copy (.take 14 .copy (.take 15 (.len 22) (.take 16 .int2 (.take 17 .copy (.take 18 .copy (.take 19 .copy (.take 20 .copy (.take 21 .copy (.take 24 .copy (.take 25 (.text 22 5 9) (.alone 22 (.take 23 (.text 22 5 9) (.take 26 (.str2 9) (.take 27 .copy (.take 28 .copy (.take 29 .copy (.take 30 .copy .fin))))))))))))))))))))))))))))))) (by kernel_rfl) (by kernel_rfl) (by kernel_rfl) ?_
    simp only [pre, nxt, List.getElem?_toArray, List.getElem?_cons_zero, List.getElem?_cons_succ, opAt, ghosts, List.nil_append, gInt, gStr, ghost, List.cons_append]
    go_wp2_with fail
    refine (alive_any _).mono ?_
    rintro e w2 ⟨rfl, hb2⟩
    go_wp2_with fail
    refine next_keep (Keep.below hb2) ?_
    have hr2 := hr1.drew.below hb2
    have hx2 := hown1.row.drew.below hb2
    go_wp2_with fail
    refine (seal_any A n c l _ HN.out hr2 (by omega)).mono ?_
    rintro e w3 ⟨A3, c3, rfl, hown3, hb3⟩
    go_wp2_with fail
    refine next_keep (Keep.below hb3) ?_
    have hr3 := hr2.below hb3
    have hx3 := hx2.below hb3
    have hcv := run_string (P := Try.prog) HN.out 22 9 5 (c := c) Try.underlying22 Try.underlying5 Try.underlying9 hr3
    go_wp2_with fail
    refine (seal_any A1 (n - 4) c1 m _ HML.out hx3 (by omega)).mono ?_
    rintro e w4 ⟨A4, c4, rfl, hown4, hb4⟩
    clear hcv
    go_wp2_with fail
    refine next_keep (Keep.below hb4) ?_
    have hcv := run_string (P := Try.prog) (w := w4) (A := A4) (l := sealed m) (n := n) (by rw [sealed_length, HML.out]; omega) 22 9 5 (c := c4) Try.underlying22 Try.underlying5 Try.underlying9 hown4.row
    go_wp2_with fail
    refine ends_normal ?_
    go_wp2_with fail
    go_ret
    exact ⟨rfl, below_all hb1 (below_all (w1 := w2) (Below.trans (Below.refl _ _).drew hb2) (below_all hb3 hb4))⟩
end Go.Proofs.Ytdoigdbegijcnaa
