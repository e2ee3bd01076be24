/- The law SumAll. Conditions: the lengths do not wrap. -/
import Derived.Test.YtdoigdbegijcnaaAlive02
import Derived.Test.YtdoigdbegijcnaaSeq
namespace Go.Proofs.Ytdoigdbegijcnaa
open Go.RowKit

theorem pieces_two {w : World} {A A2 : Option Addr} {c c2 : Nat} {l l2 : List UInt8} (hr : Row w A (bv l)) (hr2 : Row w A2 (bv l2)) : Pieces w [⟨A, c, l⟩, ⟨A2, c2, l2⟩] := by
  intro p hp
  rcases List.mem_cons.1 hp with rfl | hp
  · exact hr
  · rw [List.mem_singleton] at hp
    subst hp
    exact hr2
theorem row_two {w : World} {A A2 : Option Addr} {n c n2 c2 : Nat} {l l2 : List UInt8} (hn : l.length = n) (hn2 : l2.length = n2) :
    Row (w.alloc (.cells #[.slice A n c, .slice A2 n2 c2] 22)) (some ⟨w.heap.size, 0, none⟩) (pv [⟨A, c, l⟩, ⟨A2, c2, l2⟩]) := by
  have e : pv [⟨A, c, l⟩, ⟨A2, c2, l2⟩] = (#[.slice A n c, .slice A2 n2 c2] : Array Value).toList := by simp [pv, Piece.val, hn, hn2]
  rw [e]
  exact row_new

theorem open_any (A : Option Addr) (n c : Nat) (l : List UInt8) (w : World) (hn : l.length = n) (hnc : n ≤ c) (hr : Row w A (bv l)) (hsz : n ≤ 140737488355300) :
    Calls Try.prog 10 #[.slice A n c] w fun e w' => ∃ A' m c', e = .returned (.tuple #[.slice A' m c', .bool (opened l).isSome]) ∧ (openedB l).length = m ∧ m ≤ n ∧ Row w' A' (bv (openedB l)) ∧ Below w.heap.size w w' := by
  cases ho : opened l with
  | none =>
    have hb : openedB l = [] := by simp [openedB, ho]
    by_cases h4 : n < 4
    · refine (open_short A n c w h4).mono fun e w' h => ⟨none, 0, 0, h.1, by rw [hb]; rfl, Nat.zero_le _, ?_, ?_⟩
      · rw [hb]; exact .inl rfl
      · rw [← h.2]; exact Below.refl _ _
    · refine (open_no A n c l w hn hnc hr (by omega) hsz ho).mono fun e w' h => ⟨none, 0, 0, h.1, by rw [hb]; rfl, Nat.zero_le _, ?_, h.2⟩
      rw [hb]; exact .inl rfl
  | some m =>
    have hb : openedB l = m := by simp [openedB, ho]
    refine (open_yes A n c l m w hn hnc hr hsz ho).mono fun e w' h => ?_
    obtain ⟨A', c', he, hml, h4, hown, hbel⟩ := h
    exact ⟨A', n - 4, c', he, by rw [hb, hml], by omega, by rw [hb]; exact hown.row, hbel⟩

set_option maxHeartbeats 2000000 in
theorem sumAll_law (A A2 : Option Addr) (n c n2 c2 : Nat) (l l2 : List UInt8) (w : World) (hn : l.length = n) (hnc : n ≤ c) (hr : Row w A (bv l)) (hn2 : l2.length = n2) (hr2 : Row w A2 (bv l2))
    (hsz : n ≤ 140737488355328) (hsz2 : n2 ≤ 140737488355328) :
    Calls Try.prog 3 #[.slice A n c, .slice A2 n2 c2] w fun e w' => e = .returned (.bool true) ∧ Below w.heap.size w w' := by
  by_cases hb : 20000 < n + n2
  · go_enter Try.func3, Try.ntmps3
    go_wp2_with fail
    refine (alive_any w).mono ?_
    rintro e w1 ⟨rfl, hb1⟩
    go_wp2_with fail
    go_ret
    exact ⟨rfl, hb1⟩
  have hs1 := run_string (P := Try.prog) hn 22 9 5 (c := c) Try.underlying22 Try.underlying5 Try.underlying9 hr
  have hs2 := run_string (P := Try.prog) hn2 22 9 5 (c := c2) Try.underlying22 Try.underlying5 Try.underlying9 hr2
  have hcat := run_cat (P := Try.prog) l l2 (by omega)
  have hlen : l.length ≤ 20000 := by omega
  have hlen2 : (l ++ l2).length ≤ 20000 := by rw [List.length_append]; omega
  have HN := Lib.hid hn
  have HN2 := Lib.hid hn2
  have HL := Lib.hid hlen
  have HL2 := Lib.hid hlen2
  clear hn hn2 hlen hlen2
  go_enter Try.func3, Try.ntmps3
  go_wp2_with fail
  refine (open_any A n c l w HN.out hnc hr (by omega)).mono ?_
  rintro e w1 ⟨A1, m1, c1, rfl, hm1, hmn, hx1, hb1⟩
  have HM := Lib.hid hm1
  clear hs1 hs2 hcat hm1
  have hr1 := hr.below hb1
  have hr21 := hr2.below hb1
  have hs1 := run_string (P := Try.prog) HN.out 22 9 5 (c := c) Try.underlying22 Try.underlying5 Try.underlying9 hr1
  go_wp2_with fail
  refine (rOpen_any l w1 (by have := HL.out; omega)).mono ?_
  rintro e w2 ⟨rfl, hb2⟩
  clear hs1
  go_wp2_with fail
  refine wp_region_seq true (.alone 0 (.take 1 .copy (.take 2 .copy (.take 3 .copy (.take 6 .copy (.alone 4 (.alone 5 (.alone 7 (.take 8 .int2 (.take 9 .copy (.take 10 .copy (.take 11 .copy (.take 14 .copy (.take 15 (.text 22 5 9) (.alone 12 (.take 13 (.text 22 5 9) (.alone 16 (.take 17 (.str2 9) (.take 18 .copy (.take 19 .copy (.take 20 .copy (.take 21 (.text 22 5 9) (.take 22 .copy (.take 23 (.str2 9) (.take 24 .copy (.take 25 .copy (.take 26 .copy (.take 27 .copy (.take 28 .bool2 (.take 29 .copy (.take 30 .copy .fin))))))))))))))))))))))))))))))) (by kernel_rfl) (by kernel_rfl) (by kernel_rfl) ?_
  simp only [pre, nxt, List.getElem?_toArray, List.getElem?_cons_zero, List.getElem?_cons_succ, opAt, ghosts, List.nil_append, gInt, gStr, gBool, ghost, List.cons_append]
  go_wp2_with fail
  refine (alive_any _).mono ?_
  rintro e w3 ⟨rfl, hb3⟩
  go_wp2_with fail
  refine next_keep (Keep.below hb3) ?_
  have hr3 := (hr1.below hb2).drew.below hb3
  have hr23 := (hr21.below hb2).drew.below hb3
  have hx3 := (hx1.below hb2).drew.below hb3
  go_wp2_with fail
  refine next_keep (Keep.alloc _ _) ?_
  go_wp2_with fail
  refine (of_any _ 2 2 [⟨A, c, l⟩, ⟨A2, c2, l2⟩] _ rfl (row_two HN.out HN2.out) (pieces_two (hr3.alloc _) (hr23.alloc _)) (by omega) (by
    intro p hp
    have h1 := HL2.out
    rw [List.length_append] at h1
    rcases List.mem_cons.1 hp with rfl | hp
    · show l.length ≤ _; omega
    · rw [List.mem_singleton] at hp; subst hp; show l2.length ≤ _; omega)).mono ?_
  rintro e w4 ⟨rfl, hb4⟩
  have he4 : ([⟨A, c, l⟩, ⟨A2, c2, l2⟩] : List Piece).flatMap Piece.l = l ++ l2 := by simp
  rw [he4]
  clear he4
  go_wp2_with fail
  refine next_keep (Keep.below hb4) ?_
  have hb34 : Below w3.heap.size w3 w4 := ((Below.refl _ _).alloc (Nat.le_refl _) _).trans (hb4.mono (by simp))
  clear hb4
  go_wp2_with fail
  refine (rOf_any (l ++ l2) w4 (by have := HL2.out; omega)).mono ?_
  rintro e w5 ⟨rfl, rfl⟩
  go_wp2_with fail
  refine next_keep (Keep.refl _) ?_
  have hr4 := hr3.below hb34
  have hx4 := hx3.below hb34
  have hs4 := run_string (P := Try.prog) HN.out 22 9 5 (c := c) Try.underlying22 Try.underlying5 Try.underlying9 hr4
  go_wp2_with fail
  refine (seal_any A n c l _ HN.out hr4 (by omega)).mono ?_
  rintro e w5 ⟨A5, c5, rfl, hown5, hb5⟩
  clear hs4
  go_wp2_with fail
  refine next_keep (Keep.below hb5) ?_
  have hs5 := run_string (P := Try.prog) (w := w5) (A := A5) (l := sealed l) (n := n + 4) (by rw [sealed_length, HN.out]) 22 9 5 (c := c5) Try.underlying22 Try.underlying5 Try.underlying9 hown5.row
  go_wp2_with fail
  refine (rSeal_any l w5 (by have := HL.out; omega)).mono ?_
  rintro e w6 ⟨rfl, hb6⟩
  clear hs5
  go_wp2_with fail
  refine next_keep (Keep.below hb6) ?_
  have hx6 := (hx4.below hb5).below hb6
  have hs6 := run_string (P := Try.prog) HM.out 22 9 5 (c := c1) Try.underlying22 Try.underlying5 Try.underlying9 hx6
  go_wp2_with fail
  refine ends_normal ?_
  go_wp2_with fail
  go_ret
  exact ⟨rfl, below_all hb1 (below_all hb2 (below_all (w1 := w3) (Below.trans (Below.refl _ _).drew hb3) (below_all hb34 (below_all hb5 hb6))))⟩
end Go.Proofs.Ytdoigdbegijcnaa
