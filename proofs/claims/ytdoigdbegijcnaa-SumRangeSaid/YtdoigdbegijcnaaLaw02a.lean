/- The laws SumRange and SumNoughts. No condition. -/
import Derived.Test.YtdoigdbegijcnaaAlive02
namespace Go.Proofs.Ytdoigdbegijcnaa
open Go.RowKit

set_option maxHeartbeats 1000000 in
theorem sumRange_law (A : Option Addr) (n c : Nat) (l : List UInt8) (w : World) (hn : l.length = n) (hr : Row w A (bv l)) (hsz : n ≤ 9223372036854775807) :
    Calls Try.prog 6 #[.slice A n c] w fun e w' => e = .returned (.bool true) ∧ Below w.heap.size w w' := by
  by_cases hb : 20000 < n
  · go_enter Try.func6, Try.ntmps6
    go_wp2_with fail
    refine (alive_any w).mono ?_
    rintro e w1 ⟨rfl, hb1⟩
    go_wp2_with fail
    go_ret
    exact ⟨rfl, hb1⟩
  · have hrow := row_piece (w := w) (A := A) (n := n) (c := c) (l := l) hn
    have hlen : l.length ≤ 140737488355328 := by omega
    have h1 := adler_lt l
    have h2 := adler_mod l
    have h3 := adler_div l
    have h4 := ad_lt l
    obtain ⟨s, hs⟩ : ∃ s, s = adler l := ⟨_, rfl⟩
    have h5 : s % 65536 < 65521 := by omega
    have h6 : s / 65536 < 65521 := by omega
    have h7 : s < 4294967296 := by omega
    have HS := Lib.hid hs
    clear h1 h2 h3 h4 hs hn
    go_enter Try.func6, Try.ntmps6
    go_wp2_with fail
    refine (of_any _ 1 1 [⟨A, c, l⟩] _ rfl hrow (pieces_one (hr.alloc _)) (by omega) (by intro p hp; rw [List.mem_singleton] at hp; subst hp; exact hlen)).mono ?_
    rintro e w1 ⟨rfl, hb1⟩
    have hb2 : Below w.heap.size w w1 := ((Below.refl _ _).alloc (Nat.le_refl _) _).trans (hb1.mono (by simp))
    rw [show ([⟨A, c, l⟩] : List Piece).flatMap Piece.l = l from by simp, ← HS.out]
    clear hrow HS hb1
    go_wp2_with fail
    refine (alive_any w1).mono ?_
    rintro e w2 ⟨rfl, hb3⟩
    have e5 : ((s : Int) % 65536 < 65521) := by omega
    have e6 : ((s : Int) / 65536 < 65521) := by omega
    go_wp2_with fail
    go_ret
    exact ⟨rfl, below_all hb2 hb3⟩

set_option maxHeartbeats 1000000 in
theorem sumNoughts_law (m : Int) (w : World) :
    Calls Try.prog 8 #[.int .i64 m] w fun e w' => e = .returned (.bool true) ∧ Below w.heap.size w w' := by
  by_cases hlo : m < 1
  · go_enter Try.func8, Try.ntmps8
    go_wp2_with fail
    refine (alive_any w).mono ?_
    rintro e w1 ⟨rfl, hb1⟩
    go_wp2_with fail
    go_ret
    exact ⟨rfl, hb1⟩
  by_cases hhi : 5000 < m
  · go_enter Try.func8, Try.ntmps8
    go_wp2_with fail
    refine (alive_any w).mono ?_
    rintro e w1 ⟨rfl, hb1⟩
    go_wp2_with fail
    go_ret
    exact ⟨rfl, hb1⟩
  obtain ⟨n, rfl⟩ := Int.eq_ofNat_of_zero_le (show 0 ≤ m by omega)
  obtain ⟨i0, hi0, hz0, hz1, hz2⟩ := info_parts info_u8
  have hmk := run_make1 (P := Try.prog) 22 5 i0 _ Try.underlying22 hi0 hz0 hz1 n (by rw [hz2]; omega) (by omega)
  have hrow : ∀ w1 : World, Row ((w1.alloc (.cells (madeCells (Value.int .u8 0).cells n) 5)).alloc (.cells #[.slice (some ⟨w1.heap.size, 0, none⟩) n n] 22)) (some ⟨w1.heap.size + 1, 0, none⟩)
      (pv [⟨some ⟨w1.heap.size, 0, none⟩, n, List.replicate n 0⟩]) := fun w1 => by
    have h := row_piece (w := w1.alloc (.cells (madeCells (Value.int .u8 0).cells n) 5)) (A := some ⟨w1.heap.size, 0, none⟩) (n := n) (c := n) (l := List.replicate n 0) (by simp)
    rw [World.size_alloc] at h
    exact h
  have hpc : ∀ w1 : World, Pieces ((w1.alloc (.cells (madeCells (Value.int .u8 0).cells n) 5)).alloc (.cells #[.slice (some ⟨w1.heap.size, 0, none⟩) n n] 22))
      [⟨some ⟨w1.heap.size, 0, none⟩, n, List.replicate n 0⟩] := fun w1 => by
    refine pieces_one (Row.alloc ?_ _)
    have e : bv (List.replicate n 0) = (madeCells (Value.int .u8 0).cells n).toList := by
      rw [show (Value.int .u8 0).cells = #[Value.int .u8 0] from rfl, madeCells_one]
      simp [bv]
    rw [e]
    exact row_new
  have HROW := Lib.hid hrow
  have HPC := Lib.hid hpc
  clear hrow hpc
  go_enter Try.func8, Try.ntmps8
  go_wp2_with fail
  refine (alive_any w).mono ?_
  rintro e w1 ⟨rfl, hb1⟩
  go_wp2_with fail
  refine (of_any (some ⟨w1.heap.size + 1, 0, none⟩) 1 1 [⟨some ⟨w1.heap.size, 0, none⟩, n, List.replicate n 0⟩] _ rfl (HROW.out w1) (HPC.out w1) (by omega) (by intro p hp; rw [List.mem_singleton] at hp; subst hp; simp; omega)).mono ?_
  rintro e w2 ⟨rfl, hb2⟩
  have e0 : ([⟨some ⟨w1.heap.size, 0, none⟩, n, List.replicate n 0⟩] : List Piece).flatMap Piece.l = List.replicate n 0 := by simp
  rw [e0, adler_noughts n (by omega)]
  clear e0
  have hb3 : Below w1.heap.size w1 w2 := (((Below.refl _ _).alloc (Nat.le_refl _) _).alloc (by simp only [World.size_alloc]; omega) _).trans (hb2.mono (by simp only [World.size_alloc]; omega))
  clear hb2 hmk
  go_wp2_with fail
  go_ret
  exact ⟨rfl, below_all hb1 hb3⟩
end Go.Proofs.Ytdoigdbegijcnaa
