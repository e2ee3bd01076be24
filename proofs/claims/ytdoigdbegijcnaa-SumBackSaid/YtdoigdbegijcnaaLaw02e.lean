/- The law SumBack. Conditions: the length does not wrap. -/
import Derived.Test.YtdoigdbegijcnaaLaw02c
namespace Go.Proofs.Ytdoigdbegijcnaa
open Go.RowKit

theorem row_four {w : World} {A1 A3 A4 : Option Addr} {n1 c1 n3 c3 n4 c4 : Nat} {l1 l3 l4 : List UInt8} (h1 : l1.length = n1) (h3 : l3.length = n3) (h4 : l4.length = n4) :
    Row (w.alloc (.cells #[.slice A1 n1 c1, .slice none 0 0, .slice A3 n3 c3, .slice A4 n4 c4] 22)) (some ⟨w.heap.size, 0, none⟩) (pv [⟨A1, c1, l1⟩, ⟨none, 0, []⟩, ⟨A3, c3, l3⟩, ⟨A4, c4, l4⟩]) := by
  have e : pv [⟨A1, c1, l1⟩, ⟨none, 0, []⟩, ⟨A3, c3, l3⟩, ⟨A4, c4, l4⟩] = (#[.slice A1 n1 c1, .slice none 0 0, .slice A3 n3 c3, .slice A4 n4 c4] : Array Value).toList := by simp [pv, Piece.val, h1, h3, h4]
  rw [e]
  exact row_new
theorem row_four' {w : World} {k : Nat} {A1 A3 A4 : Option Addr} {n1 c1 n3 c3 n4 c4 : Nat} {l1 l3 l4 : List UInt8} (hk : k = w.heap.size) (h1 : l1.length = n1) (h3 : l3.length = n3) (h4 : l4.length = n4) :
    Row (w.alloc (.cells #[.slice A1 n1 c1, .slice none 0 0, .slice A3 n3 c3, .slice A4 n4 c4] 22)) (some ⟨k, 0, none⟩) (pv [⟨A1, c1, l1⟩, ⟨none, 0, []⟩, ⟨A3, c3, l3⟩, ⟨A4, c4, l4⟩]) := by
  subst hk
  exact row_four h1 h3 h4
theorem row_piece' {w : World} {k : Nat} {A : Option Addr} {n c : Nat} {l : List UInt8} (hk : k = w.heap.size) (hn : l.length = n) : Row (w.alloc (.cells #[.slice A n c] 22)) (some ⟨k, 0, none⟩) (pv [⟨A, c, l⟩]) := by
  subst hk
  exact row_piece hn
theorem pieces_four {w : World} {A1 A3 A4 : Option Addr} {c1 c3 c4 : Nat} {l1 l3 l4 : List UInt8} (h1 : Row w A1 (bv l1)) (h3 : Row w A3 (bv l3)) (h4 : Row w A4 (bv l4)) : Pieces w [⟨A1, c1, l1⟩, ⟨none, 0, []⟩, ⟨A3, c3, l3⟩, ⟨A4, c4, l4⟩] := by
  intro p hp
  simp only [List.mem_cons, List.not_mem_nil, or_false] at hp
  rcases hp with rfl | rfl | rfl | rfl
  · exact h1
  · exact .inl rfl
  · exact h3
  · exact h4
theorem short_four {A1 A3 A4 : Option Addr} {c1 c3 c4 : Nat} {l1 l3 l4 : List UInt8} {m : Nat} (h1 : l1.length ≤ m) (h3 : l3.length ≤ m) (h4 : l4.length ≤ m) : ∀ p, p ∈ ([⟨A1, c1, l1⟩, ⟨none, 0, []⟩, ⟨A3, c3, l3⟩, ⟨A4, c4, l4⟩] : List Piece) → p.l.length ≤ m := by
  intro p hp
  simp only [List.mem_cons, List.not_mem_nil, or_false] at hp
  rcases hp with rfl | rfl | rfl | rfl
  · exact h1
  · exact Nat.zero_le _
  · exact h3
  · exact h4

set_option maxHeartbeats 4000000 in
theorem sumBack_law (A : Option Addr) (n c : Nat) (l : List UInt8) (pos : Int) (too : Int) (w : World) (hn : l.length = n) (hnc : n ≤ c) (hr : Row w A (bv l)) (hsz : n ≤ 140737488355328) :
    Calls Try.prog 4 #[.slice A n c, .int .i64 pos, .int .i64 too] w fun e w' => e = .returned (.bool true) ∧ Below w.heap.size w w' := by
  by_cases hb : 20000 < n
  · go_enter Try.func4, Try.ntmps4
    go_wp2_with fail
    refine (alive_any w).mono ?_
    rintro e w1 ⟨rfl, hb1⟩
    go_wp2_with fail
    go_ret
    exact ⟨rfl, hb1⟩
  by_cases hp0 : pos < 0
  · go_enter Try.func4, Try.ntmps4
    go_wp2_with fail
    refine (alive_any w).mono ?_
    rintro e w1 ⟨rfl, hb1⟩
    go_wp2_with fail
    go_ret
    exact ⟨rfl, hb1⟩
  by_cases ht0 : too < pos
  · go_enter Try.func4, Try.ntmps4
    go_wp2_with fail
    refine (alive_any w).mono ?_
    rintro e w1 ⟨rfl, hb1⟩
    go_wp2_with fail
    go_ret
    exact ⟨rfl, hb1⟩
  by_cases htn : (n : Int) < too
  · go_enter Try.func4, Try.ntmps4
    go_wp2_with fail
    refine (alive_any w).mono ?_
    rintro e w1 ⟨rfl, hb1⟩
    go_wp2_with fail
    go_ret
    exact ⟨rfl, hb1⟩
  obtain ⟨p, rfl⟩ := Int.eq_ofNat_of_zero_le (show 0 ≤ pos by omega)
  obtain ⟨q, rfl⟩ := Int.eq_ofNat_of_zero_le (show 0 ≤ too by omega)
  have hpq : p ≤ q := by omega
  have hqn : q ≤ n := by omega
  have hpq' : (p : Int) ≤ (q : Int) := by omega
  have hqn' : (q : Int) ≤ (n : Int) := by omega
  have hp0' : (0 : Int) ≤ (p : Int) := by omega
  have hq0' : (0 : Int) ≤ (q : Int) := by omega
  have hqc : q ≤ c := by omega
  have hqc' : (q : Int) ≤ (c : Int) := by omega
  have hpc' : (p : Int) ≤ (c : Int) := by omega
  have hpn' : (p : Int) ≤ (n : Int) := by omega
  clear hp0 ht0 htn
  have hl1 : (l.take p).length = p := by rw [List.length_take]; omega
  have hl2 : ((l.drop p).take (q - p)).length = q - p := by rw [List.length_take, List.length_drop]; omega
  have hl3 : (l.drop q).length = n - q := by rw [List.length_drop]; omega
  have hall : l.take p ++ (l.drop p).take (q - p) ++ l.drop q = l := by
    rw [List.append_assoc, show (l.drop p).take (q - p) ++ l.drop q = (l.drop p) from by
      rw [show l.drop q = (l.drop p).drop (q - p) from by rw [List.drop_drop]; congr 1; omega]
      exact List.take_append_drop _ _]
    exact List.take_append_drop _ _
  have HN := Lib.hid hn
  have HL1 := Lib.hid hl1
  have HL2 := Lib.hid hl2
  have HL3 := Lib.hid hl3
  have HALL := Lib.hid hall
  clear hn hl1 hl2 hl3 hall
  go_enter Try.func4, Try.ntmps4
  go_wp2_with fail
  refine (seal_any A n c l w HN.out hr (by omega)).mono ?_
  rintro e w1 ⟨A1, c1, rfl, hown1, hb1⟩
  go_wp2_with fail
  refine (open_any A1 (n + 4) c1 (sealed l) w1 (by rw [sealed_length, HN.out]) hown1.2.1 hown1.row (by omega)).mono ?_
  rintro e w2 ⟨A2, m2, c2, rfl, hm2, _, hx2, hb2⟩
  rw [openedB, opened_sealed] at hm2 hx2
  obtain rfl : n = m2 := by rw [← hm2, ← HN.out]; rfl
  rw [opened_sealed]
  clear hm2
  have hr2 := (hr.below hb1).below hb2
  go_wp2_with fail
  refine wp_region_seq true (.alone 0 (.take 1 .copy (.take 2 .copy (.take 3 .copy (.take 4 .copy (.take 5 .copy (.take 6 (.text 22 5 9) (.take 7 .copy (.take 8 (.text 22 5 9) (.take 9 (.str2 9) (.take 10 .copy (.take 11 .copy (.take 12 .copy (.take 15 .copy (.take 16 .copy (.take 17 .cut (.take 18 .copy (.take 19 .copy (.take 20 .copy (.take 21 .cut (.take 22 .copy (.take 23 .copy (.take 24 .cut (.fork 13 (.fork 14 (.alone 25 (.alone 26 (.take 27 .int2 (.take 28 .copy (.take 29 .copy .fin))))) 25 (.alone 14 (.alone 26 (.take 27 .int2 (.take 28 .copy (.take 29 .copy .fin)))))) 25 (.alone 13 (.alone 14 (.alone 26 (.take 27 .int2 (.take 28 .copy (.take 29 .copy .fin)))))))))))))))))))))))))))))) (by kernel_rfl) (by kernel_rfl) (by kernel_rfl) ?_
  simp only [pre, nxt, List.getElem?_toArray, List.getElem?_cons_zero, List.getElem?_cons_succ, opAt, ghosts, List.nil_append, gInt, gStr, ghost, List.cons_append]
  go_wp2_with fail
  refine (alive_any _).mono ?_
  rintro e w3 ⟨rfl, hb3⟩
  have hr3 := hr2.drew.below hb3
  have hx3 := hx2.drew.below hb3
  have hs1 := run_string (P := Try.prog) HN.out 22 9 5 (c := c) Try.underlying22 Try.underlying5 Try.underlying9 hr3
  have hs2 := run_string (P := Try.prog) HN.out 22 9 5 (c := c2) Try.underlying22 Try.underlying5 Try.underlying9 hx3
  have he1 : ∀ c : Nat, ([⟨A, c, l⟩] : List Piece).flatMap Piece.l = l := fun c => by simp
  have he4 : ∀ (A3 A4 : Option Addr) (c1 c3 c4 : Nat), ([⟨A, c1, l.take p⟩, ⟨none, 0, []⟩, ⟨A3, c3, (l.drop p).take (q - p)⟩, ⟨A4, c4, l.drop q⟩] : List Piece).flatMap Piece.l = l := fun A3 A4 c1 c3 c4 => by
    have := HALL.out
    rw [List.append_assoc] at this
    simpa using this
  have hrP := hr3.take p
  rw [bv_take] at hrP
  have hrM := (hr3.drop p c (by rw [bv_length, HN.out]; exact hnc)).take (q - p)
  rw [bv_drop, bv_take] at hrM
  have hrQ := hr3.drop q c (by rw [bv_length, HN.out]; exact hnc)
  rw [bv_drop] at hrQ
  have hrMa : c = p → Row w3 A (bv ((l.drop p).take (q - p))) := fun h => by rw [if_pos h] at hrM; exact hrM
  have hrMb : ¬ c = p → Row w3 (A.map (·.add p)) (bv ((l.drop p).take (q - p))) := fun h => by rw [if_neg h] at hrM; exact hrM
  have hrQa : c = q → Row w3 A (bv (l.drop q)) := fun h => by rw [if_pos h] at hrQ; exact hrQ
  have hrQb : ¬ c = q → Row w3 (A.map (·.add q)) (bv (l.drop q)) := fun h => by rw [if_neg h] at hrQ; exact hrQ
  clear hrM hrQ
  go_wp2_with fail
  refine next_keep (Keep.below hb3) ?_
  go_wp2_with fail
  all_goals refine next_fork ?_ ?_
  all_goals go_wp2_with fail
  all_goals refine next_keep (Keep.alloc _ _) ?_
  all_goals go_wp2_with fail
  case inl.inl.refine_1 | inr.inl.refine_1 | inr.inr.refine_1 =>
    refine next_fork ?_ ?_
    · go_wp2_with fail
      refine (of_any _ 1 1 [⟨A, _, l⟩] _ rfl (row_piece HN.out) (pieces_one (hr3.alloc _)) (by omega) (by intro p hp; rw [List.mem_singleton] at hp; subst hp; show l.length ≤ _; have := HN.out; omega)).mono ?_
      rintro e w4 ⟨rfl, hb4⟩
      rw [he1]
      have hb34 : Below w3.heap.size w3 w4 := ((Below.refl _ _).alloc (Nat.le_refl _) _).trans (hb4.mono (by simp))
      go_wp2_with fail
      refine next_keep (Keep.below hb4) ?_
      go_wp2_with fail
      refine next_keep (Keep.alloc _ _) ?_
      go_wp2_with fail
      refine (of_any _ 4 4 [⟨A, _, l.take p⟩, ⟨none, 0, []⟩, ⟨_, _, (l.drop p).take (q - p)⟩, ⟨_, _, l.drop q⟩] _ rfl (row_four (by have := HL1.out; omega) (by have := HL2.out; omega) (by have := HL3.out; omega)) (pieces_four ((hrP.below hb34).alloc _) (by first | exact ((hrMa (by omega)).below hb34).alloc _ | exact ((hrMb (by omega)).below hb34).alloc _) (by first | exact ((hrQa (by omega)).below hb34).alloc _ | exact ((hrQb (by omega)).below hb34).alloc _)) (by omega) (short_four (by have := HL1.out; omega) (by have := HL2.out; omega) (by have := HL3.out; omega))).mono ?_
      rintro e w5 ⟨rfl, hb5⟩
      rw [he4 _ _ _ _ _]
      have hb45 : Below w4.heap.size w4 w5 := ((Below.refl _ _).alloc (Nat.le_refl _) _).trans (hb5.mono (by simp))
      go_wp2_with fail
      refine next_keep (Keep.below hb5) ?_
      go_wp2_with fail
      refine ends_normal ?_
      go_wp2_with fail
      go_ret
      exact ⟨rfl, below_all hb1 (below_all hb2 (below_all (w1 := w3) (Below.trans (Below.refl _ _).drew hb3) (below_all hb34 hb45)))⟩
    · go_wp2_with fail
      refine next_keep (Keep.alloc _ _) ?_
      go_wp2_with fail
      refine (of_any _ 1 1 [⟨A, _, l⟩] _ rfl ((row_piece HN.out).alloc _) (pieces_one ((hr3.alloc _).alloc _)) (by omega) (by intro p hp; rw [List.mem_singleton] at hp; subst hp; show l.length ≤ _; have := HN.out; omega)).mono ?_
      rintro e w4 ⟨rfl, hb4⟩
      rw [he1]
      have hb34 : Below w3.heap.size w3 w4 := (((Below.refl _ _).alloc (Nat.le_refl _) _).alloc (by simp) _).trans (hb4.mono (by simp; omega))
      go_wp2_with fail
      refine next_keep (Keep.below hb4) ?_
      go_wp2_with fail
      refine (of_any _ 4 4 [⟨A, _, l.take p⟩, ⟨none, 0, []⟩, ⟨_, _, (l.drop p).take (q - p)⟩, ⟨_, _, l.drop q⟩] _ rfl ((row_four' (by simp) (by have := HL1.out; omega) (by have := HL2.out; omega) (by have := HL3.out; omega)).below hb4) (pieces_four (hrP.below hb34) (by first | exact (hrMa (by omega)).below hb34 | exact (hrMb (by omega)).below hb34) (by first | exact (hrQa (by omega)).below hb34 | exact (hrQb (by omega)).below hb34)) (by omega) (short_four (by have := HL1.out; omega) (by have := HL2.out; omega) (by have := HL3.out; omega))).mono ?_
      rintro e w5 ⟨rfl, hb5⟩
      rw [he4 _ _ _ _ _]
      go_wp2_with fail
      refine next_keep (Keep.below hb5) ?_
      go_wp2_with fail
      refine ends_normal ?_
      go_wp2_with fail
      go_ret
      exact ⟨rfl, below_all hb1 (below_all hb2 (below_all (w1 := w3) (Below.trans (Below.refl _ _).drew hb3) (below_all hb34 hb5)))⟩
  case inl.inl.refine_2 | inr.inl.refine_2 | inr.inr.refine_2 =>
    refine next_keep (Keep.alloc _ _) ?_
    go_wp2_with fail
    refine (of_any _ 1 1 [⟨A, _, l⟩] _ rfl (row_piece' (by simp) HN.out) (pieces_one ((hr3.alloc _).alloc _)) (by omega) (by intro p hp; rw [List.mem_singleton] at hp; subst hp; show l.length ≤ _; have := HN.out; omega)).mono ?_
    rintro e w4 ⟨rfl, hb4⟩
    rw [he1]
    have hb34 : Below w3.heap.size w3 w4 := (((Below.refl _ _).alloc (Nat.le_refl _) _).alloc (by simp) _).trans (hb4.mono (by simp; omega))
    go_wp2_with fail
    refine next_keep (Keep.below hb4) ?_
    go_wp2_with fail
    refine (of_any _ 4 4 [⟨A, _, l.take p⟩, ⟨none, 0, []⟩, ⟨_, _, (l.drop p).take (q - p)⟩, ⟨_, _, l.drop q⟩] _ rfl (((row_four (by have := HL1.out; omega) (by have := HL2.out; omega) (by have := HL3.out; omega)).alloc _).below hb4) (pieces_four (hrP.below hb34) (by first | exact (hrMa (by omega)).below hb34 | exact (hrMb (by omega)).below hb34) (by first | exact (hrQa (by omega)).below hb34 | exact (hrQb (by omega)).below hb34)) (by omega) (short_four (by have := HL1.out; omega) (by have := HL2.out; omega) (by have := HL3.out; omega))).mono ?_
    rintro e w5 ⟨rfl, hb5⟩
    rw [he4 _ _ _ _ _]
    go_wp2_with fail
    refine next_keep (Keep.below hb5) ?_
    go_wp2_with fail
    refine ends_normal ?_
    go_wp2_with fail
    go_ret
    exact ⟨rfl, below_all hb1 (below_all hb2 (below_all (w1 := w3) (Below.trans (Below.refl _ _).drew hb3) (below_all hb34 hb5)))⟩
end Go.Proofs.Ytdoigdbegijcnaa
