/- pentimentoref03: New, Used, inside, Read. Conditions: the lengths fit memory. -/
import Derived.Test.YtbljacafmkdlmaaRst
namespace Go.Proofs.Ytbljacafmkdlmaa
set_option maxRecDepth 100000
open Go.RowKit
set_option linter.unusedSimpArgs false

theorem Blk.four {w : World} {g : Nat} {t : TypeId} {a b c d : Value} (h : Blk w g t #[a, b, c, d]) : (w.cell? ⟨g, 0, none⟩ = some a ∧ w.cell? ⟨g, 1, none⟩ = some b ∧ w.cell? ⟨g, 2, none⟩ = some c ∧ w.cell? ⟨g, 3, none⟩ = some d) ∧ (w.frozen? ⟨g, 0, none⟩ = false ∧ w.frozen? ⟨g, 1, none⟩ = false ∧ w.frozen? ⟨g, 2, none⟩ = false ∧ w.frozen? ⟨g, 3, none⟩ = false) :=
  ⟨⟨h.cell 0, h.cell 1, h.cell 2, h.cell 3⟩, h.frozen 0, h.frozen 1, h.frozen 2, h.frozen 3⟩

def mayN (n room : Int) : Bool := decide (0 ≤ n) && decide (n ≤ 4096) && decide (0 ≤ room)
set_option maxHeartbeats 1000000 in
theorem rNew_any (n room : Int) (w : World) : Calls Try.prog 31 #[.int .i64 n, .int .i64 room] w
    fun e w' => e = .returned (.tuple #[.agg #[.int .i64 n, .int .i64 room, .slice none 0 0, .int .i64 0], .bool (mayN n room)]) ∧ Below w.heap.size w w' := by
  have hb : ∀ o, Below w.heap.size w (w.alloc o) := fun o => (Below.refl _ _).alloc (Nat.le_refl _) o
  unfold mayN
  by_cases h1 : 0 ≤ n
  · by_cases h2 : n ≤ 4096
    · by_cases h3 : 0 ≤ room
      all_goals
        go_enter Try.func31, Try.ntmps31
        go_wp2_with fail
        refine bodyPost_ret (sresults_row_tmp rfl _ _ _ 27 _ (0, 0) _ rfl (Blk.new w _ _) Try.underlying27 rfl (rst_info _ _ _ _)) rfl ?_
        exact ⟨by simp [h1, h2, h3] <;> omega, hb _⟩
    · go_enter Try.func31, Try.ntmps31
      go_wp2_with fail
      refine bodyPost_ret (sresults_row_tmp rfl _ _ _ 27 _ (0, 0) _ rfl (Blk.new w _ _) Try.underlying27 rfl (rst_info _ _ _ _)) rfl ?_
      exact ⟨by simp [h1, h2] <;> omega, hb _⟩
  · go_enter Try.func31, Try.ntmps31
    go_wp2_with fail
    refine bodyPost_ret (sresults_row_tmp rfl _ _ _ 27 _ (0, 0) _ rfl (Blk.new w _ _) Try.underlying27 rfl (rst_info _ _ _ _)) rfl ?_
    exact ⟨by simp [h1] <;> omega, hb _⟩

set_option maxHeartbeats 1000000 in
theorem rInside_any (n room : Int) (A : Option Addr) (m c : Nat) (k : Int) (a long : Int) (w : World) (hn : 0 ≤ n ∧ n ≤ 4096) (hl : 0 ≤ long) : Calls Try.prog 53 #[.agg #[.int .i64 n, .int .i64 room, .slice A m c, .int .i64 k], .int .i64 a, .int .i64 long] w
    fun e w' => e = .returned (.bool (insideB n a long)) ∧ Below w.heap.size w w' := by
  have hb : ∀ o, Below w.heap.size w (w.alloc o) := fun o => (Below.refl _ _).alloc (Nat.le_refl _) o
  have key : ∀ x, (x = true ↔ (0 ≤ a ∧ a ≤ n) ∧ long ≤ n - a) → x = insideB n a long := fun x hx => by
    rw [insideB_ref hl, Bool.eq_iff_iff, hx]
    simp only [Bool.and_eq_true, decide_eq_true_eq]
  have HK := Lib.hid key
  clear key
  by_cases h1 : 0 ≤ a
  · by_cases h2 : a ≤ n
    · by_cases h3 : long ≤ n - a
      all_goals
        go_enter Try.func53, Try.ntmps53
        go_wp2_with fail
        go_ret
        exact ⟨ret_bool (HK.out _ (by simp <;> omega)), hb _⟩
    · go_enter Try.func53, Try.ntmps53
      go_wp2_with fail
      go_ret
      exact ⟨ret_bool (HK.out _ (by simp <;> omega)), hb _⟩
  · go_enter Try.func53, Try.ntmps53
    go_wp2_with fail
    go_ret
    exact ⟨ret_bool (HK.out _ (by simp <;> omega)), hb _⟩

theorem usedN_step (l : List Wrt) (k : Nat) : usedN l (k + 1) = usedN l k + if (lastW l k).isSome then 1 else 0 := rfl

set_option maxHeartbeats 1000000 in
theorem rUsed_any (n : Nat) (room : Int) (A : Option Addr) (m c k : Nat) (l : List Wrt) (w : World) (hn : n ≤ 4096) (hm : l.length = m) (hr : Row w A (rcells l)) (hsz : m ≤ 9000000000000000000) :
    Calls Try.prog 78 #[.agg #[.int .i64 n, .int .i64 room, .slice A m c, .int .i64 k]] w fun e w' => e = .returned (.int .i64 (usedN l n : Nat)) ∧ Below w.heap.size w w' := by
  have hb0 : Below w.heap.size w (w.alloc (.cells #[.int .i64 n, .int .i64 room, .slice A m c, .int .i64 k] 27)) := (Below.refl _ _).alloc (Nat.le_refl _) _
  have hra := hr.alloc (.cells #[.int .i64 n, .int .i64 room, .slice A m c, .int .i64 k] 27)
  have hblk := Blk.new w 27 #[.int .i64 n, .int .i64 room, .slice A m c, .int .i64 k]
  have hsec := fun (a : Int) u hu => rSector_any n room A m c k l a u hm hu hsz
  have HS := Lib.hid hsec
  clear hm hsec hr
  go_enter Try.func78, Try.ntmps78
  go_wp2_with fail
  go_loopw [3, 4] (fun v i wr => ∃ j : Nat, j ≤ n ∧ i = .int .i64 j ∧ v = .int .i64 (usedN l j : Nat) ∧ Below (w.alloc (.cells #[.int .i64 n, .int .i64 room, .slice A m c, .int .i64 k] 27)).heap.size (w.alloc (.cells #[.int .i64 n, .int .i64 room, .slice A m c, .int .i64 k] 27)) wr)
    (fun _ i _ => n - (intOf i).toNat)
  case atStart => exact ⟨0, Nat.zero_le _, rfl, rfl, Below.refl _ _⟩
  case round =>
    obtain ⟨j, hj, rfl, rfl, hbel⟩ := hrel
    have hblk1 := hblk.belowAll hbel
    have hr1 := hra.below hbel
    obtain ⟨⟨c0, c1, c2, c3⟩, _⟩ := hblk1.four
    by_cases hlt : j < n
    · have hle := usedN_le l j
      have hstep := usedN_step l j
      obtain ⟨U, hU⟩ : ∃ U, U = usedN l j := ⟨_, rfl⟩
      obtain ⟨U2, hU2⟩ : ∃ U2, U2 = usedN l (j + 1) := ⟨_, rfl⟩
      rw [← hU] at hle hstep ⊢
      rw [← hU2] at hstep
      have HU2 := Lib.hid hU2
      clear hU hU2
      have hcall := HS.out (j : Int) wr hr1
      obtain ⟨sx, hsx⟩ : ∃ sx, sx = str (sect l (j : Int)) := ⟨_, rfl⟩
      rw [← hsx] at hcall
      cases hs : (lastW l (j : Int)).isSome
      · rw [hs] at hstep hcall
        rw [if_neg (by simp)] at hstep
        have HSTEP := Lib.hid hstep
        clear hs hstep hsx
        go_wp2_with fail
        refine hcall.mono ?_
        rintro e w2 ⟨rfl, hb2⟩
        go_wp2_with fail
        go_roundw
        case rel => exact ⟨j + 1, by omega, by go_num, by rw [← HU2.out, HSTEP.out]; rfl, below_all hbel hb2⟩
        case measure => simp [intOf]; omega
      · rw [hs] at hstep hcall
        rw [if_pos rfl] at hstep
        have HSTEP := Lib.hid hstep
        clear hs hstep hsx
        go_wp2_with fail
        refine hcall.mono ?_
        rintro e w2 ⟨rfl, hb2⟩
        go_wp2_with fail
        go_roundw
        case rel => exact ⟨j + 1, by omega, by go_num, by rw [← HU2.out, HSTEP.out]; go_num, below_all hbel hb2⟩
        case measure => simp [intOf]; omega
    · obtain rfl : j = n := by omega
      go_wp2_with fail
      go_ret
      exact ⟨rfl, below_all hb0 hbel⟩

set_option maxHeartbeats 1000000 in
theorem rRead_any (n room : Int) (A : Option Addr) (m c k : Nat) (l : List Wrt) (a long : Int) (w : World) (hn : 0 ≤ n ∧ n ≤ 4096) (hm : l.length = m) (hr : Row w A (rcells l)) (hsz : m ≤ 9000000000000000000) (h16 : ∀ x ∈ l, x.2.length = 16) (hl : long ≤ 9223372036854775807) :
    Calls Try.prog 21 #[.agg #[.int .i64 n, .int .i64 room, .slice A m c, .int .i64 k], .int .i64 a, .int .i64 long] w
      fun e w' => e = .returned (.tuple #[.string (str (rdS ⟨n, room, l, k⟩ a long).1), .int .i64 (rdS ⟨n, room, l, k⟩ a long).2]) ∧ Below w.heap.size w w' := by
  have hb0 : Below w.heap.size w (w.alloc (.cells #[.int .i64 n, .int .i64 room, .slice A m c, .int .i64 k] 27)) := (Below.refl _ _).alloc (Nat.le_refl _) _
  by_cases hneg : long < 0
  · have e1 : rdS ⟨n, room, l, k⟩ a long = ([], 1) := by unfold rdS; rw [if_pos hneg]
    have E1 := Lib.hid e1
    clear hm hr e1
    go_enter Try.func21, Try.ntmps21
    go_wp2_with fail
    go_ret2
    rw [E1.out]
    exact ⟨rfl, hb0⟩
  cases hi : insideB n a long
  · have e1 : rdS ⟨n, room, l, k⟩ a long = ([], 31) := by unfold rdS; rw [if_neg hneg, if_pos hi]
    have E1 := Lib.hid e1
    have hin := fun u => rInside_any n room A m c k a long u hn (by omega)
    simp only [hi] at hin
    clear hm hr e1 hi
    go_enter Try.func21, Try.ntmps21
    go_wp2_with fail
    refine (hin _).mono ?_
    rintro e w1 ⟨rfl, hb1⟩
    go_wp2_with fail
    go_ret2
    rw [E1.out]
    exact ⟨rfl, below_all hb0 hb1⟩
  have e1 : rdS ⟨n, room, l, k⟩ a long = (cat l a long.toNat, 0) := by unfold rdS; rw [if_neg hneg, if_neg (by rw [hi]; simp)]
  have hof := insideB_of hi
  have hra := hr.alloc (.cells #[.int .i64 n, .int .i64 room, .slice A m c, .int .i64 k] 27)
  have hblk := Blk.new w 27 #[.int .i64 n, .int .i64 room, .slice A m c, .int .i64 k]
  have hsec := fun (a : Int) u hu => rSector_any n room A m c k l a u hm hu hsz
  have hin := fun u => rInside_any n room A m c k a long u hn (by omega)
  simp only [hi] at hin
  obtain ⟨N, rfl⟩ := Int.eq_ofNat_of_zero_le (show 0 ≤ long by omega)
  rw [Int.toNat_natCast] at e1
  have hN : N ≤ 4096 := by omega
  have haN : a + N ≤ 4096 := by omega
  have hcl := fun j => cat_length h16 a j
  have hs16 : ∀ x, (sect l x).length = 16 := fun x => by
    unfold sect
    cases hx : lastW l x with
    | none => rfl
    | some y => exact h16 _ (lastW_mem hx)
  have E1 := Lib.hid e1
  have HS := Lib.hid hsec
  have HCL := Lib.hid hcl
  have HS16 := Lib.hid hs16
  clear hm hr e1 hi hsec hcl hs16
  go_enter Try.func21, Try.ntmps21
  go_wp2_with fail
  refine (hin _).mono ?_
  rintro e w1 ⟨rfl, hb1⟩
  have hblk1 := hblk.belowAll hb1
  have hra1 := hra.below hb1
  go_wp2_with fail
  go_loopw [8, 9] (fun v i wr => ∃ j : Nat, j ≤ N ∧ i = .int .i64 j ∧ v = .string (str (cat l a j)) ∧ Below w1.heap.size w1 wr)
    (fun _ i _ => N - (intOf i).toNat)
  case atStart => exact ⟨0, Nat.zero_le _, rfl, rfl, Below.refl _ _⟩
  case round =>
    obtain ⟨j, hj, rfl, rfl, hbel⟩ := hrel
    have hblk2 := hblk1.belowAll hbel
    have hr2 := hra1.below hbel
    obtain ⟨⟨c0, c1, c2, c3⟩, _⟩ := hblk2.four
    by_cases hlt : j < N
    · have hcat := fun (u : World) => run_cat (P := Try.prog) (cat l a j) (sect l (a + j)) (by rw [HCL.out, HS16.out]; omega) u
      have hcs : cat l a (j + 1) = cat l a j ++ sect l (a + j) := rfl
      have hcall := HS.out (a + (j : Int)) wr hr2
      obtain ⟨x, hx⟩ : ∃ x, x = sect l (a + (j : Int)) := ⟨_, rfl⟩
      obtain ⟨y, hy⟩ : ∃ y, y = cat l a j := ⟨_, rfl⟩
      obtain ⟨is, his⟩ : ∃ is, is = (lastW l (a + (j : Int))).isSome := ⟨_, rfl⟩
      rw [← hx, ← his] at hcall
      rw [← hx, ← hy] at hcs hcat
      rw [← hy]
      have HCS := Lib.hid hcs
      clear hx hy his hcs
      go_wp2_with fail
      refine hcall.mono ?_
      rintro e w2 ⟨rfl, hb2⟩
      go_wp2_with fail
      go_roundw
      case rel => exact ⟨j + 1, by omega, by go_num, by rw [HCS.out], below_all hbel hb2⟩
      case measure => simp [intOf]; omega
    · obtain rfl : j = N := by omega
      go_wp2_with fail
      go_ret2
      rw [E1.out]
      exact ⟨rfl, below_all (below_all hb0 hb1) hbel⟩
end Go.Proofs.Ytbljacafmkdlmaa
