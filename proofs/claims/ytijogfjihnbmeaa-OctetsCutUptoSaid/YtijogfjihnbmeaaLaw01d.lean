/- The law OctetsPuts. Conditions: the lengths fit memory. -/
import Derived.Test.YtijogfjihnbmeaaRefP
import Derived.Test.YtijogfjihnbmeaaLaw01c
namespace Go.Proofs.Ytijogfjihnbmeaa
open Go.RowKit

theorem text_any (B : Nat) (A : Option Addr) (n c : Nat) (width : Int) (s xs : List UInt8) (w : World) (hB : B ≤ w.heap.size) (hown : Own w B 5 1 A n c (bv xs)) (hsz : n + 8 + s.length ≤ 140737488355328) :
    Calls Try.prog 14 #[.slice A n c, .string (str s), .int .i64 width] w fun e w' => ∃ A' n' c', e = .returned (.tuple #[.slice A' n' c', .bool (rt width && ft s.length width)]) ∧
      (xs ++ (if rt width && ft s.length width then be width.toNat s.length ++ s else [])).length = n' ∧
      Own w' B 5 1 A' n' c' (bv (xs ++ (if rt width && ft s.length width then be width.toNat s.length ++ s else []))) ∧ Only w w' (fun k => ownB A c = some k) ∧ (ownB A' c' = ownB A c ∨ ∃ g, w.heap.size ≤ g ∧ ownB A' c' = some g) := by
  have hnx : xs.length = n := by have := hown.1; rw [bv_length] at this; omega
  cases hok : rt width && ft s.length width with
  | false =>
    refine (text_no A n c width s w hok).mono ?_
    rintro e w' ⟨rfl, hb⟩
    exact ⟨A, n, c, rfl, by simpa using hnx, by simpa using hown.below hb, Only.of_below hb _, .inl rfl⟩
  | true =>
    rw [Bool.and_eq_true] at hok
    have hw8 : width.toNat ≤ 8 := by rcases rt_cases hok.1 with rfl | rfl | rfl | rfl <;> decide
    refine (text_yes B A n c width s xs w hB hown hok.1 hok.2 (by omega)).mono ?_
    rintro e w' ⟨A', c', rfl, h1, h2, h3⟩
    rw [if_pos rfl]
    exact ⟨A', _, c', rfl, by simp [be_length, hnx]; omega, by rw [← List.append_assoc]; exact h1, h2, h3⟩

theorem putB_le (width : Int) (l : List Int) : (if rt width && fitAll width l then putB width.toNat l else []).length ≤ l.length * 8 := by
  split
  · rename_i h
    rw [Bool.and_eq_true] at h
    rw [putB_length]
    have : width.toNat ≤ 8 := by rcases rt_cases h.1 with rfl | rfl | rfl | rfl <;> decide
    exact Nat.mul_le_mul_left _ this
  · simp
theorem textB_le (width : Int) (s : List UInt8) : (if rt width && ft s.length width then be width.toNat s.length ++ s else []).length ≤ 8 + s.length := by
  split
  · rename_i h
    rw [Bool.and_eq_true] at h
    rw [List.length_append, be_length]
    have : width.toNat ≤ 8 := by rcases rt_cases h.1 with rfl | rfl | rfl | rfl <;> decide
    omega
  · simp

set_option maxHeartbeats 4000000 in
theorem puts_law (A A2 : Option Addr) (n c n2 c2 : Nat) (l : List UInt8) (width : Int) (l2 : List Int) (w : World) (hn : l.length = n) (hr : Row w A (bv l)) (hn2 : l2.length = n2) (hr2 : Row w A2 (iv l2))
    (hsz : n ≤ 140737488355328) (hsz2 : n2 ≤ 140737488355328) :
    Calls Try.prog 3 #[.slice A n c, .int .i64 width, .slice A2 n2 c2] w fun e w' => e = .returned (.bool true) ∧ Below w.heap.size w w' := by
  have hcv := run_string (P := Try.prog) hn 22 9 5 (c := c) Try.underlying22 Try.underlying5 Try.underlying9 hr
  have HN := Lib.hid hn
  have HN2 := Lib.hid hn2
  clear hn hn2
  by_cases h1 : 5000 < n
  · go_enter Try.func3, Try.ntmps3
    go_wp2_with fail
    refine (alive_any w).mono ?_
    rintro e w1 ⟨rfl, hb1⟩
    go_wp2_with fail
    go_ret
    exact ⟨rfl, hb1⟩
  by_cases h2 : 500 < n2
  · go_enter Try.func3, Try.ntmps3
    go_wp2_with fail
    refine (alive_any w).mono ?_
    rintro e w1 ⟨rfl, hb1⟩
    go_wp2_with fail
    go_ret
    exact ⟨rfl, hb1⟩
  obtain ⟨i0, hi0, hz0, hz1, hz2⟩ := info_parts info_u8
  have hle1 := putB_le width l2
  have hle2 := textB_le width l
  obtain ⟨ok, hok0⟩ : ∃ ok, ok = (rt width && fitAll width l2) := ⟨_, rfl⟩
  obtain ⟨ok2, hok2⟩ : ∃ ok, ok = (rt width && ft l.length width) := ⟨_, rfl⟩
  have HOK := Lib.hid hok0
  have HOK2 := Lib.hid hok2
  rw [← hok0] at hle1
  rw [← hok2] at hle2
  obtain ⟨out, hout⟩ : ∃ out, out = (if ok then putB width.toNat l2 else []) := ⟨_, rfl⟩
  obtain ⟨out2, hout2⟩ : ∃ out, out = (if ok2 then be width.toNat l.length ++ l else []) := ⟨_, rfl⟩
  rw [← hout] at hle1
  rw [← hout2] at hle2
  have HOUT := Lib.hid hout
  have HOUT2 := Lib.hid hout2
  have hcat := run_cat (P := Try.prog) l out (by have := HN.out; have := HN2.out; omega)
  have hcat2 := run_cat (P := Try.prog) l out2 (by have := HN.out; omega)
  have HC1 := Lib.hid hcat
  have HC2 := Lib.hid hcat2
  have HL1 := Lib.hid hle1
  have HL2 := Lib.hid hle2
  have hsrc : Src Try.prog (w.alloc (.cells #[] 5)) 22 (.slice A n c) 1 n (bv l) := Src.slice Try.underlying22 (hr.alloc _) (by rw [bv_length, HN.out, Nat.mul_one]) (bv_one l)
  clear hok0 hok2 hout hout2 hle1 hle2 hcat hcat2
  go_enter Try.func3, Try.ntmps3
  go_wp2_with (at_builtin; refine wpList_app _ rfl _ _ 22 22 rfl w.heap.size 5 i0 _ 1 1 Try.underlying22 hi0 hz0 hz1 hz2 rfl _ 0 0 [] rfl (Own.nil _ _ _ _ _) _ n (bv l) rfl hsrc (by simp only [maxLen]; omega) (by omega) (by simp) ?_; intro A3 c3 w3 hown3 hg3 hb3; rw [Nat.zero_add, List.nil_append] at hown3; rw [Nat.zero_add])
  have hb03 : Below w.heap.size w w3 := ((Below.refl _ _).alloc (Nat.le_refl _) _).grown hg3 (by simp) (fun i hi => by simp [ownB] at hi)
  refine (put_any A3 w.heap.size n c3 width A2 n2 c2 l2 l w3 HN2.out (hr2.below hb03) hb03.size hown3 (fun h => own_away hr2 hown3 (Nat.le_refl _) (iv_ne h)) (by omega)).mono ?_
  rintro e w4 ⟨A4, n4, c4, rfl, hn4, hown4, hon4, hblk4⟩
  rw [← HOK.out, ← HOUT.out] at hn4 hown4
  rw [← HOK.out]
  have hb04 : Below w.heap.size w w4 := hb03.trans (hon4.belowB (fun k hk => (hown3.lt k hk).1) hb03.size)
  clear hcv hsrc hg3 hb3 hon4 hblk4 hown3
  go_wp2_with fail
  refine (rPut_any width A2 n2 c2 l2 w4 HN2.out (hr2.below hb04) (by omega)).mono ?_
  rintro e w5 ⟨rfl, hb5⟩
  rw [← HOK.out, ← HOUT.out]
  have hb05 := below_all hb04 hb5
  have hown5 := hown4.below hb5
  have hr5 := hr.below hb05
  have hsrc : Src Try.prog (w5.alloc (.cells #[] 5)) 22 (.slice A n c) 1 n (bv l) := Src.slice Try.underlying22 (hr5.alloc _) (by rw [bv_length, HN.out, Nat.mul_one]) (bv_one l)
  go_wp2_with (at_builtin; refine wpList_app _ rfl _ _ 22 22 rfl w5.heap.size 5 i0 _ 1 1 Try.underlying22 hi0 hz0 hz1 hz2 rfl _ 0 0 [] rfl (Own.nil _ _ _ _ _) _ n (bv l) rfl hsrc (by simp only [maxLen]; omega) (by omega) (by simp) ?_; intro A6 c6 w6 hown6 hg6 hb6; rw [Nat.zero_add, List.nil_append] at hown6; rw [Nat.zero_add])
  have hb56 : Below w5.heap.size w5 w6 := ((Below.refl _ _).alloc (Nat.le_refl _) _).grown hg6 (by simp) (fun i hi => by simp [ownB] at hi)
  refine (text_any w5.heap.size A6 n c6 width l l w6 hb56.size hown6 (by have := HN.out; omega)).mono ?_
  rintro e w7 ⟨A7, n7, c7, rfl, hn7, hown7, hon7, hblk7⟩
  rw [← HOK2.out, ← HOUT2.out] at hn7 hown7
  rw [← HOK2.out]
  have hb57 : Below w5.heap.size w5 w7 := hb56.trans (hon7.belowB (fun k hk => (hown6.lt k hk).1) hb56.size)
  clear hsrc hg6 hb6 hon7 hblk7 hown6
  go_wp2_with fail
  refine (rText_any l width w7 (by have := HN.out; omega)).mono ?_
  rintro e w8 ⟨rfl, hb8⟩
  rw [← HOK2.out, ← HOUT2.out]
  go_wp2_with fail
  refine (alive_any w8).mono ?_
  rintro e w9 ⟨rfl, hb9⟩
  have hb59 := below_all hb57 (below_all hb8 hb9)
  have hb09 := below_all hb05 hb59
  have hs1 := run_string (P := Try.prog) hn4 22 9 5 (c := c4) Try.underlying22 Try.underlying5 Try.underlying9 (hown5.row.below hb59)
  have hs2 := run_string (P := Try.prog) hn7 22 9 5 (c := c7) Try.underlying22 Try.underlying5 Try.underlying9 ((hown7.row.below hb8).below hb9)
  have hs3 := run_string (P := Try.prog) HN.out 22 9 5 (c := c) Try.underlying22 Try.underlying5 Try.underlying9 (hr.below hb09)
  have hcat1 := HC1.out
  have hcat2 := HC2.out
  go_wp2_with fail
  go_ret
  exact ⟨ret_bool (by simp), hb09⟩
end Go.Proofs.Ytijogfjihnbmeaa
