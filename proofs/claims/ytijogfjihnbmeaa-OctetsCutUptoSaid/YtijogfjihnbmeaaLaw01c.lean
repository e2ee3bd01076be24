/- The law OctetsParts. Conditions: the lengths fit memory. -/
import Derived.Test.YtijogfjihnbmeaaLaw01a
namespace Go.Proofs.Ytijogfjihnbmeaa
open Go.RowKit

theorem fit_append (width : Int) (a b : List Int) : (rt width && fitAll width (a ++ b)) = ((rt width && fitAll width a) && (rt width && fitAll width b)) := by
  unfold fitAll
  rw [List.all_append]
  cases rt width <;> simp
theorem putB_append (W : Nat) (a b : List Int) : putB W (a ++ b) = putB W a ++ putB W b := by simp [putB]
theorem iv_ne {l : List Int} (h : l ≠ []) : iv l ≠ [] := by simpa [iv] using h

set_option maxHeartbeats 2000000 in
theorem parts_law (width : Int) (A A2 : Option Addr) (n c n2 c2 : Nat) (l l2 : List Int) (w : World) (hn : l.length = n) (hr : Row w A (iv l)) (hn2 : l2.length = n2) (hr2 : Row w A2 (iv l2))
    (hsz : n ≤ 140737488355328) (hsz2 : n2 ≤ 140737488355328) :
    Calls Try.prog 5 #[.int .i64 width, .slice A n c, .slice A2 n2 c2] w fun e w' => e = .returned (.bool true) ∧ Below w.heap.size w w' := by
  by_cases hb : 1000 < n + n2
  · go_enter Try.func5, Try.ntmps5
    go_wp2_with fail
    refine (alive_any w).mono ?_
    rintro e w1 ⟨rfl, hb1⟩
    go_wp2_with fail
    go_ret
    exact ⟨rfl, hb1⟩
  obtain ⟨i0, hi0, hz0, hz1, hz2⟩ := info_parts info_int
  have HN := Lib.hid hn
  have HN2 := Lib.hid hn2
  have hok3 := fit_append width l l2
  have hpb := putB_append width.toNat l l2
  obtain ⟨k1, hk1⟩ : ∃ k, k = (rt width && fitAll width l) := ⟨_, rfl⟩
  obtain ⟨k2, hk2⟩ : ∃ k, k = (rt width && fitAll width l2) := ⟨_, rfl⟩
  rw [← hk1, ← hk2] at hok3
  have HK1 := Lib.hid hk1
  have HK2 := Lib.hid hk2
  have HK3 := Lib.hid hok3
  have HPB := Lib.hid hpb
  have hi2 : (iv (l ++ l2)) = iv l ++ iv l2 := iv_append l l2
  have HI := Lib.hid hi2
  clear hn hn2 hk1 hk2 hok3 hpb hi2
  go_enter Try.func5, Try.ntmps5
  go_wp2_with fail
  refine (put_nil width A n c l w HN.out hr (by omega)).mono ?_
  rintro e w1 ⟨A3, n3, c3, rfl, hn3, hown3, hb1⟩
  rw [← HK1.out] at hn3 hown3 ⊢
  go_wp2_with fail
  refine (put_any A3 w.heap.size n3 c3 width A2 n2 c2 l2 _ w1 HN2.out (hr2.below hb1) hb1.size hown3 (fun h => own_away hr2 hown3 (Nat.le_refl _) (iv_ne h)) (by
    rw [← hn3]
    have : (if k1 = true then putB width.toNat l else []).length ≤ n * 8 := by
      split
      · rename_i h
        rw [putB_length, HN.out]
        have h2 := HK1.out
        rw [h] at h2
        have h3 : rt width = true := by have := h2.symm; rw [Bool.and_eq_true] at this; exact this.1
        have : width.toNat ≤ 8 := by rcases rt_cases h3 with rfl | rfl | rfl | rfl <;> decide
        exact Nat.mul_le_mul_left _ this
      · simp
    omega)).mono ?_
  rintro e w2 ⟨A4, n4, c4, rfl, hn4, hown4, hon4, hblk4⟩
  rw [← HK2.out] at hn4 hown4 ⊢
  have hb2 : Below w.heap.size w w2 := hb1.trans (hon4.belowB (fun k hk => (hown3.lt k hk).1) hb1.size)
  have hrb := hr.below hb2
  have hrb2 := hr2.below hb2
  have hsr1 : Src Try.prog (w2.alloc (.cells #[] 3)) 23 (.slice A n c) 1 n (iv l) := Src.slice Try.underlying23 (hrb.alloc _) (by rw [iv_length, HN.out, Nat.mul_one]) (iv_one l)
  go_wp2_with (first
    | (at_builtin; refine wpList_app _ rfl _ _ 23 23 rfl w2.heap.size 3 i0 _ 1 8 Try.underlying23 hi0 hz0 hz1 hz2 rfl _ 0 0 [] rfl (Own.nil _ _ _ _ _) _ n (iv l) rfl hsr1 (by simp only [maxLen]; omega) (by omega) (by simp) ?_; intro A5 c5 w5 hown5 hg5 hb5; rw [Nat.zero_add, List.nil_append] at hown5; rw [Nat.zero_add])
    | (have hb25 : Below w2.heap.size w2 w5 := ((Below.refl _ _).alloc (Nat.le_refl _) _).grown hg5 (by simp) (fun i hi => by simp [ownB] at hi)
       have hsr2 : Src Try.prog w5 23 (.slice A2 n2 c2) 1 n2 (iv l2) := Src.slice Try.underlying23 (hrb2.below hb25) (by rw [iv_length, HN2.out, Nat.mul_one]) (iv_one l2)
       at_builtin; refine wpList_app _ rfl _ _ 23 23 rfl w2.heap.size 3 i0 _ 1 8 Try.underlying23 hi0 hz0 hz1 hz2 rfl A5 n c5 (iv l) rfl hown5 _ n2 (iv l2) rfl hsr2 (by simp only [maxLen]; omega) (by omega) hb25.size ?_; intro A6 c6 w6 hown6 hg6 hb6; rw [← HI.out] at hown6))
  have hb26 : Below w2.heap.size w2 w6 := hb25.grown hg6 hb25.size (fun i hi => (hown5.lt i hi).1)
  refine (put_nil width A6 (n + n2) c6 (l ++ l2) w6 (by rw [List.length_append, HN.out, HN2.out]) hown6.row (by omega)).mono ?_
  rintro e w7 ⟨A7, n7, c7, rfl, hn7, hown7, hb7⟩
  rw [HK3.out] at hn7 hown7 ⊢
  rw [HPB.out] at hn7 hown7
  have hb27 := below_all hb26 hb7
  have hown47 := hown4.below hb27
  have hb07 := below_all hb2 hb27
  clear hsr1 hrb hrb2 hown5 hown6 hown4 hown3
  cases k1 with
  | false =>
    go_wp2_with fail
    refine (alive_any w7).mono ?_
    rintro e w8 ⟨rfl, hb8⟩
    go_wp2_with fail
    go_ret
    exact ⟨rfl, below_all hb07 hb8⟩
  | true =>
    cases k2 with
    | false =>
      go_wp2_with fail
      refine (alive_any w7).mono ?_
      rintro e w8 ⟨rfl, hb8⟩
      go_wp2_with fail
      go_ret
      exact ⟨rfl, below_all hb07 hb8⟩
    | true =>
      rw [if_pos rfl, if_pos rfl] at hn4 hown47
      rw [Bool.and_self, if_pos rfl] at hn7 hown7
      go_wp2_with fail
      refine (alive_any w7).mono ?_
      rintro e w8 ⟨rfl, hb8⟩
      have hs1 := run_string (P := Try.prog) hn4 22 9 5 (c := c4) Try.underlying22 Try.underlying5 Try.underlying9 (hown47.row.below hb8)
      have hs2 := run_string (P := Try.prog) hn7 22 9 5 (c := c7) Try.underlying22 Try.underlying5 Try.underlying9 (hown7.row.below hb8)
      go_wp2_with fail
      go_ret
      exact ⟨rfl, below_all hb07 hb8⟩
end Go.Proofs.Ytijogfjihnbmeaa
