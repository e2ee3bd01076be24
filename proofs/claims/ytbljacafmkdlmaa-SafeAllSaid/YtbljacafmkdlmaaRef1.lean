/- pentimentoref01: Right, limit, Num. No condition. -/
import Derived.Test.YtbljacafmkdlmaaOct1
namespace Go.Proofs.Ytbljacafmkdlmaa
open Go.RowKit

set_option maxHeartbeats 400000 in
theorem rRight_any (width : Int) (w : World) :
    Calls Try.prog 77 #[.int .i64 width] w fun e w' => e = .returned (.bool (rt width)) ∧ w = w' := by
  by_cases h1 : width = 1
  · subst h1
    go_enter Try.func77, Try.ntmps77
    go_wp2
    go_ret
    exact ⟨rfl, rfl⟩
  by_cases h2 : width = 2
  · subst h2
    go_enter Try.func77, Try.ntmps77
    go_wp2
    go_ret
    exact ⟨rfl, rfl⟩
  by_cases h4 : width = 4
  · subst h4
    go_enter Try.func77, Try.ntmps77
    go_wp2
    go_ret
    exact ⟨rfl, rfl⟩
  by_cases h8 : width = 8
  · subst h8
    go_enter Try.func77, Try.ntmps77
    go_wp2
    go_ret
    exact ⟨rfl, rfl⟩
  have e : rt width = false := by simp [rt, h1, h2, h4, h8]
  have e1 : (width == 1) = false := by simpa using h1
  have e2 : (width == 2) = false := by simpa using h2
  have e4 : (width == 4) = false := by simpa using h4
  have e8 : (width == 8) = false := by simpa using h8
  go_enter Try.func77, Try.ntmps77
  go_wp2
  go_ret
  exact ⟨by rw [e]; rfl, rfl⟩

set_option maxHeartbeats 400000 in
theorem limit_any (width : Int) (w : World) (hw : rt width = true) :
    Calls Try.prog 83 #[.int .i64 width] w fun e w' => e = .returned (.int .i64 (lim width)) ∧ w = w' := by
  rcases rt_cases hw with rfl | rfl | rfl | rfl
  · go_enter Try.func83, Try.ntmps83
    go_wp2
    refine wp_loop_rounds 2 ?_
    iterate 2 (rw [rounds_succ]; go_wp2)
    go_ret
    exact ⟨rfl, rfl⟩
  · go_enter Try.func83, Try.ntmps83
    go_wp2
    refine wp_loop_rounds 3 ?_
    iterate 3 (rw [rounds_succ]; go_wp2)
    go_ret
    exact ⟨rfl, rfl⟩
  · go_enter Try.func83, Try.ntmps83
    go_wp2
    refine wp_loop_rounds 5 ?_
    iterate 5 (rw [rounds_succ]; go_wp2)
    go_ret
    exact ⟨rfl, rfl⟩
  · go_enter Try.func83, Try.ntmps83
    go_wp2
    go_ret
    exact ⟨rfl, rfl⟩

/-- string([]byte{b}). -/
theorem run_byte (w : World) (q : Nat) : (convert 23 9 (.slice (some ⟨w.heap.size, 0, none⟩) 1 1)).run Try.prog (w.alloc (.cells #[.int .u8 ((q : Int) % 256)] 5)) =
    .ok (.string (str [UInt8.ofNat (q % 256)])) (w.alloc (.cells #[.int .u8 ((q : Int) % 256)] 5)) := by
  refine run_string (l := [UInt8.ofNat (q % 256)]) rfl _ _ _ Try.underlying23 Try.underlying5 Try.underlying9 (.inr ⟨_, 0, rfl, fun j u hu => ?_⟩)
  rw [World.cell?_alloc_new]
  have e : bv [UInt8.ofNat (q % 256)] = [.int .u8 ((q : Int) % 256)] := by
    simp only [bv, List.map_cons, List.map_nil, toNat_ofNat _ (Nat.mod_lt q (show 0 < 256 by omega))]
    rfl
  rw [e] at hu
  simpa using hu

/-- One number of a width, as the document writes it; nothing, if it does not fit. -/
def numB (width n : Int) : List UInt8 := if rt width && ft n width then be width.toNat n.toNat else []

set_option maxHeartbeats 1000000 in
theorem num_any (n width : Int) (w : World) :
    Calls Try.prog 58 #[.int .i64 n, .int .i64 width] w fun e w' => e = .returned (.string (str (numB width n))) ∧ Below w.heap.size w w' := by
  cases hw : rt width
  · have hn : numB width n = [] := by simp [numB, hw]
    rw [hn]
    clear hn
    go_enter Try.func58, Try.ntmps58
    go_wp2_with (go_at_call 77; refine (rRight_any _ _).mono ?_; rintro e w' ⟨rfl, rfl⟩)
    go_ret
    exact ⟨rfl, Below.refl _ _⟩
  · cases hf : ft n width
    · have hn : numB width n = [] := by simp [numB, hf]
      rw [hn]
      clear hn
      by_cases h0 : n < 0
      · clear hf
        go_enter Try.func58, Try.ntmps58
        go_wp2_with (go_at_call 77; refine (rRight_any _ _).mono ?_; rintro e w' ⟨rfl, rfl⟩)
        go_ret
        exact ⟨rfl, Below.refl _ _⟩
      · have hl : lim width ≤ n := by
          have : ¬ (0 ≤ n ∧ n < lim width) := by
            intro h
            have : ft n width = true := by simpa [ft] using h
            rw [this] at hf
            cases hf
          omega
        clear hf
        go_enter Try.func58, Try.ntmps58
        go_wp2_with (first
          | (go_at_call 77; refine (rRight_any _ _).mono ?_; rintro e w' ⟨rfl, rfl⟩)
          | (go_at_call 83; refine (limit_any _ _ hw).mono ?_; rintro e w' ⟨rfl, rfl⟩))
        go_ret
        exact ⟨rfl, Below.refl _ _⟩
    · have hn : numB width n = be width.toNat n.toNat := by simp [numB, hw, hf]
      rw [hn]
      clear hn
      obtain ⟨h0, hl⟩ := ft_lt hf
      clear hf
      have hl' : ¬ lim width ≤ n := by omega
      obtain ⟨W, rfl⟩ : ∃ W : Nat, width = W := ⟨width.toNat, by rcases rt_cases hw with h | h | h | h <;> omega⟩
      obtain ⟨x, rfl⟩ := Int.eq_ofNat_of_zero_le h0
      have hW8 : W ≤ 8 := by rcases rt_cases hw with h | h | h | h <;> omega
      rw [Int.toNat_natCast, Int.toNat_natCast]
      go_enter Try.func58, Try.ntmps58
      go_wp2_with (first
        | (go_at_call 77; refine (rRight_any _ _).mono ?_; rintro e w' ⟨rfl, rfl⟩)
        | (go_at_call 83; refine (limit_any _ _ hw).mono ?_; rintro e w' ⟨rfl, rfl⟩))
      go_loopw [0, 5, 6] (fun q s i wr => ∃ j : Nat, j ≤ W ∧ i = .int .i64 j ∧ q = .int .i64 (x / 256 ^ j : Nat) ∧ s = .string (str (be j x)) ∧ Below w.heap.size w wr) (fun _ _ i _ => W - (intOf i).toNat)
      case atStart => exact ⟨0, Nat.zero_le _, rfl, by simp, rfl, Below.refl _ _⟩
      case round =>
        obtain ⟨j, hj, rfl, rfl, rfl, hb⟩ := hrel
        obtain ⟨q, hq⟩ : ∃ q, q = x / 256 ^ j := ⟨_, rfl⟩
        have hq63 : q ≤ 9223372036854775807 := by
          have h1 := lim_le hw
          have h2 : q ≤ x := by rw [hq]; exact Nat.div_le_self _ _
          omega
        rw [← hq]
        have HQ := Lib.hid hq
        clear hq
        by_cases hlt : j < W
        · have hcv := run_byte wr q
          have hcat := run_cat (P := Try.prog) [UInt8.ofNat (q % 256)] (be j x) (by rw [be_length]; simp; omega)
          go_wp2_with fail
          go_roundw
          case rel =>
            refine ⟨j + 1, by omega, by go_num, ?_, ?_, hb.alloc hb.size _⟩
            · rw [HQ.out, Nat.pow_succ, ← Nat.div_div_eq_div_mul]
              go_num
            · rw [be_cons, HQ.out]
          case measure => simp [intOf]; omega
        · obtain rfl : j = W := by omega
          go_wp2_with fail
          go_ret
          exact ⟨rfl, hb⟩
end Go.Proofs.Ytbljacafmkdlmaa
