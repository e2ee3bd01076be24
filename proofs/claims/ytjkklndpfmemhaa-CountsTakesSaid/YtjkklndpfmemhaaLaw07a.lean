/- The law CountsTakes. Conditions: the length of the numbers fits memory. -/
import Derived.Test.YtjkklndpfmemhaaDoes
namespace Go.Proofs.Ytjkklndpfmemhaa
open Go.RowKit

def onesZ (n k : Nat) : List Int := List.replicate k 1 ++ List.replicate (n - k) 0
theorem onesZ_length (n k : Nat) (h : k ≤ n) : (onesZ n k).length = n := by unfold onesZ; rw [List.length_append, List.length_replicate, List.length_replicate]; omega
theorem onesZ_all (n : Nat) : onesZ n n = List.replicate n 1 := by unfold onesZ; rw [Nat.sub_self]; simp
theorem onesZ_take (n k : Nat) (h : k < n) : takeF (onesZ n k) = (onesZ n (k + 1), (k : Int), 0) := by
  have hk : k < (onesZ n k).length := by rw [onesZ_length n k (by omega)]; exact h
  have h0 : (onesZ n k)[k] = 0 := by
    have h1 : (onesZ n k)[k]? = some 0 := by
      unfold onesZ
      rw [List.getElem?_append_right (by simp), List.length_replicate, List.getElem?_replicate, if_pos (by omega)]
    rw [List.getElem?_eq_getElem hk] at h1
    exact Option.some.inj h1
  have hf : firstZ (onesZ n k) = some k := firstZ_some hk h0 (fun j hj x hx => by
    unfold onesZ at hx
    rw [List.getElem?_append_left (by simpa using hj)] at hx
    have : x = 1 := by
      rw [List.getElem?_replicate, if_pos hj] at hx
      injection hx with hx
      exact hx.symm
    omega)
  unfold takeF
  rw [hf]
  refine Prod.ext ?_ rfl
  show (onesZ n k).set k 1 = onesZ n (k + 1)
  unfold onesZ
  apply List.ext_getElem?
  intro j
  rw [List.getElem?_set]
  by_cases hkj : k = j
  · subst hkj
    rw [if_pos rfl, if_pos (by simp; omega), List.getElem?_append_left (by simp)]
    simp
  · rw [if_neg hkj]
    by_cases hjk : j < k
    · rw [List.getElem?_append_left (by simpa using hjk), List.getElem?_append_left (by simp; omega), List.getElem?_replicate, List.getElem?_replicate, if_pos hjk, if_pos (by omega)]
    · rw [List.getElem?_append_right (by simp; omega), List.getElem?_append_right (by simp; omega), List.length_replicate, List.length_replicate, List.getElem?_replicate, List.getElem?_replicate]
      by_cases hjn : j < n
      · rw [if_pos (by omega), if_pos (by omega)]
      · rw [if_neg (by omega), if_neg (by omega)]
theorem ones_full (n : Nat) : takeF (List.replicate n 1) = (List.replicate n 1, 0, 70) := by
  unfold takeF
  rw [firstZ_none (fun j hj x hx => by
    rw [List.getElem?_replicate] at hx
    split at hx
    · injection hx with hx
      omega
    · cases hx)]
theorem ones_free (n : Nat) : freeN (List.replicate n 1) = 0 := by
  unfold freeN
  rw [List.countP_eq_zero]
  intro x hx
  rw [List.eq_of_mem_replicate hx]
  decide
theorem ones_good (n : Nat) (h : n ≤ 512) : Good (List.replicate n 1) := ⟨by simpa using h, fun x hx => by rw [List.eq_of_mem_replicate hx]; omega⟩
theorem ones_less (n k : Nat) (h : k < n) : lessF (List.replicate n 1) k = ((List.replicate n 1).set k 0, 0, 0) := by
  have hk : k < (List.replicate n (1 : Int)).length := by simpa using h
  have hat : atF (List.replicate n 1) k = 1 := by rw [atF_in hk]; simp
  unfold lessF
  rw [if_pos (isIn_of hk), hat, if_neg (by omega), Int.toNat_natCast]
  rfl
theorem ones_again (n k : Nat) (h : k < n) : takeF ((List.replicate n 1).set k 0) = (List.replicate n 1, (k : Int), 0) := by
  have hk : k < ((List.replicate n (1 : Int)).set k 0).length := by simpa using h
  have hf : firstZ ((List.replicate n 1).set k 0) = some k := firstZ_some hk (by simp) (fun j hj x hx => by
    rw [List.getElem?_set_ne (by omega), List.getElem?_replicate] at hx
    split at hx
    · injection hx with hx
      omega
    · cases hx)
  unfold takeF
  rw [hf]
  refine Prod.ext ?_ rfl
  show ((List.replicate n (1 : Int)).set k 0).set k 1 = List.replicate n 1
  rw [List.set_set]
  apply List.ext_getElem?
  intro j
  rw [List.getElem?_set]
  by_cases hkj : k = j
  · subst hkj
    rw [if_pos rfl, if_pos (by simpa using h), List.getElem?_replicate, if_pos h]
  · rw [if_neg hkj]
theorem less_out (l : List Int) (h : Int) (hi : isIn h l = false) : lessF l h = (l, 0, 1) := by unfold lessF; rw [hi]; rfl

set_option maxHeartbeats 4000000 in
theorem takes_law (x : Int) (A : Option Addr) (m c : Nat) (fs : List Int) (w : World) (hm : fs.length = m) (hr : Row w A (iv fs)) (hsz : m ≤ 17592186044416) :
    Calls Try.prog 3 #[.int .i64 x, .slice A m c] w fun e w' => e = .returned (.bool true) ∧ Below w.heap.size w w' := by
  have HM := Lib.hid hm
  clear hm
  by_cases hbad : x < 0 ∨ 512 < x
  · have HB := Lib.hid hbad
    clear hbad
    go_enter Try.func3, Try.ntmps3
    go_wp2_with fail
    refine (bad_new HB.out w).mono ?_
    rintro e w1 ⟨rfl, rfl⟩
    go_wp2_with fail
    refine (alive_any w).mono ?_
    rintro e w2 ⟨rfl, hb2⟩
    go_wp2_with fail
    go_ret
    exact ⟨rfl, hb2⟩
  obtain ⟨n, rfl⟩ := Int.eq_ofNat_of_zero_le (show 0 ≤ x by omega)
  have hn : n ≤ 512 := by omega
  clear hbad
  by_cases hlong : 200 < m
  · go_enter Try.func3, Try.ntmps3
    go_wp2_with fail
    refine (new_any n hn w).mono ?_
    rintro e w1 ⟨rfl, hc1, hb1⟩
    go_wp2_with fail
    refine (alive_any w1).mono ?_
    rintro e w2 ⟨rfl, hb2⟩
    go_wp2_with fail
    go_ret
    exact ⟨rfl, below_all hb1 hb2⟩
  go_enter Try.func3, Try.ntmps3
  go_wp2_with fail
  refine (new_any n hn w).mono ?_
  rintro e w1 ⟨rfl, hc1, hb1⟩
  have hc1' : Cnt w1 w.heap.size (w.heap.size + 1) (some ⟨w.heap.size, 0, none⟩) n (onesZ n 0) := by unfold onesZ; simpa using hc1
  clear hc1
  go_wp2_with fail
  go_loopw [36] (fun i wr => ∃ k : Nat, k ≤ n ∧ i = .int .i64 k ∧ Cnt wr w.heap.size (w.heap.size + 1) (some ⟨w.heap.size, 0, none⟩) n (onesZ n k) ∧ Below w.heap.size w wr) (fun i _ => n - (intOf i).toNat)
  case atStart => exact ⟨0, Nat.zero_le _, rfl, hc1', hb1⟩
  case round =>
    obtain ⟨k, hk, rfl, hc, hb⟩ := hrel
    by_cases hlt : k < n
    · go_wp2_with fail
      refine (take_any hc (by rw [onesZ_length n k hk]; exact hn)).mono ?_
      rw [onesZ_take n k hlt]
      rintro e w2 ⟨rfl, hc2, ht2⟩
      go_wp2_with fail
      go_roundw
      case rel => exact ⟨k + 1, by omega, by go_num, hc2, hb.trans (ht2.belowB hc hb.size)⟩
      case measure => simp [intOf]; omega
    · obtain rfl : k = n := by omega
      rw [onesZ_all] at hc
      go_wp2_with fail
      refine (take_any hc (by simpa using hn)).mono ?_
      rw [ones_full]
      rintro e w2 ⟨rfl, hc2, ht2⟩
      have hb2 := hb.trans (ht2.belowB hc hb.size)
      go_wp2_with fail
      obtain ⟨wo, rfl⟩ : ∃ wo : World, wo = wr := ⟨_, rfl⟩
      go_loopw [59] (fun i wr => ∃ j : Nat, j ≤ m ∧ i = .int .i64 j ∧ Cnt wr w.heap.size (w.heap.size + 1) (some ⟨w.heap.size, 0, none⟩) k (List.replicate k 1) ∧ Below w.heap.size w wr) (fun i _ => m - (intOf i).toNat)
      case atStart => exact ⟨0, Nat.zero_le _, rfl, hc2, hb2⟩
      case round =>
        obtain ⟨j, hj, rfl, hc3, hb3⟩ := hrel
        by_cases hlt2 : j < m
        · have hjl : j < fs.length := by rw [HM.out]; exact hlt2
          obtain ⟨g, o, rfl, hg, hcell⟩ := (hr.below hb3).icell hjl
          obtain ⟨y, hy⟩ : ∃ y, y = fs[j] := ⟨_, rfl⟩
          rw [← hy] at hcell
          clear hy
          by_cases hin : 0 ≤ y ∧ y < (k : Int)
          · obtain ⟨i, rfl⟩ := Int.eq_ofNat_of_zero_le hin.1
            have hik : i < k := by omega
            clear hin
            go_wp2_with fail
            refine (less_any hc3 (ones_good k hn) i).mono ?_
            rw [ones_less k i hik]
            rintro e w4 ⟨rfl, hc4, ht4⟩
            have hb4 := hb3.trans (ht4.belowB hc3 hb3.size)
            go_wp2_with fail
            refine (take_any hc4 (by simpa using hn)).mono ?_
            rw [ones_again k i hik]
            rintro e w5 ⟨rfl, hc5, ht5⟩
            have hb5 := hb4.trans (ht5.belowB hc4 hb4.size)
            go_wp2_with fail
            go_roundw
            case rel => exact ⟨j + 1, by omega, by go_num, hc5, hb5⟩
            case measure => simp [intOf]; omega
          · have his : isIn y (List.replicate k (1 : Int)) = false := by
              simp only [isIn, List.length_replicate, Bool.and_eq_false_iff, decide_eq_false_iff_not]
              omega
            have HIS := Lib.hid his
            clear his hin
            go_wp2_with fail
            refine (less_any hc3 (ones_good k hn) y).mono ?_
            rw [less_out _ _ HIS.out]
            rintro e w4 ⟨rfl, hc4, ht4⟩
            have hb4 := hb3.trans (ht4.belowB hc3 hb3.size)
            go_wp2_with fail
            go_roundw
            case rel => exact ⟨j + 1, by omega, by go_num, hc4, hb4⟩
            case measure => simp [intOf]; omega
        · obtain rfl : j = m := by omega
          go_wp2_with fail
          refine (alive_any wr).mono ?_
          rintro e w4 ⟨rfl, hb4⟩
          go_wp2_with fail
          refine (free_any (hc3.below hb4) (by simpa using hn)).mono ?_
          rw [ones_free]
          rintro e w5 ⟨rfl, rfl⟩
          go_wp2_with fail
          go_ret
          exact ⟨rfl, below_all hb3 hb4⟩
end Go.Proofs.Ytjkklndpfmemhaa
