/- pentimentoref07: New, Free, with, Same. Conditions: the lengths fit memory. -/
import Derived.Test.YtjkklndpfmemhaaCntN
import Derived.Test.YtjkklndpfmemhaaSeq
namespace Go.Proofs.Ytjkklndpfmemhaa
open Go.RowKit

theorem rNew_bad {n : Int} (h : n < 0 ∨ 512 < n) (w : World) :
    Calls Try.prog 15 #[.int .i64 n] w fun e w' => e = .returned (.tuple #[.slice none 0 0, .bool false]) ∧ w = w' := by
  by_cases h0 : n < 0
  · go_enter Try.func15, Try.ntmps15
    go_wp2_with fail
    go_ret2
    exact ⟨rfl, rfl⟩
  · have h1 : 512 < n := by omega
    go_enter Try.func15, Try.ntmps15
    go_wp2_with fail
    go_ret2
    exact ⟨rfl, rfl⟩

theorem rNew_any (n : Nat) (hn : n ≤ 512) (w : World) :
    Calls Try.prog 15 #[.int .i64 n] w fun e w' => e = .returned (.tuple #[.slice (some ⟨w.heap.size, 0, none⟩) n n, .bool true]) ∧ Row w' (some ⟨w.heap.size, 0, none⟩) (iv (List.replicate n 0)) ∧ Below w.heap.size w w' := by
  obtain ⟨i0, hi0, hz0, hz1, hz2⟩ := info_parts info_int
  have hmk := run_make1 (P := Try.prog) 22 3 i0 _ Try.underlying22 hi0 hz0 hz1 n (by rw [hz2]; omega) (by omega)
  have hown := Own.fresh w (madeCells (Value.int .i64 0).cells n) 3 1 n n 0 0 (iv (List.replicate n 0)) (by simp only [maxLen]; omega) (Nat.le_refl _) (by simp [madeCells, Value.cells]) (by simp [iv]) (by rw [show (Value.int .i64 0).cells = #[.int .i64 0] from rfl, madeCells_one, iv_zeros]; simp) (.inr (Nat.le_refl _))
  have hb0 : ¬ ((n : Int) < 0) := by omega
  have hb1 : ¬ (512 < (n : Int)) := by omega
  go_enter Try.func15, Try.ntmps15
  go_wp2_with fail
  go_ret2
  exact ⟨rfl, hown.row, (Below.refl _ _).alloc (Nat.le_refl _) _⟩

set_option maxHeartbeats 1000000 in
theorem rFree_any (A : Option Addr) (n c : Nat) (l : List Int) (w : World) (hn : l.length = n) (hr : Row w A (iv l)) (hsz : n ≤ 17592186044416) :
    Calls Try.prog 20 #[.slice A n c] w fun e w' => e = .returned (.int .i64 (freeN l)) ∧ w = w' := by
  have HN := Lib.hid hn
  clear hn
  go_enter Try.func20, Try.ntmps20
  go_wp2_with fail
  go_loop [3, 4] (fun x i => ∃ k : Nat, k ≤ n ∧ i = .int .i64 k ∧ x = .int .i64 (freeN (l.take k))) (fun _ i => n - (intOf i).toNat)
  case atStart => exact ⟨0, Nat.zero_le _, rfl, rfl⟩
  case round =>
    obtain ⟨k, hk, rfl, rfl⟩ := hrel
    by_cases hlt : k < n
    · have hkl : k < l.length := by rw [HN.out]; exact hlt
      obtain ⟨b, o, rfl, hb, h4⟩ := hr.icell hkl
      have hft := freeN_take l k hkl
      have hfl := freeN_le (l.take k)
      rw [List.length_take] at hfl
      obtain ⟨f, hf⟩ : ∃ f, f = freeN (l.take k) := ⟨_, rfl⟩
      rw [← hf] at hft hfl ⊢
      clear hf
      have HFT := Lib.hid hft
      clear hft
      by_cases hz : l[k] = 0
      · have HZ := Lib.hid hz
        rw [hz] at h4
        clear hz
        go_wp2_with fail
        go_round
        case rel =>
          refine ⟨k + 1, by omega, by go_num, ?_⟩
          rw [HFT.out, if_pos HZ.out]
          go_num
        case measure => simp [intOf]; omega
      · have HZ := Lib.hid hz
        go_wp2_with fail
        go_round
        case rel =>
          refine ⟨k + 1, by omega, by go_num, ?_⟩
          rw [HFT.out, if_neg HZ.out]
          rfl
        case measure => simp [intOf]; omega
    · obtain rfl : k = n := by omega
      rw [List.take_of_length_le (by rw [HN.out]; exact Nat.le_refl _)]
      go_wp2_with fail
      go_ret
      exact ⟨rfl, rfl⟩

set_option maxHeartbeats 1000000 in
theorem with_any (A : Option Addr) (n c : Nat) (l : List Int) (k : Nat) (x : Int) (w : World) (hn : l.length = n) (hr : Row w A (iv l)) (hsz : n ≤ 512) (hk : k < n) :
    Calls Try.prog 32 #[.slice A n c, .int .i64 k, .int .i64 x] w fun e w' => ∃ A' c', e = .returned (.slice A' n c') ∧ Own w' w.heap.size 3 1 A' n c' (iv (l.set k x)) ∧ Below w.heap.size w w' := by
  obtain ⟨i0, hi0, hz0, hz1, hz2⟩ := info_parts info_int
  have HN := Lib.hid hn
  have hkl : k < l.length := by omega
  clear hn
  obtain ⟨v, hiv⟩ : ∃ v, (iv l)[k]? = some v := ⟨_, iv_at hkl⟩
  have HIV := Lib.hid hiv
  have hset : (iv l).set k (.int .i64 x) = iv (l.set k x) := by simp [iv, List.map_set]
  have HSET := Lib.hid hset
  clear hset hiv hkl
  have hsr1 : Src Try.prog (w.alloc (.cells #[] 3)) 22 (.slice A n c) 1 n (iv l) := Src.slice Try.underlying22 (hr.alloc _) (by rw [iv_length, HN.out, Nat.mul_one]) (iv_one l)
  go_enter Try.func32, Try.ntmps32
  go_wp2_with (at_builtin; refine wpList_app _ rfl _ _ 22 22 rfl w.heap.size 3 i0 _ 1 8 Try.underlying22 hi0 hz0 hz1 hz2 rfl _ 0 0 [] rfl (Own.nil _ _ _ _ _) _ n (iv l) rfl hsr1 (by simp only [maxLen]; omega) (by omega) (by simp) ?_; intro A5 c5 w5 hown5 hg5 hb5; rw [Nat.zero_add, List.nil_append] at hown5; rw [Nat.zero_add]; obtain ⟨g, rfl, hgB, hgs, hob, hcell, hfz, hown6⟩ := hown5.at_ (show k < n by omega) HIV.out)
  go_ret
  have hown7 := hown6 (.int .i64 x)
  rw [HSET.out] at hown7
  exact ⟨_, _, rfl, hown7, (((Below.refl _ _).alloc (Nat.le_refl _) _).grown hg5 (by simp) (fun i hi => by simp [ownB] at hi)).setCell hgB _⟩

set_option maxHeartbeats 1000000 in
theorem same_any (A A2 : Option Addr) (n c n2 c2 : Nat) (l l2 : List Int) (w : World) (hn : l.length = n) (hr : Row w A (iv l)) (hn2 : l2.length = n2) (hr2 : Row w A2 (iv l2)) (hsz : n ≤ 17592186044416) (hsz2 : n2 ≤ 17592186044416) :
    Calls Try.prog 18 #[.slice A n c, .slice A2 n2 c2] w fun e w' => e = .returned (.bool (decide (l = l2))) ∧ Below w.heap.size w w' := by
  have HN := Lib.hid hn
  have HN2 := Lib.hid hn2
  clear hn hn2
  by_cases hnn : n = n2
  · subst hnn
    go_enter Try.func18, Try.ntmps18
    go_wp2_with fail
    go_loopw [5] (fun i wr => ∃ k : Nat, k ≤ n ∧ i = .int .i64 k ∧ Hid (l.take k = l2.take k) ∧ Below w.heap.size w wr) (fun i _ => n - (intOf i).toNat)
    case atStart => exact ⟨0, Nat.zero_le _, rfl, Lib.hid rfl, Below.refl _ _⟩
    case round =>
      obtain ⟨k, hk, rfl, htk, hb⟩ := hrel
      by_cases hlt : k < n
      · have hkl : k < l.length := by rw [HN.out]; exact hlt
        have hkl2 : k < l2.length := by rw [HN2.out]; exact hlt
        obtain ⟨b, o, rfl, hb4, h4⟩ := (hr.below hb).icell hkl
        obtain ⟨b2, o2, rfl, hb5, h5⟩ := (hr2.below hb).icell hkl2
        by_cases hx : l[k] = l2[k]
        · have HX := Lib.hid hx
          rw [hx] at h4
          clear hx
          go_wp2_with fail
          refine wp_region_seq true (.take 0 .copy (.take 1 .copy (.take 2 .addr (.take 3 .load (.take 4 .copy (.take 5 .copy (.take 6 .addr (.take 7 .load (.take 8 .int2 .fin))))))))) (by kernel_rfl) (by kernel_rfl) (by kernel_rfl) ?_
          simp only [pre, nxt, List.getElem?_toArray, List.getElem?_cons_zero, List.getElem?_cons_succ, ghosts, List.nil_append, gInt, ghost, List.cons_append]
          go_wp2_with fail
          refine ends_normal ?_
          go_wp2_with fail
          go_roundw
          case rel => exact ⟨k + 1, by omega, by go_num, Lib.hid (by rw [List.take_succ_eq_append_getElem hkl, List.take_succ_eq_append_getElem hkl2, htk.out, HX.out]), hb.drew⟩
          case measure => simp [intOf]; omega
        · have hd : decide (l = l2) = false := by
            rw [decide_eq_false_iff_not]
            rintro rfl
            exact hx rfl
          have HD := Lib.hid hd
          clear hd
          have hx2 : (l[k] != l2[k]) = true := by simpa using hx
          go_wp2_with fail
          refine wp_region_seq true (.take 0 .copy (.take 1 .copy (.take 2 .addr (.take 3 .load (.take 4 .copy (.take 5 .copy (.take 6 .addr (.take 7 .load (.take 8 .int2 .fin))))))))) (by kernel_rfl) (by kernel_rfl) (by kernel_rfl) ?_
          simp only [pre, nxt, List.getElem?_toArray, List.getElem?_cons_zero, List.getElem?_cons_succ, ghosts, List.nil_append, gInt, ghost, List.cons_append]
          go_wp2_with fail
          refine ends_normal ?_
          go_wp2_with fail
          go_ret
          exact ⟨ret_bool (by rw [HD.out]), hb.drew⟩
      · obtain rfl : k = n := by omega
        have hd : decide (l = l2) = true := by
          have h := htk.out
          rw [List.take_of_length_le (by rw [HN.out]; exact Nat.le_refl _), List.take_of_length_le (by rw [HN2.out]; exact Nat.le_refl _)] at h
          exact decide_eq_true h
        have HD := Lib.hid hd
        clear hd
        go_wp2_with fail
        go_ret
        exact ⟨ret_bool (by rw [HD.out]), hb⟩
  · have hd : decide (l = l2) = false := by
      rw [decide_eq_false_iff_not]
      rintro rfl
      exact hnn (HN.out.symm.trans HN2.out)
    rw [hd]
    clear hd
    have hnn2 : ((n : Int) != (n2 : Int)) = true := by simp; omega
    go_enter Try.func18, Try.ntmps18
    go_wp2_with fail
    go_ret
    exact ⟨rfl, Below.refl _ _⟩
end Go.Proofs.Ytjkklndpfmemhaa
