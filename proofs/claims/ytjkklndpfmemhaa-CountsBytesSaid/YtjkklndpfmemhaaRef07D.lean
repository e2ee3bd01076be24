/- pentimentoref07.Do: what it answers. Conditions: the counts may be. -/
import Derived.Test.YtjkklndpfmemhaaRef07
import Derived.Test.YtjkklndpfmemhaaApp0
import Derived.Test.YtjkklndpfmemhaaSeqS
namespace Go.Proofs.Ytjkklndpfmemhaa
open Go.RowKit

def DoPost (w : World) (A : Option Addr) (l : List Int) (t : List Int × Int × Int) (e : Ending) (w' : World) : Prop :=
  ∃ A' c', e = .returned (.tuple #[.slice A' t.1.length c', .int .i64 t.2.1, .int .i64 t.2.2]) ∧ Row w' A' (iv t.1) ∧ Below w.heap.size w w' ∧ (t.1 ≠ [] → ∀ a, A' = some a → (A = some a ∧ l ≠ []) ∨ w.heap.size ≤ a.block)

theorem DoPost.same {w w' : World} {A : Option Addr} {l : List Int} {n c : Nat} (x y : Int) (hn : l.length = n) (hr : Row w A (iv l)) (hb : Below w.heap.size w w') : DoPost w A l (l, x, y) (.returned (.tuple #[.slice A n c, .int .i64 x, .int .i64 y])) w' :=
  ⟨A, c, by rw [← hn], hr.below hb, hb, fun hne _ ha => .inl ⟨ha, hne⟩⟩
theorem DoPost.new {w w1 w' : World} {A A' : Option Addr} {l l0 : List Int} {n c : Nat} (x y : Int) (hn : l.length = n) (hown : Own w' w1.heap.size 3 1 A' n c (iv l)) (hb1 : Below w.heap.size w w1) (hb : Below w.heap.size w w') :
    DoPost w A l0 (l, x, y) (.returned (.tuple #[.slice A' n c, .int .i64 x, .int .i64 y])) w' := by
  obtain ⟨_, hnc, _, h | ⟨g, cur, lo, hi, rfl, hB, _⟩⟩ := id hown
  · have h0 : n = 0 := by omega
    have hl : l = [] := List.eq_nil_of_length_eq_zero (by omega)
    exact ⟨_, c, by rw [← hn], hown.row, hb, fun hne => absurd hl hne⟩
  · refine ⟨_, c, by rw [← hn], hown.row, hb, fun _ a ha => .inr ?_⟩
    injection ha with ha
    subst ha
    exact Nat.le_trans hb1.size hB

set_option maxHeartbeats 4000000 in
theorem rDo_any (A : Option Addr) (n c : Nat) (l : List Int) (K h x : Int) (w : World) (hn : l.length = n) (hr : Row w A (iv l)) (hg : Good l) :
    Calls Try.prog 16 #[.slice A n c, .agg #[.int .i64 K, .int .i64 h, .int .i64 x]] w (DoPost w A l (doF l K h x)) := by
  have hlong := hg.long
  have HN := Lib.hid hn
  have HG := Lib.hid hg
  have hn512 : n ≤ 512 := by omega
  clear hn hg hlong
  have hba := (Below.refl w.heap.size w).alloc (Nat.le_refl _) (.cells #[.int .i64 K, .int .i64 h, .int .i64 x] 37)
  have hra := hr.alloc (.cells #[.int .i64 K, .int .i64 h, .int .i64 x] 37)
  by_cases hK0 : K = 0
  · subst hK0
    have HD : Hid (doF l 0 h x = takeF l) := Lib.hid (do_zero l h x)
    have hpre : (0 ≤ h ∧ h < (n : Int)) ∨ (0 ≤ h ∧ ¬ h < (n : Int)) ∨ ¬ 0 ≤ h := by omega
    rcases hpre with ⟨p1, p2⟩ | ⟨p1, p2⟩ | p1
    all_goals
      go_enter Try.func16, Try.ntmps16
      go_wp2_with fail
      go_loop [8] (fun i => ∃ k : Nat, k ≤ n ∧ i = .int .i64 k ∧ Hid (∀ j, j < k → ∀ x, l[j]? = some x → x ≠ 0)) (fun i => n - (intOf i).toNat)
      case atStart => exact ⟨0, Nat.zero_le _, rfl, Lib.hid fun j hj => by omega⟩
      case round =>
        obtain ⟨k, hk, rfl, hall⟩ := hrel
        by_cases hlt : k < n
        · have hkl : k < l.length := by rw [HN.out]; exact hlt
          obtain ⟨b, o, rfl, hb4, h4⟩ := hra.icell hkl
          by_cases hz : l[k] = 0
          · have HZ := Lib.hid hz
            rw [hz] at h4
            clear hz
            have ht : takeF l = (l.set k 1, (k : Int), 0) := by unfold takeF; rw [firstZ_some hkl HZ.out hall.out]
            have HT := Lib.hid ht
            clear ht
            go_wp2_with fail
            refine (with_any _ n c l k 1 _ HN.out hra hn512 hlt).mono ?_
            rintro e w2 ⟨A2, c2, rfl, hown2, hb2⟩
            go_wp2_with fail
            go_ret3
            rw [HD.out, HT.out]
            exact DoPost.new _ _ (by rw [List.length_set]; exact HN.out) hown2 hba (below_all hba hb2)
          · have HZ := Lib.hid hz
            go_wp2_with fail
            go_round
            case rel =>
              refine ⟨k + 1, by omega, by go_num, Lib.hid fun j hj y hy => ?_⟩
              by_cases hjk : j < k
              · exact hall.out j hjk y hy
              · obtain rfl : j = k := by omega
                rw [List.getElem?_eq_getElem hkl] at hy
                injection hy with hy
                exact hy ▸ HZ.out
            case measure => simp [intOf]; omega
        · have ht : takeF l = (l, 0, 70) := by unfold takeF; rw [firstZ_none (fun j hj => hall.out j (by have := HN.out; omega))]
          have HT := Lib.hid ht
          clear ht
          go_wp2_with fail
          go_ret3
          rw [HD.out, HT.out]
          exact DoPost.same _ _ HN.out hr hba
  by_cases hK12 : K = 1 ∨ K = 2
  · by_cases hin : 0 ≤ h ∧ h < (n : Int)
    · obtain ⟨k, rfl⟩ := Int.eq_ofNat_of_zero_le hin.1
      have hkn : k < n := by omega
      have hkl : k < l.length := by rw [HN.out]; exact hkn
      have hki : (0 : Int) ≤ (k : Int) := by omega
      have hkn2 : (k : Int) < (n : Int) := by omega
      have hat : atF l k = l[k] := atF_in hkl
      have his : isIn (k : Int) l = true := isIn_of hkl
      obtain ⟨y, hy⟩ : ∃ y, y = l[k] := ⟨_, rfl⟩
      obtain ⟨b, o, rfl, hb4, h4⟩ := hra.icell hkl
      have hgy := HG.out.at_ hkl
      rw [← hy] at hat h4 hgy
      clear hy
      by_cases hy0 : y = 0
      · have ht : doF l K k x = (l, 0, 71) := by
          rcases hK12 with rfl | rfl
          · rw [do_one]; unfold moreF; rw [if_pos his, hat, if_pos hy0]
          · rw [do_two]; unfold lessF; rw [if_pos his, hat, if_pos hy0]
        have HT := Lib.hid ht
        clear ht hin his hat
        subst hy0
        rcases hK12 with rfl | rfl
        all_goals
          go_enter Try.func16, Try.ntmps16
          go_wp2_with fail
          go_ret3
          rw [HT.out]
          exact DoPost.same _ _ HN.out hr hba
      rcases hK12 with rfl | rfl
      · by_cases hy1 : y = 65535
        · have ht : doF l 1 k x = (l, 0, 70) := by rw [do_one]; unfold moreF; rw [if_pos his, hat, if_neg hy0, if_pos hy1]
          have HT := Lib.hid ht
          clear ht hin his hat hy0
          subst hy1
          go_enter Try.func16, Try.ntmps16
          go_wp2_with fail
          go_ret3
          rw [HT.out]
          exact DoPost.same _ _ HN.out hr hba
        · have ht : doF l 1 k x = (l.set k (y + 1), 0, 0) := by rw [do_one]; unfold moreF; rw [if_pos his, hat, if_neg hy0, if_neg hy1, Int.toNat_natCast]
          have HT := Lib.hid ht
          clear ht hin his hat
          go_enter Try.func16, Try.ntmps16
          go_wp2_with fail
          refine wp_region_seq true (.take 0 .copy (.take 1 .addr (.take 2 .load (.take 3 .copy (.take 4 .addr (.take 5 .load (.take 6 .addr (.take 7 .load (.take 8 .int2 (.alone 9 (.take 10 .copy (.take 11 .copy (.take 12 .copy .fin))))))))))))) (by kernel_rfl) (by kernel_rfl) (by kernel_rfl) ?_
          simp only [pre, nxt, List.getElem?_toArray, List.getElem?_cons_zero, List.getElem?_cons_succ, opAt, ghosts, List.nil_append, gInt, ghost, List.cons_append]
          go_wp2_with fail
          refine (with_any _ n c l k (y + 1) _ HN.out hra.drew hn512 hkn).mono ?_
          rintro e w2 ⟨A2, c2, rfl, hown2, hb2⟩
          go_wp2_with fail
          refine next_keep (Keep.below hb2) ?_
          go_wp2_with fail
          refine ends_normal ?_
          go_wp2_with fail
          go_ret3
          rw [HT.out]
          exact DoPost.new _ _ (by rw [List.length_set]; exact HN.out) hown2 hba.drew (below_all hba.drew hb2)
      · have ht : doF l 2 k x = (l.set k (y - 1), y - 1, 0) := by rw [do_two]; unfold lessF; rw [if_pos his, hat, if_neg hy0, Int.toNat_natCast]
        have HT := Lib.hid ht
        clear ht hin his hat
        go_enter Try.func16, Try.ntmps16
        go_wp2_with fail
        refine wp_region_seq true (.take 0 .copy (.take 1 .addr (.take 2 .load (.take 3 .copy (.take 4 .addr (.take 5 .load (.take 6 .addr (.take 7 .load (.take 8 .int2 (.take 10 .copy (.take 11 .addr (.take 12 .load (.take 13 .addr (.take 14 .load (.take 15 .int2 (.alone 9 (.take 16 .copy (.take 17 .copy (.take 18 .copy .fin))))))))))))))))))) (by kernel_rfl) (by kernel_rfl) (by kernel_rfl) ?_
        simp only [pre, nxt, List.getElem?_toArray, List.getElem?_cons_zero, List.getElem?_cons_succ, opAt, ghosts, List.nil_append, gInt, ghost, List.cons_append]
        go_wp2_with fail
        refine (with_any _ n c l k (y - 1) _ HN.out hra.drew hn512 hkn).mono ?_
        rintro e w2 ⟨A2, c2, rfl, hown2, hb2⟩
        go_wp2_with fail
        refine next_keep (Keep.below hb2) ?_
        go_wp2_with fail
        refine ends_normal ?_
        go_wp2_with fail
        go_ret3
        rw [HT.out]
        exact DoPost.new _ _ (by rw [List.length_set]; exact HN.out) hown2 hba.drew (below_all hba.drew hb2)
    · have his : isIn h l = false := by
        have := HN.out
        simp only [isIn, Bool.and_eq_false_iff, decide_eq_false_iff_not]
        omega
      have ht : doF l K h x = (l, 0, 1) := by
        rcases hK12 with rfl | rfl
        · rw [do_one]; unfold moreF; rw [his]; rfl
        · rw [do_two]; unfold lessF; rw [his]; rfl
      have HT := Lib.hid ht
      clear ht his
      have hpre : (0 ≤ h ∧ ¬ h < (n : Int)) ∨ ¬ 0 ≤ h := by omega
      clear hin
      rcases hpre with ⟨p1, p2⟩ | p1 <;> rcases hK12 with rfl | rfl
      all_goals
        go_enter Try.func16, Try.ntmps16
        go_wp2_with fail
        go_ret3
        rw [HT.out]
        exact DoPost.same _ _ HN.out hr hba
  have hK1 : K ≠ 1 := fun e => hK12 (.inl e)
  have hK2 : K ≠ 2 := fun e => hK12 (.inr e)
  clear hK12
  have hpre : (0 ≤ h ∧ h < (n : Int)) ∨ (0 ≤ h ∧ ¬ h < (n : Int)) ∨ ¬ 0 ≤ h := by omega
  by_cases hK3 : K = 3
  · subst hK3
    clear hK0 hK1 hK2
    by_cases hin : (0 ≤ h ∧ h < (n : Int)) ∧ 0 ≤ x ∧ x ≤ 65535
    · obtain ⟨⟨p1, p2⟩, p3, p4⟩ := hin
      obtain ⟨k, rfl⟩ := Int.eq_ofNat_of_zero_le p1
      have hkn : k < n := by omega
      have hkl : k < l.length := by rw [HN.out]; exact hkn
      have ht : doF l 3 k x = (l.set k x, 0, 0) := by rw [do_three]; unfold setF; rw [if_pos ⟨isIn_of hkl, p3, p4⟩, Int.toNat_natCast]
      have HT := Lib.hid ht
      clear ht hpre
      go_enter Try.func16, Try.ntmps16
      go_wp2_with fail
      refine (with_any _ n c l k x _ HN.out hra hn512 hkn).mono ?_
      rintro e w2 ⟨A2, c2, rfl, hown2, hb2⟩
      go_wp2_with fail
      go_ret3
      rw [HT.out]
      exact DoPost.new _ _ (by rw [List.length_set]; exact HN.out) hown2 hba (below_all hba hb2)
    · have ht : doF l 3 h x = (l, 0, 1) := by
        rw [do_three]
        unfold setF
        rw [if_neg]
        rintro ⟨h1, h2, h3⟩
        have := HN.out
        simp only [isIn, Bool.and_eq_true, decide_eq_true_eq] at h1
        exact hin ⟨by omega, h2, h3⟩
      have HT := Lib.hid ht
      have hpre2 : ((0 ≤ h ∧ h < (n : Int)) ∧ 0 ≤ x ∧ ¬ x ≤ 65535) ∨ ((0 ≤ h ∧ h < (n : Int)) ∧ ¬ 0 ≤ x) ∨ (0 ≤ h ∧ ¬ h < (n : Int)) ∨ ¬ 0 ≤ h := by omega
      clear ht hin hpre
      rcases hpre2 with ⟨⟨p1, p2⟩, p3, p4⟩ | ⟨⟨p1, p2⟩, p3⟩ | ⟨p1, p2⟩ | p1
      all_goals
        go_enter Try.func16, Try.ntmps16
        go_wp2_with fail
        go_ret3
        rw [HT.out]
        exact DoPost.same _ _ HN.out hr hba
  by_cases hK4 : K = 4
  · subst hK4
    clear hK0 hK1 hK2 hK3
    by_cases hbad : x < (n : Int) ∨ 512 < x
    · have ht : doF l 4 h x = (l, 0, 1) := by
        rw [do_four]
        unfold growF
        rw [if_pos (by have := HN.out; omega)]
      have HT := Lib.hid ht
      have hpre2 : x < (n : Int) ∨ (¬ x < (n : Int) ∧ 512 < x) := by omega
      clear ht hbad
      rcases hpre with ⟨q1, q2⟩ | ⟨q1, q2⟩ | q1 <;> rcases hpre2 with p1 | ⟨p1, p2⟩
      all_goals
        go_enter Try.func16, Try.ntmps16
        go_wp2_with fail
        go_ret3
        rw [HT.out]
        exact DoPost.same _ _ HN.out hr hba
    · obtain ⟨j, rfl⟩ : ∃ j : Nat, x = ((n + j : Nat) : Int) := ⟨(x - n).toNat, by omega⟩
      have ht : doF l 4 h ((n + j : Nat) : Int) = (l ++ List.replicate j 0, 0, 0) := by
        rw [do_four]
        unfold growF
        have := HN.out
        rw [if_neg (by omega), Int.toNat_natCast, show n + j - l.length = j by omega]
      have HT := Lib.hid ht
      have hnj : n + j ≤ 512 := by omega
      have hx1 : ¬ (((n + j : Nat) : Int) < (n : Int)) := by omega
      have hx2 : ¬ (512 < ((n + j : Nat) : Int)) := by omega
      obtain ⟨m, hm⟩ : ∃ m, m = n + j := ⟨_, rfl⟩
      rw [← hm] at hx1 hx2 hnj ⊢
      rw [← hm] at hba hra HT
      have HM := Lib.hid hm
      have hmj : (m : Int) - (n : Int) = (j : Int) := by omega
      have HMJ := Lib.hid hmj
      clear ht hbad hm hmj
      obtain ⟨i0, hi0, hz0, hz1, hz2⟩ := info_parts info_int
      have hsr1 : Src Try.prog ((w.alloc (.cells #[.int .i64 4, .int .i64 h, .int .i64 m] 37)).drew.alloc (.cells #[] 3)) 22 (.slice A n c) 1 n (iv l) := Src.slice Try.underlying22 (hra.drew.alloc _) (by rw [iv_length, HN.out, Nat.mul_one]) (iv_one l)
      have hBo := Blk.new w 37 #[.int .i64 4, .int .i64 h, .int .i64 m]
      rcases hpre with ⟨q1, q2⟩ | ⟨q1, q2⟩ | q1
      all_goals
        go_enter Try.func16, Try.ntmps16
        go_wp2_with fail
        refine wp_region_seqS ((fun u => Blk u w.heap.size 37 #[.int .i64 4, .int .i64 h, .int .i64 m])) (.take 1 .copy (.take 3 .addr (.hold 4 (.take 5 .copy (.take 6 (.len 22) (.take 7 .int2 (.alone 0 (.alone 2 (.alone 8 (.take 9 .copy (.take 10 .copy (.take 11 .copy .fin)))))))))))) (by kernel_rfl) (by kernel_rfl) (by kernel_rfl) ?_ ?_
        · exact hBo.drew
        simp only [preS, nxtS, List.getElem?_toArray, List.getElem?_cons_zero, List.getElem?_cons_succ, opAt, ghosts, List.nil_append, gInt, ghost, List.cons_append]
        go_wp2_with fail
        refine next_hold (.int .i64 m) rfl (hold_cell _ _ rfl ⟨w.heap.size, 2, none⟩ rfl _ _ (fun u h => h.cell 2) rfl Try.underlying3) ?_
        go_wp2_with fail
        refine nextS (hBo.drew.alloc _) ?_
        go_wp2_with (at_builtin; refine wpList_app _ rfl _ _ 22 22 rfl (w.heap.size + 1) 3 i0 _ 1 8 Try.underlying22 hi0 hz0 hz1 hz2 rfl _ 0 0 [] rfl (Own.nil _ _ _ _ _) _ n (iv l) rfl hsr1 (by simp only [maxLen]; omega) (by omega) (by simp) ?_; intro A5 c5 w5 hown5 hg5 hb5; rw [Nat.zero_add, List.nil_append] at hown5; rw [Nat.zero_add])
        have hB5 := (hBo.drew.alloc (.cells #[] 3)).grown hg5 (fun e => by simp [ownB] at e)
        have hb5w : Below w.heap.size w w5 := ((hba.drew.alloc hba.size _).grown hg5 (by simp; omega) (fun i hi => by simp [ownB] at hi))
        have hs5 : w.heap.size + 1 ≤ w5.heap.size := by have := hg5.size; simp at this; omega
        refine nextS hB5 ?_
        go_wp2_with (at_builtin; refine wpList_app0 _ rfl _ _ 22 3 rfl (w.heap.size + 1) 3 .i64 i0 _ (.int .i64 0) 8 Try.underlying22 Try.underlying3 hi0 hz0 hz1 hz2 rfl rfl A5 n c5 _ rfl hown5 j (by first | exact congrArg _ HMJ.out | (simp; rw [HMJ.out]) | (simp; rw [HMJ.out, IntKind.wrap_i64]; omega)) (by have := HM.out; simp only [maxLen]; omega) (by have := HM.out; omega) hs5 ?_; intro A6 c6 w6 hown6 hg6 hb6)
        have hB6 := hB5.grown hg6 (fun e => by have := (hown5.lt _ e).1; omega)
        refine nextS hB6 ?_
        go_wp2_with fail
        refine ends_normal ?_
        go_wp2_with fail
        go_ret3
        rw [HT.out]
        have hown7 : Own w6 (w.alloc (.cells #[.int .i64 4, .int .i64 h, .int .i64 m] 37)).heap.size 3 1 A6 (n + j) c6 (iv (l ++ List.replicate j 0)) := by
          rw [World.size_alloc, iv_append, iv_zeros]
          exact hown6
        exact DoPost.new _ _ (by rw [List.length_append, List.length_replicate, HN.out]) hown7 hba (hb5w.grown hg6 (Nat.le_trans (Nat.le_succ _) hs5) (fun i hi => by have := (hown5.lt i hi).1; omega))
  · have ht : doF l K h x = (l, 0, 0) := do_else l K h x hK0 hK1 hK2 hK3 hK4
    have HT := Lib.hid ht
    clear ht
    rcases hpre with ⟨p1, p2⟩ | ⟨p1, p2⟩ | p1
    all_goals
      go_enter Try.func16, Try.ntmps16
      go_wp2_with fail
      go_ret3
      rw [HT.out]
      exact DoPost.same _ _ HN.out hr hba
end Go.Proofs.Ytjkklndpfmemhaa
