/- The laws CountsSum and CountsCopies. Conditions: the number of calls fits memory. -/
import Derived.Test.YtjkklndpfmemhaaLaw07c
namespace Go.Proofs.Ytjkklndpfmemhaa
open Go.RowKit

set_option maxHeartbeats 4000000 in
theorem sum_law (x : Int) (A : Option Addr) (m c : Nat) (ps : List Op7) (w : World) (hm : ps.length = m) (hr : Row w A (ocells ps)) (hsz : m ≤ 140737488355328) :
    Calls Try.prog 7 #[.int .i64 x, .slice A m c] w fun e w' => e = .returned (.bool true) ∧ Below w.heap.size w w' := by
  have HM := Lib.hid hm
  clear hm
  by_cases hbad : x < 0 ∨ 512 < x
  · have HB := Lib.hid hbad
    clear hbad
    go_enter Try.func7, Try.ntmps7
    go_wp2_with fail
    refine (bad_new HB.out w).mono ?_
    rintro e w1 ⟨rfl, rfl⟩
    go_wp2_with fail
    refine (alive_any w).mono ?_
    rintro e w2 ⟨rfl, hb2⟩
    go_wp2_with fail
    go_ret
    exact ⟨rfl, hb2⟩
  obtain ⟨n, rfl⟩ := Int.eq_ofNat_of_zero_le (show 0 ≤ x by omega)
  have hn : n ≤ 512 := by omega
  clear hbad
  by_cases hlong : 300 < m
  · go_enter Try.func7, Try.ntmps7
    go_wp2_with fail
    refine (new_any n hn w).mono ?_
    rintro e w1 ⟨rfl, hc1, hb1⟩
    go_wp2_with fail
    refine (alive_any w1).mono ?_
    rintro e w2 ⟨rfl, hb2⟩
    go_wp2_with fail
    go_ret
    exact ⟨rfl, below_all hb1 hb2⟩
  go_enter Try.func7, Try.ntmps7
  go_wp2_with fail
  refine (new_any n hn w).mono ?_
  rintro e w1 ⟨rfl, hc1, hb1⟩
  go_wp2_with fail
  go_loopw [31] (fun i wr => ∃ (k : Nat) (l : List Int) (A' : Option Addr) (c' : Nat), k ≤ m ∧ i = .int .i64 k ∧ Cnt wr w.heap.size (w.heap.size + 1) A' c' l ∧ Hid (Good l) ∧ Below w.heap.size w wr) (fun i _ => m - (intOf i).toNat)
  case atStart => exact ⟨0, List.replicate n 0, _, _, Nat.zero_le _, rfl, hc1, Lib.hid (Good.zeros n hn), hb1⟩
  case round =>
    obtain ⟨k, l, A', c', hk, rfl, hc, hg, hb⟩ := hrel
    by_cases hlt : k < m
    · have hkl : k < ps.length := by rw [HM.out]; exact hlt
      obtain ⟨g2, o2, rfl, hg2, p1, p2, p3⟩ := (hr.below hb).op hkl
      obtain ⟨pp, hpp⟩ : ∃ pp, pp = ps[k] := ⟨_, rfl⟩
      rw [← hpp] at p1 p2 p3
      clear hpp
      go_wp2_with fail
      refine (does_any (hc.alloc _) hg.out pp.k pp.h pp.n).mono ?_
      have hgd := hg.out.do_ pp.k pp.h pp.n
      obtain ⟨t, ht⟩ : ∃ t, t = doF l pp.k pp.h pp.n := ⟨_, rfl⟩
      rw [← ht] at hgd ⊢
      clear ht
      obtain ⟨l2, r2, e2⟩ := t
      rintro e w3 ⟨rfl, A3, c3, hc3, ht3⟩
      have hb3 : Below w.heap.size w w3 := (hb.alloc hb.size _).trans (ht3.belowB (hc.alloc _) (hb.alloc hb.size _).size)
      try simp only at hc3 hgd ⊢
      have hlong2 := hgd.long
      have hfl2 := freeN_le l2
      have hgl2 := Lib.hid hgd
      try simp only at hlong2
      go_wp2_with fail
      refine (plain_any hc3 hlong2).mono ?_
      rintro e w4 ⟨A4, c4, rfl, hown4, hb4⟩
      have hc4 := hc3.below hb4
      have hb04 : Below w.heap.size w w4 := below_all hb3 hb4
      have hrow4 := hown4.row
      obtain ⟨q, hq⟩ : ∃ q, q = l2.length := ⟨_, rfl⟩
      rw [← hq] at hfl2 hlong2 ⊢
      have HQ := Lib.hid hq
      clear hq hown4 hgd
      go_wp2_with fail
      obtain ⟨wo, hwo⟩ : ∃ wo : World, wo = w4 := ⟨_, rfl⟩
      go_loop [9, 41] (fun v i => ∃ j : Nat, j ≤ q ∧ i = .int .i64 j ∧ v = .int .i64 ((j - freeN (l2.take j) : Nat) : Int)) (fun _ i => q - (intOf i).toNat)
      case atStart => exact ⟨0, Nat.zero_le _, rfl, rfl⟩
      case round =>
        obtain ⟨j, hj, rfl, rfl⟩ := hrel
        have hfj := freeN_le (l2.take j)
        rw [List.length_take] at hfj
        by_cases hlt2 : j < q
        · have hjl : j < l2.length := by rw [← HQ.out]; exact hlt2
          obtain ⟨gw, ow, rfl, hgw, hcw⟩ := hrow4.icell hjl
          have hft := freeN_take l2 j hjl
          have hgj := hgl2.out.at_ hjl
          obtain ⟨y, hy⟩ : ∃ y, y = l2[j] := ⟨_, rfl⟩
          rw [← hy] at hcw hft hgj
          clear hy
          obtain ⟨f, hf⟩ : ∃ f, f = freeN (l2.take j) := ⟨_, rfl⟩
          rw [← hf] at hft hfj ⊢
          clear hf
          have HFT := Lib.hid hft
          clear hft
          by_cases hy0 : y = 0
          · subst hy0
            go_wp2_with fail
            go_round
            case rel =>
              refine ⟨j + 1, by omega, by go_num, ?_⟩
              rw [HFT.out, if_pos rfl]
              congr 2
              omega
            case measure => simp [intOf]; omega
          · have hy1 : 0 < y := by omega
            have HY := Lib.hid hy0
            clear hy0
            go_wp2_with fail
            go_round
            case rel =>
              refine ⟨j + 1, by omega, by go_num, ?_⟩
              rw [HFT.out, if_neg HY.out]
              have : j + 1 - (f + 0) = (j - f) + 1 := by omega
              rw [this]
              rfl
            case measure => simp [intOf]; omega
        · obtain rfl : j = q := by omega
          rw [List.take_of_length_le (by rw [← HQ.out]; exact Nat.le_refl _)] at hfj ⊢
          go_wp2_with fail
          refine (free_any hc4 (by rw [← HQ.out]; exact hlong2)).mono ?_
          rintro e w5 ⟨rfl, rfl⟩
          go_wp2_with fail
          refine (len_any hc4).mono ?_
          rw [← HQ.out]
          rintro e w5 ⟨rfl, rfl⟩
          have hsum : ((j - freeN l2 : Nat) : Int) + (freeN l2 : Int) = (j : Int) := by omega
          go_wp2_with fail
          go_roundw
          case rel => exact ⟨k + 1, l2, A3, c3, by omega, by go_num, hc4, hgl2, hb04⟩
          case measure => simp [intOf]; omega
    · obtain rfl : k = m := by omega
      go_wp2_with fail
      refine (alive_any wr).mono ?_
      rintro e w4 ⟨rfl, hb4⟩
      go_wp2_with fail
      go_ret
      exact ⟨rfl, below_all hb hb4⟩

set_option maxHeartbeats 4000000 in
theorem copies_law (x : Int) (A A2 : Option Addr) (m c m2 c2 : Nat) (ps qs : List Op7) (w : World) (hm : ps.length = m) (hr : Row w A (ocells ps)) (hsz : m ≤ 140737488355328) (hm2 : qs.length = m2) (hr2 : Row w A2 (ocells qs)) (hsz2 : m2 ≤ 140737488355328) :
    Calls Try.prog 8 #[.int .i64 x, .slice A m c, .slice A2 m2 c2] w fun e w' => e = .returned (.bool true) ∧ Below w.heap.size w w' := by
  have HM2 := Lib.hid hm2
  clear hm2
  have HM := Lib.hid hm
  clear hm
  by_cases hbad : x < 0 ∨ 512 < x
  · have HB := Lib.hid hbad
    clear hbad
    go_enter Try.func8, Try.ntmps8
    go_wp2_with fail
    refine (bad_new HB.out w).mono ?_
    rintro e w1 ⟨rfl, rfl⟩
    go_wp2_with fail
    refine (alive_any w).mono ?_
    rintro e w2 ⟨rfl, hb2⟩
    go_wp2_with fail
    go_ret
    exact ⟨rfl, hb2⟩
  obtain ⟨n, rfl⟩ := Int.eq_ofNat_of_zero_le (show 0 ≤ x by omega)
  have hn : n ≤ 512 := by omega
  clear hbad
  by_cases hlong : 400 < m + m2
  · go_enter Try.func8, Try.ntmps8
    go_wp2_with fail
    refine (new_any n hn w).mono ?_
    rintro e w1 ⟨rfl, hc1, hb1⟩
    go_wp2_with fail
    refine (alive_any w1).mono ?_
    rintro e w2 ⟨rfl, hb2⟩
    go_wp2_with fail
    go_ret
    exact ⟨rfl, below_all hb1 hb2⟩
  go_enter Try.func8, Try.ntmps8
  go_wp2_with fail
  refine (new_any n hn w).mono ?_
  rintro e w1 ⟨rfl, hc1, hb1⟩
  go_wp2_with fail
  go_loopw [37] (fun i wr => ∃ (k : Nat) (l : List Int) (A' : Option Addr) (c' : Nat), k ≤ m ∧ i = .int .i64 k ∧ Cnt wr w.heap.size (w.heap.size + 1) A' c' l ∧ Hid (Good l) ∧ Below w.heap.size w wr) (fun i _ => m - (intOf i).toNat)
  case atStart => exact ⟨0, List.replicate n 0, _, _, Nat.zero_le _, rfl, hc1, Lib.hid (Good.zeros n hn), hb1⟩
  case round =>
    obtain ⟨k, l, A', c', hk, rfl, hc, hg, hb⟩ := hrel
    by_cases hlt : k < m
    · have hkl : k < ps.length := by rw [HM.out]; exact hlt
      obtain ⟨g2, o2, rfl, hg2, p1, p2, p3⟩ := (hr.below hb).op hkl
      obtain ⟨pp, hpp⟩ : ∃ pp, pp = ps[k] := ⟨_, rfl⟩
      rw [← hpp] at p1 p2 p3
      clear hpp
      go_wp2_with fail
      refine (does_any (hc.alloc _) hg.out pp.k pp.h pp.n).mono ?_
      have hgd := hg.out.do_ pp.k pp.h pp.n
      obtain ⟨t, ht⟩ : ∃ t, t = doF l pp.k pp.h pp.n := ⟨_, rfl⟩
      rw [← ht] at hgd ⊢
      clear ht
      obtain ⟨l2, r2, e2⟩ := t
      rintro e w3 ⟨rfl, A3, c3, hc3, ht3⟩
      have hb3 : Below w.heap.size w w3 := (hb.alloc hb.size _).trans (ht3.belowB (hc.alloc _) (hb.alloc hb.size _).size)
      try simp only at hc3 hgd ⊢
      go_wp2_with fail
      go_roundw
      case rel => exact ⟨k + 1, l2, A3, c3, by omega, by go_num, hc3, Lib.hid hgd, hb3⟩
      case measure => simp [intOf]; omega
    · obtain rfl : k = m := by omega
      have hlong := hg.out.long
      go_wp2_with fail
      refine (plain_any hc hlong).mono ?_
      rintro e w3 ⟨A3, c3, rfl, hown3, hb3⟩
      have hc3 := hc.below hb3
      have hb03 := below_all hb hb3
      have hrow3 := hown3.row
      clear hc hown3
      go_wp2_with fail
      refine (copy_any hc3 hg.out).mono ?_
      rintro e w4 ⟨gd, A4, c4, rfl, hd4, hb4⟩
      have hc4 := hc3.below hb4
      have hrow4 := hrow3.below hb4
      have hb04 := below_all hb03 hb4
      have hs34 : w3.heap.size ≤ w4.heap.size := hb4.size
      have hlow3 : ∀ u, Below w3.heap.size w4 u → Below w.heap.size w4 u := fun u h => h.mono hb03.size
      go_wp2_with fail
      refine (plain_any hd4 hlong).mono ?_
      rintro e w5 ⟨A5, c5, rfl, hown5, hb5⟩
      have hd5 := hd4.below hb5
      have hc5 := hc4.below hb5
      have hrow5 := hrow4.below hb5
      go_wp2_with fail
      refine (same_any A5 A3 l.length c5 l.length c3 l l w5 rfl hown5.row rfl hrow5 (by omega) (by omega)).mono ?_
      rw [decide_eq_true rfl]
      rintro e w6 ⟨rfl, hb6⟩
      have hd6 := hd5.below hb6
      have hb46 : Below w3.heap.size w3 w6 := hb4.trans ((below_all hb5 hb6).mono hs34)
      clear hb5 hb6 hd5 hd4 hown5 hc5 hrow5 hc4 hrow4 hb4 hb04 hlow3 hs34
      go_wp2_with fail
      obtain ⟨wo, rfl⟩ : ∃ wo : World, wo = wr := ⟨_, rfl⟩
      go_loopw [60] (fun i wr => ∃ (j : Nat) (d : List Int) (A' : Option Addr) (c' : Nat), j ≤ m2 ∧ i = .int .i64 j ∧ Cnt wr w3.heap.size gd A' c' d ∧ Hid (Good d) ∧ Below w3.heap.size w3 wr) (fun i _ => m2 - (intOf i).toNat)
      case atStart => exact ⟨0, l, _, _, Nat.zero_le _, rfl, hd6, hg, hb46⟩
      case round =>
        obtain ⟨j, d, Ad, cd, hj, rfl, hd, hgd, hbd⟩ := hrel
        by_cases hlt2 : j < m2
        · have hjl : j < qs.length := by rw [HM2.out]; exact hlt2
          obtain ⟨g2, o2, rfl, hg2, p1, p2, p3⟩ := ((hr2.below hb03).below hbd).op hjl
          obtain ⟨pp, hpp⟩ : ∃ pp, pp = qs[j] := ⟨_, rfl⟩
          rw [← hpp] at p1 p2 p3
          clear hpp
          go_wp2_with fail
          refine (does_any (hd.alloc _) hgd.out pp.k pp.h pp.n).mono ?_
          have hgd2 := hgd.out.do_ pp.k pp.h pp.n
          obtain ⟨t, ht⟩ : ∃ t, t = doF d pp.k pp.h pp.n := ⟨_, rfl⟩
          rw [← ht] at hgd2 ⊢
          clear ht
          obtain ⟨d2, r2, e2⟩ := t
          rintro e w7 ⟨rfl, A7, c7, hd7, ht7⟩
          have hb7 : Below w3.heap.size w3 w7 := (hbd.alloc hbd.size _).trans (ht7.belowB (hd.alloc _) (hbd.alloc hbd.size _).size)
          try simp only at hd7 hgd2 ⊢
          go_wp2_with fail
          go_roundw
          case rel => exact ⟨j + 1, d2, A7, c7, by omega, by go_num, hd7, Lib.hid hgd2, hb7⟩
          case measure => simp [intOf]; omega
        · obtain rfl : j = m2 := by omega
          have hc7 := hc3.below hbd
          have hrow7 := hrow3.below hbd
          go_wp2_with fail
          refine (alive_any wr).mono ?_
          rintro e w8 ⟨rfl, hb8⟩
          have hc8 := hc7.below hb8
          have hrow8 := hrow7.below hb8
          go_wp2_with fail
          refine (plain_any hc8 hg.out.long).mono ?_
          rintro e w9 ⟨A9, c9, rfl, hown9, hb9⟩
          have hrow9 := hrow8.below hb9
          go_wp2_with fail
          refine (same_any A9 A3 l.length c9 l.length c3 l l w9 rfl hown9.row rfl hrow9 (by have := hg.out.long; omega) (by have := hg.out.long; omega)).mono ?_
          rw [decide_eq_true rfl]
          rintro e w10 ⟨rfl, hb10⟩
          go_wp2_with fail
          go_ret
          exact ⟨rfl, below_all hb03 (below_all hbd (below_all hb8 (below_all hb9 hb10)))⟩
end Go.Proofs.Ytjkklndpfmemhaa
