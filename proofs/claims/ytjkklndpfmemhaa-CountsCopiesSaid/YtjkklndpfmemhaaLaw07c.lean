/- The laws CountsBoth and CountsGrows. Conditions: the number of calls fits memory. -/
import Derived.Test.YtjkklndpfmemhaaDoes
import Derived.Test.YtjkklndpfmemhaaRef07
import Derived.Test.YtjkklndpfmemhaaOps
namespace Go.Proofs.Ytjkklndpfmemhaa
open Go.RowKit

theorem Own.ge {w : World} {B : Nat} {e : TypeId} {A : Option Addr} {n c : Nat} {l : List Int} (h : Own w B e 1 A n c (iv l)) (hne : iv l ≠ []) : ∀ a, A = some a → B ≤ a.block := by
  intro a ha
  obtain ⟨hl, hnc, _, h | ⟨g, cur, lo, hi, rfl, hB, _⟩⟩ := h
  · exact absurd (List.eq_nil_of_length_eq_zero (by omega)) hne
  · injection ha with ha
    subst ha
    exact hB

/-- Either More refuses, and nothing turns; or Less takes it back. -/
theorem more_back (l : List Int) (hg : Good l) (h : Int) : ((moreF l h).2 ≠ 0 ∧ (moreF l h).1 = l) ∨ ∃ k : Nat, ∃ hk : k < l.length, h = (k : Int) ∧ (moreF l h).2 = 0 ∧ lessF (moreF l h).1 h = (l, l[k], 0) := by
  cases hi : isIn h l
  · left
    unfold moreF
    rw [hi]
    exact ⟨by simp, rfl⟩
  · obtain ⟨k, rfl, hk⟩ := isIn_true hi
    have hat := atF_in hk
    have hgk := hg.at_ hk
    by_cases h0 : l[k] = 0
    · left
      unfold moreF
      rw [if_pos hi, hat, if_pos h0]
      exact ⟨by simp, rfl⟩
    by_cases h1 : l[k] = 65535
    · left
      unfold moreF
      rw [if_pos hi, hat, if_neg h0, if_pos h1]
      exact ⟨by simp, rfl⟩
    right
    refine ⟨k, hk, rfl, ?_, ?_⟩
    · unfold moreF
      rw [if_pos hi, hat, if_neg h0, if_neg h1]
    · have hm : moreF l k = (l.set k (l[k] + 1), 0) := by unfold moreF; rw [if_pos hi, hat, if_neg h0, if_neg h1, Int.toNat_natCast]
      have hk2 : k < (l.set k (l[k] + 1)).length := by rw [List.length_set]; exact hk
      have hat2 : atF (l.set k (l[k] + 1)) k = l[k] + 1 := by rw [atF_in hk2]; simp
      rw [hm]
      unfold lessF
      rw [if_pos (isIn_of hk2), hat2, if_neg (by omega), Int.toNat_natCast]
      simp

set_option maxHeartbeats 4000000 in
theorem both_law (x h : Int) (A : Option Addr) (m c : Nat) (ps : List Op7) (w : World) (hm : ps.length = m) (hr : Row w A (ocells ps)) (hsz : m ≤ 140737488355328) :
    Calls Try.prog 5 #[.int .i64 x, .slice A m c, .int .i64 h] w fun e w' => e = .returned (.bool true) ∧ Below w.heap.size w w' := by
  have HM := Lib.hid hm
  clear hm
  by_cases hbad : x < 0 ∨ 512 < x
  · have HB := Lib.hid hbad
    clear hbad
    go_enter Try.func5, Try.ntmps5
    go_wp2_with fail
    refine (bad_new HB.out w).mono ?_
    rintro e w1 ⟨rfl, rfl⟩
    go_wp2_with fail
    refine (alive_any w).mono ?_
    rintro e w2 ⟨rfl, hb2⟩
    go_wp2_with fail
    go_ret
    exact ⟨rfl, hb2⟩
  obtain ⟨n, rfl⟩ := Int.eq_ofNat_of_zero_le (show 0 ≤ x by omega)
  have hn : n ≤ 512 := by omega
  clear hbad
  by_cases hlong : 300 < m
  · go_enter Try.func5, Try.ntmps5
    go_wp2_with fail
    refine (new_any n hn w).mono ?_
    rintro e w1 ⟨rfl, hc1, hb1⟩
    go_wp2_with fail
    refine (alive_any w1).mono ?_
    rintro e w2 ⟨rfl, hb2⟩
    go_wp2_with fail
    go_ret
    exact ⟨rfl, below_all hb1 hb2⟩
  go_enter Try.func5, Try.ntmps5
  go_wp2_with fail
  refine (new_any n hn w).mono ?_
  rintro e w1 ⟨rfl, hc1, hb1⟩
  go_wp2_with fail
  go_loopw [34] (fun i wr => ∃ (k : Nat) (l : List Int) (A' : Option Addr) (c' : Nat), k ≤ m ∧ i = .int .i64 k ∧ Cnt wr w.heap.size (w.heap.size + 1) A' c' l ∧ Hid (Good l) ∧ Below w.heap.size w wr) (fun i _ => m - (intOf i).toNat)
  case atStart => exact ⟨0, List.replicate n 0, _, _, Nat.zero_le _, rfl, hc1, Lib.hid (Good.zeros n hn), hb1⟩
  case round =>
    obtain ⟨k, l, A', c', hk, rfl, hc, hg, hb⟩ := hrel
    by_cases hlt : k < m
    · have hkl : k < ps.length := by rw [HM.out]; exact hlt
      obtain ⟨g2, o2, rfl, hg2, p1, p2, p3⟩ := (hr.below hb).op hkl
      obtain ⟨pp, hpp⟩ : ∃ pp, pp = ps[k] := ⟨_, rfl⟩
      rw [← hpp] at p1 p2 p3
      clear hpp
      go_wp2_with fail
      refine (does_any (hc.alloc _) hg.out pp.k pp.h pp.n).mono ?_
      have hgd := hg.out.do_ pp.k pp.h pp.n
      obtain ⟨t, ht⟩ : ∃ t, t = doF l pp.k pp.h pp.n := ⟨_, rfl⟩
      rw [← ht] at hgd ⊢
      clear ht
      obtain ⟨l2, r2, e2⟩ := t
      rintro e w3 ⟨rfl, A3, c3, hc3, ht3⟩
      have hb3 : Below w.heap.size w w3 := (hb.alloc hb.size _).trans (ht3.belowB (hc.alloc _) (hb.alloc hb.size _).size)
      try simp only at hc3 hgd ⊢
      go_wp2_with fail
      go_roundw
      case rel => exact ⟨k + 1, l2, A3, c3, by omega, by go_num, hc3, Lib.hid hgd, hb3⟩
      case measure => simp [intOf]; omega
    · obtain rfl : k = m := by omega
      have hlong := hg.out.long
      go_wp2_with fail
      refine (plain_any hc hlong).mono ?_
      rintro e w3 ⟨A3, c3, rfl, hown3, hb3⟩
      have hc3 := hc.below hb3
      have ha3 : Away w3 A3 (iv l) (Foot (w.heap.size + 1) A' c') := Away.new hown3.row hc (fun hne a ha => hown3.ge hne a ha)
      have hb03 := below_all hb hb3
      clear hc
      go_wp2_with fail
      refine (more_any hc3 hg.out h).mono ?_
      rintro e w4 ⟨rfl, hc4, ht4⟩
      have ha4 := ha3.turned ht4
      have hb04 : Below w.heap.size w w4 := hb03.trans (ht4.belowB hc3 hb03.size)
      rcases more_back l hg.out h with ⟨hne, hsame⟩ | ⟨j, hj, rfl, hz, hless⟩
      · rw [hsame] at hc4
        obtain ⟨z, hz⟩ : ∃ z, z = (moreF l h).2 := ⟨_, rfl⟩
        rw [← hz] at hne ⊢
        have HZ := Lib.hid hz
        clear hz hsame
        have hz1 : (z != 0) = true := by simpa using hne
        go_wp2_with fail
        refine (alive_any w4).mono ?_
        rintro e w5 ⟨rfl, hb5⟩
        have hc5 := hc4.below hb5
        have ha5 := ha4.below hb5
        go_wp2_with fail
        refine (plain_any hc5 hlong).mono ?_
        rintro e w6 ⟨A6, c6, rfl, hown6, hb6⟩
        have ha6 := ha5.below hb6
        go_wp2_with fail
        refine (same_any A6 A3 l.length c6 l.length c3 l l w6 rfl hown6.row rfl ha6.row (by omega) (by omega)).mono ?_
        rw [decide_eq_true rfl]
        rintro e w7 ⟨rfl, hb7⟩
        go_wp2_with fail
        go_ret
        exact ⟨rfl, below_all hb04 (below_all hb5 (below_all hb6 hb7))⟩
      · rw [hz]
        have hgm := hg.out.more_ j
        have hl := less_any hc4 hgm j
        rw [hless] at hl
        have HL := Lib.hid hl
        clear hl hless hz
        go_wp2_with fail
        refine HL.out.mono ?_
        rintro e w5 ⟨rfl, hc5, ht5⟩
        have ha5 := ha4.turned ht5
        have hb05 : Below w.heap.size w w5 := hb04.trans (ht5.belowB hc4 hb04.size)
        go_wp2_with fail
        refine (alive_any w5).mono ?_
        rintro e w6 ⟨rfl, hb6⟩
        have hc6 := hc5.below hb6
        have ha6 := ha5.below hb6
        obtain ⟨gw, ow, rfl, hgw, hcw⟩ := ha6.row.icell hj
        have hjl : (j : Int) < (l.length : Int) := by omega
        go_wp2_with fail
        refine (plain_any hc6 hlong).mono ?_
        rintro e w7 ⟨A7, c7, rfl, hown7, hb7⟩
        have ha7 := ha6.below hb7
        go_wp2_with fail
        refine (same_any A7 _ l.length c7 l.length c3 l l w7 rfl hown7.row rfl ha7.row (by omega) (by omega)).mono ?_
        rw [decide_eq_true rfl]
        rintro e w8 ⟨rfl, hb8⟩
        go_wp2_with fail
        go_ret
        exact ⟨rfl, below_all hb05 (below_all hb6 (below_all hb7 hb8))⟩

theorem grow_back (l : List Int) (hg : Good l) (n : Int) : ((growF l n).2 = 1 ∧ (growF l n).1 = l) ∨ ∃ j : Nat, n = ((l.length + j : Nat) : Int) ∧ l.length + j ≤ 512 ∧ growF l n = (l ++ List.replicate j 0, 0) := by
  unfold growF
  split
  · exact .inl ⟨rfl, rfl⟩
  · have := hg.long
    refine .inr ⟨(n - l.length).toNat, by omega, by omega, ?_⟩
    congr 3
    omega
theorem free_grown (l : List Int) (j : Nat) : freeN (l ++ List.replicate j 0) = freeN l + j := by
  unfold freeN
  rw [List.countP_append, List.countP_replicate]
  simp

set_option maxHeartbeats 4000000 in
theorem grows_law (x h : Int) (A : Option Addr) (m c : Nat) (ps : List Op7) (w : World) (hm : ps.length = m) (hr : Row w A (ocells ps)) (hsz : m ≤ 140737488355328) :
    Calls Try.prog 6 #[.int .i64 x, .slice A m c, .int .i64 h] w fun e w' => e = .returned (.bool true) ∧ Below w.heap.size w w' := by
  have HM := Lib.hid hm
  clear hm
  by_cases hbad : x < 0 ∨ 512 < x
  · have HB := Lib.hid hbad
    clear hbad
    go_enter Try.func6, Try.ntmps6
    go_wp2_with fail
    refine (bad_new HB.out w).mono ?_
    rintro e w1 ⟨rfl, rfl⟩
    go_wp2_with fail
    refine (alive_any w).mono ?_
    rintro e w2 ⟨rfl, hb2⟩
    go_wp2_with fail
    go_ret
    exact ⟨rfl, hb2⟩
  obtain ⟨n, rfl⟩ := Int.eq_ofNat_of_zero_le (show 0 ≤ x by omega)
  have hn : n ≤ 512 := by omega
  clear hbad
  by_cases hlong : 300 < m
  · go_enter Try.func6, Try.ntmps6
    go_wp2_with fail
    refine (new_any n hn w).mono ?_
    rintro e w1 ⟨rfl, hc1, hb1⟩
    go_wp2_with fail
    refine (alive_any w1).mono ?_
    rintro e w2 ⟨rfl, hb2⟩
    go_wp2_with fail
    go_ret
    exact ⟨rfl, below_all hb1 hb2⟩
  go_enter Try.func6, Try.ntmps6
  go_wp2_with fail
  refine (new_any n hn w).mono ?_
  rintro e w1 ⟨rfl, hc1, hb1⟩
  go_wp2_with fail
  go_loopw [34] (fun i wr => ∃ (k : Nat) (l : List Int) (A' : Option Addr) (c' : Nat), k ≤ m ∧ i = .int .i64 k ∧ Cnt wr w.heap.size (w.heap.size + 1) A' c' l ∧ Hid (Good l) ∧ Below w.heap.size w wr) (fun i _ => m - (intOf i).toNat)
  case atStart => exact ⟨0, List.replicate n 0, _, _, Nat.zero_le _, rfl, hc1, Lib.hid (Good.zeros n hn), hb1⟩
  case round =>
    obtain ⟨k, l, A', c', hk, rfl, hc, hg, hb⟩ := hrel
    by_cases hlt : k < m
    · have hkl : k < ps.length := by rw [HM.out]; exact hlt
      obtain ⟨g2, o2, rfl, hg2, p1, p2, p3⟩ := (hr.below hb).op hkl
      obtain ⟨pp, hpp⟩ : ∃ pp, pp = ps[k] := ⟨_, rfl⟩
      rw [← hpp] at p1 p2 p3
      clear hpp
      go_wp2_with fail
      refine (does_any (hc.alloc _) hg.out pp.k pp.h pp.n).mono ?_
      have hgd := hg.out.do_ pp.k pp.h pp.n
      obtain ⟨t, ht⟩ : ∃ t, t = doF l pp.k pp.h pp.n := ⟨_, rfl⟩
      rw [← ht] at hgd ⊢
      clear ht
      obtain ⟨l2, r2, e2⟩ := t
      rintro e w3 ⟨rfl, A3, c3, hc3, ht3⟩
      have hb3 : Below w.heap.size w w3 := (hb.alloc hb.size _).trans (ht3.belowB (hc.alloc _) (hb.alloc hb.size _).size)
      try simp only at hc3 hgd ⊢
      go_wp2_with fail
      go_roundw
      case rel => exact ⟨k + 1, l2, A3, c3, by omega, by go_num, hc3, Lib.hid hgd, hb3⟩
      case measure => simp [intOf]; omega
    · obtain rfl : k = m := by omega
      have hlong := hg.out.long
      go_wp2_with fail
      refine (plain_any hc hlong).mono ?_
      rintro e w3 ⟨A3, c3, rfl, hown3, hb3⟩
      have hc3 := hc.below hb3
      have ha3 : Away w3 A3 (iv l) (Foot (w.heap.size + 1) A' c') := Away.new hown3.row hc (fun hne a ha => hown3.ge hne a ha)
      have hb03 := below_all hb hb3
      clear hc
      go_wp2_with fail
      refine (free_any hc3 hlong).mono ?_
      rintro e w4 ⟨rfl, rfl⟩
      have hfl := freeN_le l
      go_wp2_with fail
      refine (grow_any hc3 hg.out h).mono ?_
      rintro e w4 ⟨rfl, A4, c4, hc4, ht4⟩
      have ha4 := ha3.turned ht4
      have hb04 : Below w.heap.size w w4 := hb03.trans (ht4.belowB hc3 hb03.size)
      rcases grow_back l hg.out h with ⟨hne, hsame⟩ | ⟨j, rfl, hj, hgr⟩
      · rw [hsame] at hc4
        rw [hne]
        clear hne hsame
        go_wp2_with fail
        refine (alive_any w4).mono ?_
        rintro e w5 ⟨rfl, hb5⟩
        have hc5 := hc4.below hb5
        have ha5 := ha4.below hb5
        go_wp2_with fail
        refine (plain_any hc5 hlong).mono ?_
        rintro e w6 ⟨A6, c6, rfl, hown6, hb6⟩
        have ha6 := ha5.below hb6
        go_wp2_with fail
        refine (same_any A6 A3 l.length c6 l.length c3 l l w6 rfl hown6.row rfl ha6.row (by omega) (by omega)).mono ?_
        rw [decide_eq_true rfl]
        rintro e w7 ⟨rfl, hb7⟩
        go_wp2_with fail
        go_ret
        exact ⟨rfl, below_all hb04 (below_all hb5 (below_all hb6 hb7))⟩
      · rw [hgr] at hc4
        rw [hgr]
        clear hgr
        have hll : (l ++ List.replicate j (0 : Int)).length = l.length + j := by rw [List.length_append, List.length_replicate]
        have hfree := free_grown l j
        obtain ⟨f, hf⟩ : ∃ f, f = freeN l := ⟨_, rfl⟩
        rw [← hf] at hfree hfl ⊢
        have HF := Lib.hid hf
        have HFR := Lib.hid hfree
        have HLL := Lib.hid hll
        clear hf hfree hll
        simp only
        go_wp2_with fail
        refine (plain_any hc4 (by rw [HLL.out]; exact hj)).mono ?_
        rintro e w5 ⟨A5, c5, rfl, hown5, hb5⟩
        have hc5 := hc4.below hb5
        have ha5 := ha4.below hb5
        rw [HLL.out] at hown5 ⊢
        go_wp2_with fail
        refine (alive_any w5).mono ?_
        rintro e w6 ⟨rfl, hb6⟩
        have hc6 := hc5.below hb6
        have ha6 := ha5.below hb6
        have hown6 := hown5.below hb6
        have hcap := hown5.2.1
        have hrow6 : Row w6 A5 (iv l) := by
          have h1 := hown6.row.take l.length
          rw [iv_take, List.take_left' rfl] at h1
          exact h1
        go_wp2_with fail
        refine (same_any A5 A3 l.length c5 l.length c3 l l w6 rfl hrow6 rfl ha6.row (by omega) (by omega)).mono ?_
        rw [decide_eq_true rfl]
        rintro e w7 ⟨rfl, hb7⟩
        have hc7 := hc6.below hb7
        go_wp2_with fail
        refine (free_any hc7 (by rw [HLL.out]; exact hj)).mono ?_
        rw [HFR.out]
        rintro e w8 ⟨rfl, rfl⟩
        go_wp2_with fail
        go_ret
        exact ⟨ret_bool (by simp; omega), below_all hb04 (below_all hb5 (below_all hb6 hb7))⟩
end Go.Proofs.Ytjkklndpfmemhaa
