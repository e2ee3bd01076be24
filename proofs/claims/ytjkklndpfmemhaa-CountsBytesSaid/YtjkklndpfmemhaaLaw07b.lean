/- The law CountsAll. Conditions: the number of calls fits memory. -/
import Derived.Test.YtjkklndpfmemhaaDoes
import Derived.Test.YtjkklndpfmemhaaRef07D
import Derived.Test.YtjkklndpfmemhaaOps
namespace Go.Proofs.Ytjkklndpfmemhaa
open Go.RowKit

theorem Away.after_do {w w1 : World} {B g c : Nat} {A L L' : Option Addr} {l l' : List Int} (hc : Cnt w B g A c l) (ha : Away w L (iv l) (Foot g A c)) (hr : Row w1 L' (iv l'))
    (h : l' ≠ [] → ∀ a, L' = some a → (L = some a ∧ l ≠ []) ∨ w.heap.size ≤ a.block) : Away w1 L' (iv l') (Foot g A c) :=
  ⟨hr, fun hne a he hf => by
    rcases h (by rintro rfl; exact hne rfl) a he with ⟨h1, h2⟩ | h1
    · exact ha.2 (by rintro h3; exact h2 (by simpa [iv] using h3)) a h1 hf
    · have := (hc.foot _ hf).2
      omega⟩

theorem at_neg (l : List Int) : atF l (-1) = 0 := atF_out (by simp [isIn])
theorem at_len (l : List Int) : atF l (l.length : Int) = 0 := atF_out (by simp [isIn])

set_option maxHeartbeats 4000000 in
theorem all_law (x : Int) (A : Option Addr) (m c : Nat) (ps : List Op7) (w : World) (hm : ps.length = m) (hr : Row w A (ocells ps)) (hsz : m ≤ 140737488355328) :
    Calls Try.prog 4 #[.int .i64 x, .slice A m c] w fun e w' => e = .returned (.bool true) ∧ Below w.heap.size w w' := by
  have HM := Lib.hid hm
  clear hm
  by_cases hbad : x < 0 ∨ 512 < x
  · have HB := Lib.hid hbad
    clear hbad
    go_enter Try.func4, Try.ntmps4
    go_wp2_with fail
    refine (bad_new HB.out w).mono ?_
    rintro e w1 ⟨rfl, rfl⟩
    go_wp2_with fail
    refine (rNew_bad HB.out w).mono ?_
    rintro e w1 ⟨rfl, rfl⟩
    go_wp2_with fail
    refine (alive_any w).mono ?_
    rintro e w2 ⟨rfl, hb2⟩
    go_wp2_with fail
    go_ret
    exact ⟨rfl, hb2⟩
  obtain ⟨n, rfl⟩ := Int.eq_ofNat_of_zero_le (show 0 ≤ x by omega)
  have hn : n ≤ 512 := by omega
  clear hbad
  by_cases hlong : 300 < m
  · go_enter Try.func4, Try.ntmps4
    go_wp2_with fail
    refine (new_any n hn w).mono ?_
    rintro e w1 ⟨rfl, hc1, hb1⟩
    go_wp2_with fail
    refine (rNew_any n hn w1).mono ?_
    rintro e w2 ⟨rfl, hr2, hb2⟩
    go_wp2_with fail
    refine (alive_any w2).mono ?_
    rintro e w3 ⟨rfl, hb3⟩
    go_wp2_with fail
    go_ret
    exact ⟨rfl, below_all hb1 (below_all hb2 hb3)⟩
  go_enter Try.func4, Try.ntmps4
  go_wp2_with fail
  refine (new_any n hn w).mono ?_
  rintro e w1 ⟨rfl, hc1, hb1⟩
  go_wp2_with fail
  refine (rNew_any n hn w1).mono ?_
  rintro e w2 ⟨rfl, hr2, hb2⟩
  have hc2 := hc1.below hb2
  have ha2 : Away w2 (some ⟨w1.heap.size, 0, none⟩) (iv (List.replicate n 0)) (Foot (w.heap.size + 1) (some ⟨w.heap.size, 0, none⟩) n) := ⟨hr2, fun _ a ha hf => by
    injection ha with ha
    subst ha
    have := (hc1.foot _ hf).2
    exact absurd this (Nat.lt_irrefl _)⟩
  have hb02 := below_all hb1 hb2
  go_wp2_with fail
  go_loopw [7, 59] (fun v i wr => ∃ (k : Nat) (l : List Int) (A' : Option Addr) (c' : Nat) (L : Option Addr) (cl : Nat), k ≤ m ∧ i = .int .i64 k ∧ v = .slice L l.length cl ∧ Cnt wr w.heap.size (w.heap.size + 1) A' c' l ∧ Hid (Good l) ∧ Away wr L (iv l) (Foot (w.heap.size + 1) A' c') ∧ Below w.heap.size w wr) (fun _ i _ => m - (intOf i).toNat)
  case atStart => exact ⟨0, List.replicate n 0, _, _, _, n, Nat.zero_le _, rfl, by rw [List.length_replicate], hc2, Lib.hid (Good.zeros n hn), ha2, hb02⟩
  case round =>
    obtain ⟨k, l, A', c', L, cl, hk, rfl, rfl, hc, hg, ha, hb⟩ := hrel
    by_cases hlt : k < m
    · have hkl : k < ps.length := by rw [HM.out]; exact hlt
      obtain ⟨g2, o2, rfl, hg2, p1, p2, p3⟩ := (hr.below hb).op hkl
      obtain ⟨pp, hpp⟩ : ∃ pp, pp = ps[k] := ⟨_, rfl⟩
      rw [← hpp] at p1 p2 p3
      clear hpp
      go_wp2_with fail
      obtain ⟨o, ho⟩ : ∃ o, o = Obj.cells #[.int .i64 pp.k, .int .i64 pp.h, .int .i64 pp.n] 37 := ⟨_, rfl⟩
      have hcB := Blk.new wr 37 #[.int .i64 pp.k, .int .i64 pp.h, .int .i64 pp.n]
      rw [← ho] at hcB ⊢
      have hca := hc.alloc o
      have haa := ha.below ((Below.refl wr.heap.size wr).alloc (Nat.le_refl _) o)
      have hba := hb.alloc hb.size o
      clear ho
      obtain ⟨wa, hwa⟩ : ∃ wa, wa = wr.alloc o := ⟨_, rfl⟩
      rw [← hwa] at hcB hca haa hba ⊢
      clear hwa
      have hgd := hg.out.do_ pp.k pp.h pp.n
      have hrd := rDo_any L l.length cl l pp.k pp.h pp.n wa rfl haa.row hg.out
      have hdo := fun (u : World) (h : Cnt u w.heap.size (w.heap.size + 1) A' c' l) => does_any h hg.out pp.k pp.h pp.n
      obtain ⟨t, ht⟩ : ∃ t, t = doF l pp.k pp.h pp.n := ⟨_, rfl⟩
      rw [← ht] at hgd hrd
      simp only [← ht] at hdo
      clear ht
      obtain ⟨l2, r2, e2⟩ := t
      have HDO := Lib.hid hdo
      have HGD := Lib.hid hgd
      clear hdo hgd
      refine hrd.mono ?_
      rintro e w2 ⟨L2, cl2, rfl, hr2, hb2, hnew⟩
      have ha2 := Away.after_do hca haa hr2 hnew
      have hc2 := hca.below hb2
      have hB2 := hcB.belowAll hb2
      obtain ⟨⟨b1, b2, b3⟩, b4⟩ := hB2.three
      have hb02 : Below w.heap.size w w2 := below_all hba hb2
      clear hrd hnew hca haa hcB hc ha
      try simp only at hr2 ha2 ⊢
      go_wp2_with fail
      refine (HDO.out w2 hc2).mono ?_
      rintro e w3 ⟨rfl, A3, c3, hc3, ht3⟩
      have ha3 := ha2.turned ht3
      have hb03 : Below w.heap.size w w3 := hb02.trans (ht3.belowB hc2 hb02.size)
      try simp only at hc3 ⊢
      have hlong3 := HGD.out.long
      try simp only at hlong3
      go_wp2_with fail
      refine (plain_any hc3 hlong3).mono ?_
      rintro e w4 ⟨A4, c4, rfl, hown4, hb4⟩
      have hc4 := hc3.below hb4
      have ha4 := ha3.below hb4
      go_wp2_with fail
      refine (same_any A4 L2 l2.length c4 l2.length cl2 l2 l2 w4 rfl hown4.row rfl ha4.row (by omega) (by omega)).mono ?_
      rw [decide_eq_true rfl]
      rintro e w5 ⟨rfl, hb5⟩
      have hc5 := hc4.below hb5
      have ha5 := ha4.below hb5
      go_wp2_with fail
      refine (free_any hc5 hlong3).mono ?_
      rintro e w6 ⟨rfl, rfl⟩
      go_wp2_with fail
      refine (rFree_any L2 l2.length cl2 l2 w5 rfl ha5.row (by omega)).mono ?_
      rintro e w6 ⟨rfl, rfl⟩
      go_wp2_with fail
      go_roundw
      case rel => exact ⟨k + 1, l2, A3, c3, L2, cl2, by omega, by go_num, rfl, hc5, HGD, ha5, below_all hb03 (below_all hb4 hb5)⟩
      case measure => simp [intOf]; omega
    · obtain rfl : k = m := by omega
      go_wp2_with fail
      refine (alive_any wr).mono ?_
      rintro e w4 ⟨rfl, hb4⟩
      have hc4 := hc.below hb4
      go_wp2_with fail
      refine (at_any hc4 (-1)).mono ?_
      rw [at_neg]
      rintro e w5 ⟨rfl, rfl⟩
      go_wp2_with fail
      refine (len_any hc4).mono ?_
      rintro e w5 ⟨rfl, rfl⟩
      go_wp2_with fail
      refine (at_any hc4 l.length).mono ?_
      rw [at_len]
      rintro e w5 ⟨rfl, rfl⟩
      go_wp2_with fail
      go_ret
      exact ⟨rfl, below_all hb hb4⟩
end Go.Proofs.Ytjkklndpfmemhaa
