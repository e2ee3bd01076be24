/- The law CountsBytes. Conditions: the lengths fit memory. -/
import Derived.Test.YtjkklndpfmemhaaLaw07b
import Derived.Test.YtjkklndpfmemhaaDec07
import Derived.Test.YtjkklndpfmemhaaRDec07
namespace Go.Proofs.Ytjkklndpfmemhaa
open Go.RowKit

set_option maxHeartbeats 8000000 in
theorem bytes_law (x : Int) (A A2 : Option Addr) (m c m2 c2 : Nat) (ps : List Op7) (b : List UInt8) (w : World) (hm : ps.length = m) (hr : Row w A (ocells ps)) (hsz : m ≤ 140737488355328) (hm2 : b.length = m2) (hr2 : Row w A2 (bv b)) (hsz2 : m2 ≤ 140737488355328) :
    Calls Try.prog 9 #[.int .i64 x, .slice A m c, .slice A2 m2 c2] w fun e w' => e = .returned (.bool true) ∧ Below w.heap.size w w' := by
  have HM := Lib.hid hm
  have HM2 := Lib.hid hm2
  clear hm hm2
  by_cases hlong2 : 5000 < m2
  · go_enter Try.func9, Try.ntmps9
    go_wp2_with fail
    refine (alive_any w).mono ?_
    rintro e w2 ⟨rfl, hb2⟩
    go_wp2_with fail
    go_ret
    exact ⟨rfl, hb2⟩
  by_cases hlong : 300 < m
  · go_enter Try.func9, Try.ntmps9
    go_wp2_with fail
    refine (alive_any w).mono ?_
    rintro e w2 ⟨rfl, hb2⟩
    go_wp2_with fail
    go_ret
    exact ⟨rfl, hb2⟩
  go_enter Try.func9, Try.ntmps9
  go_wp2_with fail
  refine (decode_any A2 m2 c2 b w HM2.out hr2 hsz2).mono ?_
  rintro e w1 ⟨hd1, hb1⟩
  have hs2 := run_string (P := Try.prog) HM2.out 50 9 5 (c := c2) Try.underlying50 Try.underlying5 Try.underlying9 (hr2.below hb1)
  have hgoal : ∀ (K : Act → World → Prop), True := fun _ => trivial
  clear hgoal
  rcases hd1 with ⟨hnone, rfl⟩ | ⟨y, g, A1, c1, hsome, rfl, hc1⟩
  · have HNONE := Lib.hid hnone
    clear hnone
    go_wp2_with fail
    refine (rDecode_any b w1 (by have := HM2.out; omega)).mono ?_
    rintro e w2 ⟨hd2, hb2⟩
    rcases hd2 with ⟨_, rfl⟩ | ⟨y, L, c3, hsome, _⟩
    · have hbz := (below_all hb1 hb2).drew
      go_wp2_with fail
      refine wp_region_seq true (.take 0 .copy (.take 1 .int2 (.take 2 .copy (.take 3 .bool2 (.take 4 .copy (.take 5 .copy (.take 6 .copy (.take 7 .copy (.take 8 .copy (.take 9 .int2 (.take 10 .copy (.take 11 .copy (.alone 12 (.take 13 .copy (.take 14 .copy (.take 15 .copy (.take 16 .copy (.take 17 .copy (.take 18 .copy (.take 19 .copy (.alone 20 (.take 21 .copy (.take 22 .copy (.take 24 .copy (.alone 23 (.alone 25 (.take 26 .copy (.take 27 .copy (.take 28 .copy (.take 29 .copy (.take 32 .copy (.take 33 (.text 50 5 9) (.alone 30 (.take 31 (.text 50 5 9) (.take 34 (.str2 9) (.take 35 .copy (.take 36 .copy (.take 37 .copy .fin)))))))))))))))))))))))))))))))))))))) (by kernel_rfl) (by kernel_rfl) (by kernel_rfl) ?_
      simp only [pre, nxt, List.getElem?_toArray, List.getElem?_cons_zero, List.getElem?_cons_succ, opAt, ghosts, List.nil_append, gInt, gStr, gBool, ghost, List.cons_append]
      go_wp2_with fail
      refine next_keep (Keep.refl _) ?_
      go_wp2_with fail
      refine next_keep (Keep.refl _) ?_
      go_wp2_with fail
      refine next_keep (Keep.refl _) ?_
      go_wp2_with fail
      refine next_keep (Keep.refl _) ?_
      go_wp2_with fail
      refine next_keep (Keep.refl _) ?_
      go_wp2_with fail
      refine ends_normal ?_
      obtain ⟨wz, hwz⟩ : ∃ u, u = w2.drew := ⟨_, rfl⟩
      rw [← hwz] at hbz ⊢
      clear hwz
      by_cases hbad : x < 0 ∨ 512 < x
      · have HB := Lib.hid hbad
        clear hbad
        go_wp2_with fail
        refine (bad_new HB.out _).mono ?_
        rintro e w4 ⟨rfl, rfl⟩
        go_wp2_with fail
        refine (alive_any _).mono ?_
        rintro e w5 ⟨rfl, hb5⟩
        go_wp2_with fail
        go_ret
        exact ⟨rfl, below_all hbz hb5⟩
      obtain ⟨n, rfl⟩ := Int.eq_ofNat_of_zero_le (show 0 ≤ x by omega)
      have hn : n ≤ 512 := by omega
      clear hbad
      go_wp2_with fail
      refine (new_any n hn _).mono ?_
      rintro e w4 ⟨rfl, hc4, hb4⟩
      go_wp2_with fail
      refine (rNew_any n hn w4).mono ?_
      rintro e w5 ⟨rfl, hr5, hb5⟩
      have hc5 := hc4.below hb5
      have hfoot := hc4.foot
      have hbw5 := below_all hbz (below_all hb4 hb5)
      have hBz := hbz.size
      have HF := Lib.hid hfoot
      clear hfoot hc4
      obtain ⟨B, hB⟩ : ∃ B, B = wz.heap.size := ⟨_, rfl⟩
      rw [← hB] at hc5 HF hBz ⊢
      have ha5 : Away w5 (some ⟨w4.heap.size, 0, none⟩) (iv (List.replicate n 0)) (Foot (B + 1) (some ⟨B, 0, none⟩) n) := ⟨hr5, fun _ a ha hf => by
        injection ha with ha
        subst ha
        have := (HF.out _ hf).2
        exact absurd this (Nat.lt_irrefl _)⟩
      have hb5B : Below B w w5 ∨ True := .inr trivial
      clear hb5B HF hB hb4 hb5 hr5
      go_wp2_with fail
      go_loopw [13, 99] (fun v i wr => ∃ (k : Nat) (l : List Int) (A' : Option Addr) (c' : Nat) (L : Option Addr) (cl : Nat), k ≤ m ∧ i = .int .i64 k ∧ v = .slice L l.length cl ∧ Cnt wr B (B + 1) A' c' l ∧ Hid (Good l) ∧ Away wr L (iv l) (Foot (B + 1) A' c') ∧ Below w.heap.size w wr) (fun _ i _ => m - (intOf i).toNat)
      case atStart => exact ⟨0, List.replicate n 0, _, _, _, n, Nat.zero_le _, rfl, by rw [List.length_replicate], hc5, Lib.hid (Good.zeros n hn), ha5, hbw5⟩
      case round =>
        obtain ⟨k, l, A', c', L, cl, hk, rfl, rfl, hc, hg, ha, hb⟩ := hrel
        by_cases hlt : k < m
        · have hkl : k < ps.length := by rw [HM.out]; exact hlt
          obtain ⟨g2, o2, rfl, hg2, p1, p2, p3⟩ := (hr.below hb).op hkl
          obtain ⟨pp, hpp⟩ : ∃ pp, pp = ps[k] := ⟨_, rfl⟩
          rw [← hpp] at p1 p2 p3
          clear hpp
          go_wp2_with fail
          obtain ⟨o, ho⟩ : ∃ o, o = Obj.cells #[.int .i64 pp.k, .int .i64 pp.h, .int .i64 pp.n] 37 := ⟨_, rfl⟩
          have hcB := Blk.new wr 37 #[.int .i64 pp.k, .int .i64 pp.h, .int .i64 pp.n]
          rw [← ho] at hcB ⊢
          have hca := hc.alloc o
          have haa := ha.below ((Below.refl wr.heap.size wr).alloc (Nat.le_refl _) o)
          have hba := hb.alloc hb.size o
          clear ho
          obtain ⟨wa, hwa⟩ : ∃ wa, wa = wr.alloc o := ⟨_, rfl⟩
          rw [← hwa] at hcB hca haa hba ⊢
          clear hwa
          have hgd := hg.out.do_ pp.k pp.h pp.n
          have hrd := rDo_any L l.length cl l pp.k pp.h pp.n wa rfl haa.row hg.out
          have hdo := fun (u : World) (h : Cnt u B (B + 1) A' c' l) => does_any h hg.out pp.k pp.h pp.n
          obtain ⟨t, ht⟩ : ∃ t, t = doF l pp.k pp.h pp.n := ⟨_, rfl⟩
          rw [← ht] at hgd hrd
          simp only [← ht] at hdo
          clear ht
          obtain ⟨l2, r2, e2⟩ := t
          have HDO := Lib.hid hdo
          have HGD := Lib.hid hgd
          clear hdo hgd
          refine hrd.mono ?_
          rintro e w6 ⟨L2, cl2, rfl, hr6, hb6, hnew⟩
          have ha6 := Away.after_do hca haa hr6 hnew
          have hc6 := hca.below hb6
          have hB6 := hcB.belowAll hb6
          obtain ⟨⟨b1, b2, b3⟩, b4⟩ := hB6.three
          have hb06 : Below w.heap.size w w6 := below_all hba hb6
          clear hrd hnew hca haa hcB hc ha
          go_wp2_with fail
          refine (HDO.out w6 hc6).mono ?_
          rintro e w7 ⟨rfl, A3, c3, hc7, ht7⟩
          have ha7 := ha6.turned ht7
          have hb07 : Below w.heap.size w w7 := hb06.trans ((ht7.belowB hc6 hc6.size).mono hBz)
          try simp only at hc7 ⊢
          go_wp2_with fail
          go_roundw
          case rel => exact ⟨k + 1, l2, A3, c3, L2, cl2, by omega, by go_num, rfl, hc7, HGD, ha7, hb07⟩
          case measure => simp [intOf]; omega
        · obtain rfl : k = m := by omega
          have hlng := hg.out.long
          go_wp2_with fail
          refine (encode_any hc hg.out).mono ?_
          rintro e w6 ⟨A6, c6, rfl, hown6, hb6⟩
          have hc6 := hc.below hb6
          have ha6 := ha.below hb6
          go_wp2_with fail
          refine (decode_any A6 (2 + 2 * l.length) c6 (encF l) w6 (encF_length l) hown6.row (by omega)).mono ?_
          rintro e w7 ⟨hd7, hb7⟩
          rcases hd7 with ⟨hnone, _⟩ | ⟨y, g7, A7, c7, hsome, rfl, hz7⟩
          · rw [decF_enc hg.out] at hnone
            cases hnone
          obtain rfl : l = y := by rw [decF_enc hg.out] at hsome; injection hsome
          clear hsome
          have hc7 := hc6.below hb7
          have ha7 := ha6.below hb7
          have hb07 := below_all hb (below_all hb6 hb7)
          go_wp2_with fail
          refine wp_region_seq true (.alone 0 (.take 1 .copy (.take 2 .copy (.take 5 .copy (.alone 3 (.take 4 (.text 50 5 9) (.alone 6 (.take 7 (.str2 9) (.take 8 .copy (.take 9 .copy (.take 10 .copy (.take 11 .int2 (.take 12 .copy (.take 13 .copy (.take 14 .copy (.alone 15 (.take 16 .copy (.take 17 .copy (.take 18 .copy (.take 20 .copy (.alone 19 (.alone 21 (.take 22 .copy (.take 23 .copy .fin)))))))))))))))))))))))) (by kernel_rfl) (by kernel_rfl) (by kernel_rfl) ?_
          simp only [pre, nxt, List.getElem?_toArray, List.getElem?_cons_zero, List.getElem?_cons_succ, opAt, ghosts, List.nil_append, gInt, gStr, ghost, List.cons_append]
          go_wp2_with fail
          refine (alive_any _).mono ?_
          rintro e w8 ⟨rfl, hb8⟩
          have hc8 := hc7.drew.below hb8
          have ha8 : Away w8 L (iv l) _ := Away.below (w := w7.drew) ha7 hb8
          have hz8 := hz7.drew.below hb8
          go_wp2_with fail
          refine next_keep (Keep.below hb8) ?_
          go_wp2_with fail
          refine (encode_any hc8 hg.out).mono ?_
          rintro e w9 ⟨A9, c9, rfl, hown9, hb9⟩
          have hc9 := hc8.below hb9
          have ha9 := ha8.below hb9
          have hz9 := hz8.below hb9
          have hs9 := run_string (P := Try.prog) (encF_length l) 50 9 5 (c := c9) Try.underlying50 Try.underlying5 Try.underlying9 hown9.row
          go_wp2_with fail
          refine next_keep (Keep.below hb9) ?_
          go_wp2_with fail
          refine (rEncode_any L cl l w9 ha9.row hg.out).mono ?_
          rintro e w10 ⟨rfl, hb10⟩
          have hz10 := hz9.below hb10
          have ha10 := ha9.below hb10
          go_wp2_with fail
          refine next_keep (Keep.below hb10) ?_
          go_wp2_with fail
          refine next_keep (Keep.refl _) ?_
          go_wp2_with fail
          refine (plain_any hz10 hlng).mono ?_
          rintro e w11 ⟨A11, c11, rfl, hown11, hb11⟩
          have ha11 := ha10.below hb11
          go_wp2_with fail
          refine next_keep (Keep.below hb11) ?_
          go_wp2_with fail
          refine (same_any A11 L l.length c11 l.length cl l l w11 rfl hown11.row rfl ha11.row (by omega) (by omega)).mono ?_
          rw [decide_eq_true rfl]
          rintro e w12 ⟨rfl, hb12⟩
          go_wp2_with fail
          refine next_keep (Keep.below hb12) ?_
          go_wp2_with fail
          refine ends_normal ?_
          go_wp2_with fail
          go_ret
          exact ⟨rfl, below_all hb07.drew (below_all hb8 (below_all hb9 (below_all hb10 (below_all hb11 hb12))))⟩
    · rw [HNONE.out] at hsome
      cases hsome
  · obtain ⟨hgy, hey⟩ := decF_good hsome
    have HS := Lib.hid hsome
    have HGY := Lib.hid hgy
    have HEY := Lib.hid hey
    have hlny := hgy.long
    clear hsome hgy hey
    go_wp2_with fail
    refine (rDecode_any b w1 (by have := HM2.out; omega)).mono ?_
    rintro e w2 ⟨hd2, hb2⟩
    rcases hd2 with ⟨hnone, _⟩ | ⟨y2, L2, c3, hsome, rfl, hown2⟩
    · rw [HS.out] at hnone
      cases hnone
    obtain rfl : y = y2 := by rw [HS.out] at hsome; injection hsome
    clear hsome
    have hc2 := hc1.below hb2
    have hb02 := below_all hb1 hb2
    go_wp2_with fail
    refine wp_region_seq true (.take 0 .copy (.take 1 .int2 (.take 2 .copy (.take 3 .bool2 (.take 4 .copy (.take 5 .copy (.take 6 .copy (.take 7 .copy (.take 8 .copy (.take 9 .int2 (.take 10 .copy (.take 11 .copy (.alone 12 (.take 13 .copy (.take 14 .copy (.take 15 .copy (.take 16 .copy (.take 17 .copy (.take 18 .copy (.take 19 .copy (.alone 20 (.take 21 .copy (.take 22 .copy (.take 24 .copy (.alone 23 (.alone 25 (.take 26 .copy (.take 27 .copy (.take 28 .copy (.take 29 .copy (.take 32 .copy (.take 33 (.text 50 5 9) (.alone 30 (.take 31 (.text 50 5 9) (.take 34 (.str2 9) (.take 35 .copy (.take 36 .copy (.take 37 .copy .fin)))))))))))))))))))))))))))))))))))))) (by kernel_rfl) (by kernel_rfl) (by kernel_rfl) ?_
    simp only [pre, nxt, List.getElem?_toArray, List.getElem?_cons_zero, List.getElem?_cons_succ, opAt, ghosts, List.nil_append, gInt, gStr, gBool, ghost, List.cons_append]
    go_wp2_with fail
    refine next_keep (Keep.refl _) ?_
    go_wp2_with fail
    refine next_keep (Keep.refl _) ?_
    go_wp2_with fail
    refine (plain_any hc2.drew hlny).mono ?_
    rintro e w3 ⟨A3, c4, rfl, hown3, hb3⟩
    have hc3 := hc2.drew.below hb3
    have hrL := (hown2.row.drew).below hb3
    go_wp2_with fail
    refine next_keep (Keep.below hb3) ?_
    go_wp2_with fail
    refine (same_any A3 L2 y.length c4 y.length c3 y y w3 rfl hown3.row rfl hrL (by omega) (by omega)).mono ?_
    rw [decide_eq_true rfl]
    rintro e w4 ⟨rfl, hb4⟩
    have hc4 := hc3.below hb4
    have hrb4 := ((((hr2.below hb1).below hb2).drew).below hb3).below hb4
    have hs4 := run_string (P := Try.prog) HM2.out 50 9 5 (c := c2) Try.underlying50 Try.underlying5 Try.underlying9 hrb4
    go_wp2_with fail
    refine next_keep (Keep.below hb4) ?_
    go_wp2_with fail
    refine (encode_any hc4 HGY.out).mono ?_
    rintro e w5 ⟨A5, c5, rfl, hown5, hb5⟩
    rw [HEY.out] at hown5
    have hl5 : b.length = 2 + 2 * y.length := by rw [← HEY.out]; exact encF_length y
    have HL5 := Lib.hid hl5
    clear hl5
    have hs5 := run_string (P := Try.prog) HL5.out 50 9 5 (c := c5) Try.underlying50 Try.underlying5 Try.underlying9 hown5.row
    have hbz := below_all hb02.drew (below_all hb3 (below_all hb4 hb5))
    go_wp2_with fail
    refine next_keep (Keep.below hb5) ?_
    go_wp2_with fail
    refine ends_normal ?_
    obtain ⟨wz, hwz⟩ : ∃ u, u = w5 := ⟨_, rfl⟩
    rw [← hwz] at hbz ⊢
    clear hwz
    by_cases hbad : x < 0 ∨ 512 < x
    · have HB := Lib.hid hbad
      clear hbad
      go_wp2_with fail
      refine (bad_new HB.out _).mono ?_
      rintro e w4 ⟨rfl, rfl⟩
      go_wp2_with fail
      refine (alive_any _).mono ?_
      rintro e w5 ⟨rfl, hb5⟩
      go_wp2_with fail
      go_ret
      exact ⟨rfl, below_all hbz hb5⟩
    obtain ⟨n, rfl⟩ := Int.eq_ofNat_of_zero_le (show 0 ≤ x by omega)
    have hn : n ≤ 512 := by omega
    clear hbad
    go_wp2_with fail
    refine (new_any n hn _).mono ?_
    rintro e w4 ⟨rfl, hc4, hb4⟩
    go_wp2_with fail
    refine (rNew_any n hn w4).mono ?_
    rintro e w5 ⟨rfl, hr5, hb5⟩
    have hc5 := hc4.below hb5
    have hfoot := hc4.foot
    have hbw5 := below_all hbz (below_all hb4 hb5)
    have hBz := hbz.size
    have HF := Lib.hid hfoot
    clear hfoot hc4
    obtain ⟨B, hB⟩ : ∃ B, B = wz.heap.size := ⟨_, rfl⟩
    rw [← hB] at hc5 HF hBz ⊢
    have ha5 : Away w5 (some ⟨w4.heap.size, 0, none⟩) (iv (List.replicate n 0)) (Foot (B + 1) (some ⟨B, 0, none⟩) n) := ⟨hr5, fun _ a ha hf => by
      injection ha with ha
      subst ha
      have := (HF.out _ hf).2
      exact absurd this (Nat.lt_irrefl _)⟩
    have hb5B : Below B w w5 ∨ True := .inr trivial
    clear hb5B HF hB hb4 hb5 hr5
    go_wp2_with fail
    go_loopw [13, 99] (fun v i wr => ∃ (k : Nat) (l : List Int) (A' : Option Addr) (c' : Nat) (L : Option Addr) (cl : Nat), k ≤ m ∧ i = .int .i64 k ∧ v = .slice L l.length cl ∧ Cnt wr B (B + 1) A' c' l ∧ Hid (Good l) ∧ Away wr L (iv l) (Foot (B + 1) A' c') ∧ Below w.heap.size w wr) (fun _ i _ => m - (intOf i).toNat)
    case atStart => exact ⟨0, List.replicate n 0, _, _, _, n, Nat.zero_le _, rfl, by rw [List.length_replicate], hc5, Lib.hid (Good.zeros n hn), ha5, hbw5⟩
    case round =>
      obtain ⟨k, l, A', c', L, cl, hk, rfl, rfl, hc, hg, ha, hb⟩ := hrel
      by_cases hlt : k < m
      · have hkl : k < ps.length := by rw [HM.out]; exact hlt
        obtain ⟨g2, o2, rfl, hg2, p1, p2, p3⟩ := (hr.below hb).op hkl
        obtain ⟨pp, hpp⟩ : ∃ pp, pp = ps[k] := ⟨_, rfl⟩
        rw [← hpp] at p1 p2 p3
        clear hpp
        go_wp2_with fail
        obtain ⟨o, ho⟩ : ∃ o, o = Obj.cells #[.int .i64 pp.k, .int .i64 pp.h, .int .i64 pp.n] 37 := ⟨_, rfl⟩
        have hcB := Blk.new wr 37 #[.int .i64 pp.k, .int .i64 pp.h, .int .i64 pp.n]
        rw [← ho] at hcB ⊢
        have hca := hc.alloc o
        have haa := ha.below ((Below.refl wr.heap.size wr).alloc (Nat.le_refl _) o)
        have hba := hb.alloc hb.size o
        clear ho
        obtain ⟨wa, hwa⟩ : ∃ wa, wa = wr.alloc o := ⟨_, rfl⟩
        rw [← hwa] at hcB hca haa hba ⊢
        clear hwa
        have hgd := hg.out.do_ pp.k pp.h pp.n
        have hrd := rDo_any L l.length cl l pp.k pp.h pp.n wa rfl haa.row hg.out
        have hdo := fun (u : World) (h : Cnt u B (B + 1) A' c' l) => does_any h hg.out pp.k pp.h pp.n
        obtain ⟨t, ht⟩ : ∃ t, t = doF l pp.k pp.h pp.n := ⟨_, rfl⟩
        rw [← ht] at hgd hrd
        simp only [← ht] at hdo
        clear ht
        obtain ⟨l2, r2, e2⟩ := t
        have HDO := Lib.hid hdo
        have HGD := Lib.hid hgd
        clear hdo hgd
        refine hrd.mono ?_
        rintro e w6 ⟨L2, cl2, rfl, hr6, hb6, hnew⟩
        have ha6 := Away.after_do hca haa hr6 hnew
        have hc6 := hca.below hb6
        have hB6 := hcB.belowAll hb6
        obtain ⟨⟨b1, b2, b3⟩, b4⟩ := hB6.three
        have hb06 : Below w.heap.size w w6 := below_all hba hb6
        clear hrd hnew hca haa hcB hc ha
        go_wp2_with fail
        refine (HDO.out w6 hc6).mono ?_
        rintro e w7 ⟨rfl, A3, c3, hc7, ht7⟩
        have ha7 := ha6.turned ht7
        have hb07 : Below w.heap.size w w7 := hb06.trans ((ht7.belowB hc6 hc6.size).mono hBz)
        try simp only at hc7 ⊢
        go_wp2_with fail
        go_roundw
        case rel => exact ⟨k + 1, l2, A3, c3, L2, cl2, by omega, by go_num, rfl, hc7, HGD, ha7, hb07⟩
        case measure => simp [intOf]; omega
      · obtain rfl : k = m := by omega
        have hlng := hg.out.long
        go_wp2_with fail
        refine (encode_any hc hg.out).mono ?_
        rintro e w6 ⟨A6, c6, rfl, hown6, hb6⟩
        have hc6 := hc.below hb6
        have ha6 := ha.below hb6
        go_wp2_with fail
        refine (decode_any A6 (2 + 2 * l.length) c6 (encF l) w6 (encF_length l) hown6.row (by omega)).mono ?_
        rintro e w7 ⟨hd7, hb7⟩
        rcases hd7 with ⟨hnone, _⟩ | ⟨y, g7, A7, c7, hsome, rfl, hz7⟩
        · rw [decF_enc hg.out] at hnone
          cases hnone
        obtain rfl : l = y := by rw [decF_enc hg.out] at hsome; injection hsome
        clear hsome
        have hc7 := hc6.below hb7
        have ha7 := ha6.below hb7
        have hb07 := below_all hb (below_all hb6 hb7)
        go_wp2_with fail
        refine wp_region_seq true (.alone 0 (.take 1 .copy (.take 2 .copy (.take 5 .copy (.alone 3 (.take 4 (.text 50 5 9) (.alone 6 (.take 7 (.str2 9) (.take 8 .copy (.take 9 .copy (.take 10 .copy (.take 11 .int2 (.take 12 .copy (.take 13 .copy (.take 14 .copy (.alone 15 (.take 16 .copy (.take 17 .copy (.take 18 .copy (.take 20 .copy (.alone 19 (.alone 21 (.take 22 .copy (.take 23 .copy .fin)))))))))))))))))))))))) (by kernel_rfl) (by kernel_rfl) (by kernel_rfl) ?_
        simp only [pre, nxt, List.getElem?_toArray, List.getElem?_cons_zero, List.getElem?_cons_succ, opAt, ghosts, List.nil_append, gInt, gStr, ghost, List.cons_append]
        go_wp2_with fail
        refine (alive_any _).mono ?_
        rintro e w8 ⟨rfl, hb8⟩
        have hc8 := hc7.drew.below hb8
        have ha8 : Away w8 L (iv l) _ := Away.below (w := w7.drew) ha7 hb8
        have hz8 := hz7.drew.below hb8
        go_wp2_with fail
        refine next_keep (Keep.below hb8) ?_
        go_wp2_with fail
        refine (encode_any hc8 hg.out).mono ?_
        rintro e w9 ⟨A9, c9, rfl, hown9, hb9⟩
        have hc9 := hc8.below hb9
        have ha9 := ha8.below hb9
        have hz9 := hz8.below hb9
        have hs9 := run_string (P := Try.prog) (encF_length l) 50 9 5 (c := c9) Try.underlying50 Try.underlying5 Try.underlying9 hown9.row
        go_wp2_with fail
        refine next_keep (Keep.below hb9) ?_
        go_wp2_with fail
        refine (rEncode_any L cl l w9 ha9.row hg.out).mono ?_
        rintro e w10 ⟨rfl, hb10⟩
        have hz10 := hz9.below hb10
        have ha10 := ha9.below hb10
        go_wp2_with fail
        refine next_keep (Keep.below hb10) ?_
        go_wp2_with fail
        refine next_keep (Keep.refl _) ?_
        go_wp2_with fail
        refine (plain_any hz10 hlng).mono ?_
        rintro e w11 ⟨A11, c11, rfl, hown11, hb11⟩
        have ha11 := ha10.below hb11
        go_wp2_with fail
        refine next_keep (Keep.below hb11) ?_
        go_wp2_with fail
        refine (same_any A11 L l.length c11 l.length cl l l w11 rfl hown11.row rfl ha11.row (by omega) (by omega)).mono ?_
        rw [decide_eq_true rfl]
        rintro e w12 ⟨rfl, hb12⟩
        go_wp2_with fail
        refine next_keep (Keep.below hb12) ?_
        go_wp2_with fail
        refine ends_normal ?_
        go_wp2_with fail
        go_ret
        exact ⟨rfl, below_all hb07.drew (below_all hb8 (below_all hb9 (below_all hb10 (below_all hb11 hb12))))⟩
end Go.Proofs.Ytjkklndpfmemhaa
