/- head.Decode where the sign is right. Conditions: the bytes fit memory. -/
import Derived.Test.YtbljacafmkdlmaaMgG
import Derived.Deep.CutBlock
import Derived.Deep.DeepCutAuto
namespace Go.Proofs.Ytbljacafmkdlmaa
set_option maxRecDepth 100000
open Go.RowKit

set_option maxHeartbeats 6000000 in
theorem hDecode_main (A : Option Addr) (n c : Nat) (b : List UInt8) (w : World) (hn : b.length = n) (hnc : n ≤ c) (hr : Row w A (bv b)) (hsz : n ≤ 140737488355300) (x : List UInt8) (ho : opened b = some x) (hl : ¬ n - 4 < 10) (hm : x.take 10 = magic) :
    Calls Try.prog 62 #[.slice A n c] w (HDecPost w b) := by
  have hz := Blk.new w 60 #[.int .i64 0, .int .i64 0, .string ⟨#[]⟩, .int .i64 0, .bool false, .slice none 0 0]
  have hbz := (Below.refl w.heap.size w).alloc (Nat.le_refl _) (.cells #[.int .i64 0, .int .i64 0, .string ⟨#[]⟩, .int .i64 0, .bool false, .slice none 0 0] 60)
  have hra := hr.alloc (.cells #[.int .i64 0, .int .i64 0, .string ⟨#[]⟩, .int .i64 0, .bool false, .slice none 0 0] 60)
  have hop := open_yes A n c b x (w.alloc (.cells #[.int .i64 0, .int .i64 0, .string ⟨#[]⟩, .int .i64 0, .bool false, .slice none 0 0] 60)) hn hnc hra (by omega) ho
  obtain ⟨l, hlx⟩ : ∃ l, l = x.drop 10 := ⟨_, rfl⟩
  have hd : decH b = if endOf (s7 l 0).1 (s7 l 0).2.1 ≠ 0 ∨ 1 < (s5 l 0).2.2 ∨ (fld l 0).right = false then (noH, 50) else (fld l 0, 0) := by
    unfold decH
    rw [ho]
    simp only
    rw [if_neg, ← hlx]
    rintro (h | h)
    · have := opened_some ho
      have h2 := congrArg List.length this
      rw [sealed_length] at h2
      omega
    · exact h hm
  have HOP := Lib.hid hop
  have HM := Lib.hid hm
  have HD := Lib.hid hd
  have HLX := Lib.hid hlx
  clear hop hn ho hr hra hm hd hlx
  obtain ⟨N, hN⟩ : ∃ N, N = n - 4 := ⟨_, rfl⟩
  rw [← hN] at HOP hl
  have hl' : ¬ ((N : Int) < 10) := by omega
  have hNs : N ≤ 140737488355300 := by omega
  clear hN
  go_enter Try.func62, Try.ntmps62
  go_wp2_with fail
  refine HOP.out.mono ?_
  rintro e w1 ⟨A1, c1, rfl, hxl, h4, hown1, hb1⟩
  have hz1 := hz.belowAll hb1
  have hb01 := below_all hbz hb1
  have hrow1 := hown1.row
  have hnc1 : N ≤ c1 := hown1.2.1
  have hlim1 : c1 ≤ maxLen := hown1.2.2.1
  have hc10 : (x.take 10).length = 10 := by rw [List.length_take]; omega
  have hr10 : Row w1 A1 (bv (x.take 10)) := by rw [← bv_take]; exact hrow1.take _
  have hcv : Sem.run Try.prog (convert 23 9 (Value.slice A1 10 c1)) w1 = Result.ok (Value.string ⟨#[112, 101, 110, 116, 105, 109, 101, 110, 116, 111]⟩) w1 := by
    have h := run_string (P := Try.prog) hc10 23 9 5 (c := c1) Try.underlying23 Try.underlying5 Try.underlying9 hr10
    rw [HM.out] at h
    exact h
  have hrl := hrow1.drop 10 c1 (by rw [bv_length]; omega)
  rw [bv_drop, ← HLX.out] at hrl
  have hll : l.length = N - 10 := by rw [HLX.out, List.length_drop, hxl]
  have HLL := Lib.hid hll
  clear hown1 hrow1 hr10 hc10 hxl h4 hz hbz hll HOP hb1
  have hl2 : (10 : Int) ≤ (N : Int) := by omega
  have hl3 : (N : Int) ≤ (c1 : Int) := by omega
  go_upto_region 6 with fail
  clear hcv
  go_cut [4, 6] (fun _ v wc => ∃ T gr, v = .pointer (some ⟨T, 0, none⟩) ∧ DS w wc T gr w.heap.size l 0)
  case first =>
    by_cases hcn : c1 = 10
    all_goals
      first | rw [if_pos hcn] at hrl | rw [if_neg hcn] at hrl
      go_wp2_with fail
      refine (newReader_any _ _ _ l w1 HLL.out hrl (by omega)).mono ?_
      rintro e w2 ⟨gr, rfl, hgr, hrd2, hb2⟩
      go_wp2_with fail
      go_meet
      exact ⟨_, gr, rfl, Blk.new _ _ _, hrd2.alloc _, (hz1.belowAll hb2).alloc _, (below_all hb01 hb2).alloc (below_all hb01 hb2).size _, Nat.le_trans hb01.size hgr, Nat.le_refl _⟩
  case rest =>
  obtain ⟨T, gr, rfl, D⟩ := hcut
  clear hz1 hb01 hrl hl' hl2 hl3 hlim1 hnc1 HLL
  obtain ⟨l0, e0, hl0, he0⟩ : ∃ l0 e0, l0 = l ∧ e0 = (0 : Int) := ⟨_, _, rfl, rfl⟩
  obtain ⟨l1, e1, x1, hx1⟩ : ∃ l1 e1 x1, nm l0 e0 1 = (l1, e1, x1) := ⟨_, _, _, rfl⟩
  obtain ⟨l2, e2, x2, hx2⟩ : ∃ l2 e2 x2, nm l1 e1 2 = (l2, e2, x2) := ⟨_, _, _, rfl⟩
  obtain ⟨l3, e3, x3, hx3⟩ : ∃ l3 e3 x3, tx l2 e2 1 = (l3, e3, x3) := ⟨_, _, _, rfl⟩
  obtain ⟨l4, e4, x4, hx4⟩ : ∃ l4 e4 x4, nm l3 e3 8 = (l4, e4, x4) := ⟨_, _, _, rfl⟩
  obtain ⟨l5, e5, x5, hx5⟩ : ∃ l5 e5 x5, nm l4 e4 1 = (l5, e5, x5) := ⟨_, _, _, rfl⟩
  obtain ⟨l6, e6, x6, hx6⟩ : ∃ l6 e6 x6, nm l5 e5 1 = (l6, e6, x6) := ⟨_, _, _, rfl⟩
  have k1 : s1 l 0 = (l1, e1, x1) := by unfold s1; rw [← hl0, ← he0, hx1]
  have k2 : s2 l 0 = (l2, e2, x2) := by unfold s2; rw [k1]; exact hx2
  have k3 : s3 l 0 = (l3, e3, x3) := by unfold s3; rw [k2]; exact hx3
  have k4 : s4 l 0 = (l4, e4, x4) := by unfold s4; rw [k3]; exact hx4
  have k5 : s5 l 0 = (l5, e5, x5) := by unfold s5; rw [k4]; exact hx5
  have k6 : s6 l 0 = (l6, e6, x6) := by unfold s6; rw [k5]; exact hx6
  have k7 : s7 l 0 = rk x6 l6 e6 := by unfold s7; rw [k6]
  have hx6n : x6 < 256 := by
    have h : x6 = (nm l5 e5 1).2.2 := by rw [hx6]
    rw [h]
    exact nm1_lt l5 e5
  have hx3n : x3.length ≤ 255 := by
    have h : x3 = (tx l2 e2 1).2.2 := by rw [hx3]
    rw [h]
    exact tx1_lt l2 e2
  have hfld : fld l 0 = ⟨x1, x2, x3, x4, decide (x5 = 1), (rk x6 l6 e6).2.2⟩ := by unfold fld; rw [k1, k2, k3, k4, k5, k7]
  have hd := HD.out
  rw [k7, k5, hfld] at hd
  have HD2 := Lib.hid hd
  have D' : DS w wc T gr w.heap.size l0 e0 := by rw [hl0, he0]; exact D
  have D := D'
  clear hd hfld k1 k2 k3 k4 k5 k6 k7 D' HD hl0 he0
  have HX1 := Lib.hid hx1
  have HX2 := Lib.hid hx2
  have HX3 := Lib.hid hx3
  have HX4 := Lib.hid hx4
  have HX5 := Lib.hid hx5
  have HX6 := Lib.hid hx6
  clear hx1 hx2 hx3 hx4 hx5 hx6
  go_upto_region 8 with fail
  go_cut [8] (fun v wd => ∃ g8, v = .pointer (some ⟨g8, 0, none⟩) ∧ DS w wd T gr w.heap.size l4 e4 ∧ HB w wd w.heap.size g8 #[.int .i64 (x1 : Int), .int .i64 (x2 : Int), .string (str x3), .int .i64 (x4 : Int), .bool false, .slice none 0 0])
  case first =>
    refine wp_region_seqS ((fun u => Blk u T 115 #[.pointer (some ⟨gr, 0, none⟩)])) (.take 0 .copy (.take 2 .copy (.hold 4 (.take 6 .copy (.fork 1 (.fork 3 (.fork 5 (.fork 7 (.fork 8 (.alone 9 (.alone 10 .fin)) 9 (.alone 8 (.alone 10 .fin))) 9 (.alone 7 (.alone 8 (.alone 10 .fin)))) 9 (.alone 5 (.alone 7 (.alone 8 (.alone 10 .fin))))) 9 (.alone 3 (.alone 5 (.alone 7 (.alone 8 (.alone 10 .fin)))))) 9 (.alone 1 (.alone 3 (.alone 5 (.alone 7 (.alone 8 (.alone 10 .fin))))))))))) (by kernel_rfl) (by kernel_rfl) (by kernel_rfl) ?_ ?_
    · exact D.1.drew
    have D := D.drew
    simp only [preS, nxtS, List.getElem?_toArray, List.getElem?_cons_zero, List.getElem?_cons_succ, opAt, ghosts, List.nil_append]
    go_wp2_with fail
    refine next_hold (.pointer (some ⟨gr, 0, none⟩)) rfl (hold_cell _ _ rfl ⟨T, 0, none⟩ rfl _ _ (fun u h => h.cell 0) rfl Try.underlying115) ?_
    go_wp2_with fail
    refine next_fork ?_ ?_
    · go_wp2_with fail
      refine (numC_any T gr l0 e0 1 l1 e1 x1 _ HX1.out D.1 D.2.1).mono ?_
      rintro e v1 ⟨rfl, r1, o1⟩
      have D := D.call r1 o1
      clear r1 o1
      go_wp2_with fail
      refine nextS D.1 ?_
      go_wp2_with fail
      refine next_fork ?_ ?_
      · go_wp2_with fail
        refine (numC_any T gr l1 e1 2 l2 e2 x2 _ HX2.out D.1 D.2.1).mono ?_
        rintro e v2 ⟨rfl, r2, o2⟩
        have D := D.call r2 o2
        clear r2 o2
        go_wp2_with fail
        refine nextS D.1 ?_
        go_wp2_with fail
        refine next_fork ?_ ?_
        · go_wp2_with fail
          refine (textC_any gr l2 e2 l3 e3 x3 _ HX3.out D.2.1).mono ?_
          rintro e v3 ⟨rfl, r3, o3⟩
          have D := D.call r3 o3
          clear r3 o3
          go_wp2_with fail
          refine nextS D.1 ?_
          go_wp2_with fail
          refine next_fork ?_ ?_
          · go_wp2_with fail
            refine (numC_any T gr l3 e3 8 l4 e4 x4 _ HX4.out D.1 D.2.1).mono ?_
            rintro e v4 ⟨rfl, r4, o4⟩
            have D := D.call r4 o4
            clear r4 o4
            go_wp2_with fail
            refine nextS D.1 ?_
            go_wp2_with fail
            refine next_fork ?_ ?_
            · go_wp2_with fail
              refine nextS D.1 ?_
              have Gf := HB.new (cs := #[.int .i64 (x1 : Int), .int .i64 (x2 : Int), .string (str x3), .int .i64 (x4 : Int), .bool false, .slice none 0 0]) D
              change HB w _ w.heap.size (v4).heap.size _ at Gf
              have Df := D.alloc (.cells #[.int .i64 (x1 : Int), .int .i64 (x2 : Int), .string (str x3), .int .i64 (x4 : Int), .bool false, .slice none 0 0] 60)
              have G := HB.new (cs := #[.int .i64 0, .int .i64 0, .string ⟨#[]⟩, .int .i64 0, .bool false, .slice none 0 0]) D
              change HB w _ w.heap.size (v4).heap.size _ at G
              have D := D.alloc (.cells #[.int .i64 0, .int .i64 0, .string ⟨#[]⟩, .int .i64 0, .bool false, .slice none 0 0] 60)
              go_wp2_with fail
              refine nextS D.1 ?_
              go_wp2_with fail
              refine nextS Df.1 ?_
              go_wp2_with fail
              refine ends_normal ?_
              go_wp2_with fail
              go_meet
              exact ⟨_, rfl, Df, Gf⟩
            · have Gf := HB.new (cs := #[.int .i64 (x1 : Int), .int .i64 (x2 : Int), .string (str x3), .int .i64 (x4 : Int), .bool false, .slice none 0 0]) D
              change HB w _ w.heap.size (v4).heap.size _ at Gf
              have Df := D.alloc (.cells #[.int .i64 (x1 : Int), .int .i64 (x2 : Int), .string (str x3), .int .i64 (x4 : Int), .bool false, .slice none 0 0] 60)
              have G := HB.new (cs := #[.int .i64 0, .int .i64 0, .string ⟨#[]⟩, .int .i64 0, .bool false, .slice none 0 0]) D
              change HB w _ w.heap.size (v4).heap.size _ at G
              have D := D.alloc (.cells #[.int .i64 0, .int .i64 0, .string ⟨#[]⟩, .int .i64 0, .bool false, .slice none 0 0] 60)
              go_wp2_with fail
              refine nextS D.1 ?_
              go_wp2_with fail
              refine nextS D.1 ?_
              go_wp2_with fail
              refine nextS Df.1 ?_
              go_wp2_with fail
              refine ends_normal ?_
              go_wp2_with fail
              go_meet
              exact ⟨_, rfl, Df, Gf⟩
          · have Gf := HB.new (cs := #[.int .i64 (x1 : Int), .int .i64 (x2 : Int), .string (str x3), .int .i64 (x4 : Int), .bool false, .slice none 0 0]) D
            change HB w _ w.heap.size (v3).heap.size _ at Gf
            have Df := D.alloc (.cells #[.int .i64 (x1 : Int), .int .i64 (x2 : Int), .string (str x3), .int .i64 (x4 : Int), .bool false, .slice none 0 0] 60)
            have G := HB.new (cs := #[.int .i64 0, .int .i64 0, .string ⟨#[]⟩, .int .i64 0, .bool false, .slice none 0 0]) D
            change HB w _ w.heap.size (v3).heap.size _ at G
            have D := D.alloc (.cells #[.int .i64 0, .int .i64 0, .string ⟨#[]⟩, .int .i64 0, .bool false, .slice none 0 0] 60)
            go_wp2_with fail
            refine nextS D.1 ?_
            go_wp2_with fail
            refine (numC_any T gr l3 e3 8 l4 e4 x4 _ HX4.out D.1 D.2.1).mono ?_
            rintro e v4 ⟨rfl, r4, o4⟩
            have G := G.call D o4
            have D := D.call r4 o4
            clear r4 o4
            go_wp2_with fail
            refine nextS D.1 ?_
            go_wp2_with fail
            refine nextS D.1 ?_
            have Df := D.row G #[.int .i64 (x1 : Int), .int .i64 (x2 : Int), .string (str x3), .int .i64 (x4 : Int), .bool false, .slice none 0 0]
            have Gf := G.row #[.int .i64 (x1 : Int), .int .i64 (x2 : Int), .string (str x3), .int .i64 (x4 : Int), .bool false, .slice none 0 0]
            refine wpList_store_row rfl 60 _ _ rfl _ #[.int .i64 (x1 : Int), .int .i64 (x2 : Int), .string (str x3), .int .i64 (x4 : Int), .bool false, .slice none 0 0] rfl rfl 60 _ G.1 (head_info _ _ _ _ _ _) rfl (by simp [Value.oneCell']) ?_
            go_wp2_with fail
            refine nextS Df.1 ?_
            go_wp2_with fail
            refine ends_normal ?_
            go_wp2_with fail
            go_meet
            exact ⟨_, rfl, Df, Gf⟩
        · have Gf := HB.new (cs := #[.int .i64 (x1 : Int), .int .i64 (x2 : Int), .string (str x3), .int .i64 (x4 : Int), .bool false, .slice none 0 0]) D
          change HB w _ w.heap.size (v2).heap.size _ at Gf
          have Df := D.alloc (.cells #[.int .i64 (x1 : Int), .int .i64 (x2 : Int), .string (str x3), .int .i64 (x4 : Int), .bool false, .slice none 0 0] 60)
          have G := HB.new (cs := #[.int .i64 0, .int .i64 0, .string ⟨#[]⟩, .int .i64 0, .bool false, .slice none 0 0]) D
          change HB w _ w.heap.size (v2).heap.size _ at G
          have D := D.alloc (.cells #[.int .i64 0, .int .i64 0, .string ⟨#[]⟩, .int .i64 0, .bool false, .slice none 0 0] 60)
          go_wp2_with fail
          refine nextS D.1 ?_
          go_wp2_with fail
          refine (textC_any gr l2 e2 l3 e3 x3 _ HX3.out D.2.1).mono ?_
          rintro e v3 ⟨rfl, r3, o3⟩
          have G := G.call D o3
          have D := D.call r3 o3
          clear r3 o3
          go_wp2_with fail
          refine nextS D.1 ?_
          go_wp2_with fail
          refine (numC_any T gr l3 e3 8 l4 e4 x4 _ HX4.out D.1 D.2.1).mono ?_
          rintro e v4 ⟨rfl, r4, o4⟩
          have G := G.call D o4
          have D := D.call r4 o4
          clear r4 o4
          go_wp2_with fail
          refine nextS D.1 ?_
          go_wp2_with fail
          refine nextS D.1 ?_
          have Df := D.row G #[.int .i64 (x1 : Int), .int .i64 (x2 : Int), .string (str x3), .int .i64 (x4 : Int), .bool false, .slice none 0 0]
          have Gf := G.row #[.int .i64 (x1 : Int), .int .i64 (x2 : Int), .string (str x3), .int .i64 (x4 : Int), .bool false, .slice none 0 0]
          refine wpList_store_row rfl 60 _ _ rfl _ #[.int .i64 (x1 : Int), .int .i64 (x2 : Int), .string (str x3), .int .i64 (x4 : Int), .bool false, .slice none 0 0] rfl rfl 60 _ G.1 (head_info _ _ _ _ _ _) rfl (by simp [Value.oneCell']) ?_
          go_wp2_with fail
          refine nextS Df.1 ?_
          go_wp2_with fail
          refine ends_normal ?_
          go_wp2_with fail
          go_meet
          exact ⟨_, rfl, Df, Gf⟩
      · have Gf := HB.new (cs := #[.int .i64 (x1 : Int), .int .i64 (x2 : Int), .string (str x3), .int .i64 (x4 : Int), .bool false, .slice none 0 0]) D
        change HB w _ w.heap.size (v1).heap.size _ at Gf
        have Df := D.alloc (.cells #[.int .i64 (x1 : Int), .int .i64 (x2 : Int), .string (str x3), .int .i64 (x4 : Int), .bool false, .slice none 0 0] 60)
        have G := HB.new (cs := #[.int .i64 0, .int .i64 0, .string ⟨#[]⟩, .int .i64 0, .bool false, .slice none 0 0]) D
        change HB w _ w.heap.size (v1).heap.size _ at G
        have D := D.alloc (.cells #[.int .i64 0, .int .i64 0, .string ⟨#[]⟩, .int .i64 0, .bool false, .slice none 0 0] 60)
        go_wp2_with fail
        refine nextS D.1 ?_
        go_wp2_with fail
        refine (numC_any T gr l1 e1 2 l2 e2 x2 _ HX2.out D.1 D.2.1).mono ?_
        rintro e v2 ⟨rfl, r2, o2⟩
        have G := G.call D o2
        have D := D.call r2 o2
        clear r2 o2
        go_wp2_with fail
        refine nextS D.1 ?_
        go_wp2_with fail
        refine (textC_any gr l2 e2 l3 e3 x3 _ HX3.out D.2.1).mono ?_
        rintro e v3 ⟨rfl, r3, o3⟩
        have G := G.call D o3
        have D := D.call r3 o3
        clear r3 o3
        go_wp2_with fail
        refine nextS D.1 ?_
        go_wp2_with fail
        refine (numC_any T gr l3 e3 8 l4 e4 x4 _ HX4.out D.1 D.2.1).mono ?_
        rintro e v4 ⟨rfl, r4, o4⟩
        have G := G.call D o4
        have D := D.call r4 o4
        clear r4 o4
        go_wp2_with fail
        refine nextS D.1 ?_
        go_wp2_with fail
        refine nextS D.1 ?_
        have Df := D.row G #[.int .i64 (x1 : Int), .int .i64 (x2 : Int), .string (str x3), .int .i64 (x4 : Int), .bool false, .slice none 0 0]
        have Gf := G.row #[.int .i64 (x1 : Int), .int .i64 (x2 : Int), .string (str x3), .int .i64 (x4 : Int), .bool false, .slice none 0 0]
        refine wpList_store_row rfl 60 _ _ rfl _ #[.int .i64 (x1 : Int), .int .i64 (x2 : Int), .string (str x3), .int .i64 (x4 : Int), .bool false, .slice none 0 0] rfl rfl 60 _ G.1 (head_info _ _ _ _ _ _) rfl (by simp [Value.oneCell']) ?_
        go_wp2_with fail
        refine nextS Df.1 ?_
        go_wp2_with fail
        refine ends_normal ?_
        go_wp2_with fail
        go_meet
        exact ⟨_, rfl, Df, Gf⟩
    · have Gf := HB.new (cs := #[.int .i64 (x1 : Int), .int .i64 (x2 : Int), .string (str x3), .int .i64 (x4 : Int), .bool false, .slice none 0 0]) D
      change HB w _ w.heap.size (wc).heap.size _ at Gf
      have Df := D.alloc (.cells #[.int .i64 (x1 : Int), .int .i64 (x2 : Int), .string (str x3), .int .i64 (x4 : Int), .bool false, .slice none 0 0] 60)
      have G := HB.new (cs := #[.int .i64 0, .int .i64 0, .string ⟨#[]⟩, .int .i64 0, .bool false, .slice none 0 0]) D
      change HB w _ w.heap.size (wc).heap.size _ at G
      have D := D.alloc (.cells #[.int .i64 0, .int .i64 0, .string ⟨#[]⟩, .int .i64 0, .bool false, .slice none 0 0] 60)
      go_wp2_with fail
      refine nextS D.1 ?_
      go_wp2_with fail
      refine (numC_any T gr l0 e0 1 l1 e1 x1 _ HX1.out D.1 D.2.1).mono ?_
      rintro e v1 ⟨rfl, r1, o1⟩
      have G := G.call D o1
      have D := D.call r1 o1
      clear r1 o1
      go_wp2_with fail
      refine nextS D.1 ?_
      go_wp2_with fail
      refine (numC_any T gr l1 e1 2 l2 e2 x2 _ HX2.out D.1 D.2.1).mono ?_
      rintro e v2 ⟨rfl, r2, o2⟩
      have G := G.call D o2
      have D := D.call r2 o2
      clear r2 o2
      go_wp2_with fail
      refine nextS D.1 ?_
      go_wp2_with fail
      refine (textC_any gr l2 e2 l3 e3 x3 _ HX3.out D.2.1).mono ?_
      rintro e v3 ⟨rfl, r3, o3⟩
      have G := G.call D o3
      have D := D.call r3 o3
      clear r3 o3
      go_wp2_with fail
      refine nextS D.1 ?_
      go_wp2_with fail
      refine (numC_any T gr l3 e3 8 l4 e4 x4 _ HX4.out D.1 D.2.1).mono ?_
      rintro e v4 ⟨rfl, r4, o4⟩
      have G := G.call D o4
      have D := D.call r4 o4
      clear r4 o4
      go_wp2_with fail
      refine nextS D.1 ?_
      go_wp2_with fail
      refine nextS D.1 ?_
      have Df := D.row G #[.int .i64 (x1 : Int), .int .i64 (x2 : Int), .string (str x3), .int .i64 (x4 : Int), .bool false, .slice none 0 0]
      have Gf := G.row #[.int .i64 (x1 : Int), .int .i64 (x2 : Int), .string (str x3), .int .i64 (x4 : Int), .bool false, .slice none 0 0]
      refine wpList_store_row rfl 60 _ _ rfl _ #[.int .i64 (x1 : Int), .int .i64 (x2 : Int), .string (str x3), .int .i64 (x4 : Int), .bool false, .slice none 0 0] rfl rfl 60 _ G.1 (head_info _ _ _ _ _ _) rfl (by simp [Value.oneCell']) ?_
      go_wp2_with fail
      refine nextS Df.1 ?_
      go_wp2_with fail
      refine ends_normal ?_
      go_wp2_with fail
      go_meet
      exact ⟨_, rfl, Df, Gf⟩
  case rest =>
  obtain ⟨g8, rfl, D2, G⟩ := hcut
  clear D HX1 HX2 HX3 HX4
  obtain ⟨i0, hi0, hz0, hz1, hz2⟩ := info_parts info_int
  go_wp2_with fail
  refine (numC_any T gr l4 e4 1 l5 e5 x5 _ HX5.out D2.1 D2.2.1).mono ?_
  rintro e w5 ⟨rfl, r5, o5⟩
  have G5 := G.call D2 o5
  have D5 := D2.call r5 o5
  obtain ⟨cb, hcb, hcd⟩ : ∃ cb, (((x5 : Nat) : Int) == 1) = cb ∧ decide (x5 = 1) = cb := ⟨_, rfl, by rw [Bool.eq_iff_iff]; simp; omega⟩
  have HCD := Lib.hid hcd
  have q4 := G5.1.cell 4
  have q4f := G5.1.frozen 4
  simp only [List.getElem?_toArray, List.getElem?_cons_zero, List.getElem?_cons_succ] at q4
  have D6 := D5.set G5 4 (.bool cb)
  have G6 : HB w _ w.heap.size g8 #[.int .i64 (x1 : Int), .int .i64 (x2 : Int), .string (str x3), .int .i64 (x4 : Int), .bool cb, .slice none 0 0] := G5.set 4 (.bool cb)
  clear hcd D2 G G5 D5 r5 o5 HX5
  go_wp2_with fail
  refine (numC_any T gr l5 e5 1 l6 e6 x6 _ HX6.out D6.1 D6.2.1).mono ?_
  rintro e w6 ⟨rfl, r6, o6⟩
  have G7 := G6.call D6 o6
  have D7 := D6.call r6 o6
  clear D6 G6 HX6 r6 o6 q4 q4f
  go_wp2_with fail
  go_loopw [48] (fun i wr => ∃ (k : Nat) (A2 : Option Addr) (c2 : Nat), k ≤ x6 ∧ i = .int .i64 k ∧ DS w wr T gr w.heap.size (rk k l6 e6).1 (rk k l6 e6).2.1 ∧ HB w wr w.heap.size g8 #[.int .i64 (x1 : Int), .int .i64 (x2 : Int), .string (str x3), .int .i64 (x4 : Int), .bool cb, .slice A2 k c2] ∧ Own wr w.heap.size 3 1 A2 k c2 (iv (rk k l6 e6).2.2)) (fun i _ => x6 - (intOf i).toNat)
  case atStart => exact ⟨0, none, 0, Nat.zero_le _, rfl, D7, G7, Own.nil _ _ _ _ _⟩
  case round =>
    obtain ⟨k, A2, c2, hk, rfl, D, G, hown⟩ := hrel
    by_cases hlt : k < x6
    · obtain ⟨t, ht⟩ : ∃ t, t = rk k l6 e6 := ⟨_, rfl⟩
      have hrk : rk (k + 1) l6 e6 = ((nm t.1 t.2.1 2).1, (nm t.1 t.2.1 2).2.1, t.2.2 ++ [((nm t.1 t.2.1 2).2.2 : Int)]) := by rw [ht]; rfl
      rw [← ht] at D hown
      obtain ⟨lk, ek, vs⟩ := t
      obtain ⟨l9, e9, x9, hx9⟩ : ∃ l9 e9 x9, nm lk ek 2 = (l9, e9, x9) := ⟨_, _, _, rfl⟩
      simp only [hx9] at hrk
      simp only at D hown
      have HXK := Lib.hid hx9
      have HRK : Hid (rk (k + 1) l6 e6 = (l9, e9, vs ++ [(x9 : Int)])) := Lib.hid hrk
      have hiv : iv (vs ++ [(x9 : Int)]) = iv vs ++ [.int .i64 (x9 : Int)] := by rw [iv_append]; rfl
      have HIV := Lib.hid hiv
      clear ht hrk hx9 hiv D7 G7
      have q5 := G.1.cell 5
      simp only [List.getElem?_toArray, List.getElem?_cons_zero, List.getElem?_cons_succ] at q5
      go_wp2_with fail
      refine wp_region_seqS ((fun _ => True)) (.take 0 .addr (.take 2 .copy (.fork 1 (.alone 3 (.alone 4 (.alone 5 (.take 6 .addr (.alone 7 .fin))))) 3 (.fork 1 (.alone 4 (.alone 5 (.take 6 .addr (.alone 7 .fin)))) 4 (.alone 1 (.alone 5 (.take 6 .addr (.alone 7 .fin)))))))) (by kernel_rfl) (by kernel_rfl) (by kernel_rfl) ?_ ?_
      · trivial
      have D := D.drew
      have G := G.drew
      have hown := hown.drew
      simp only [preS, nxtS, List.getElem?_toArray, List.getElem?_cons_zero, List.getElem?_cons_succ, opAt, ghosts, List.nil_append]
      go_wp2_with fail
      refine next_fork ?_ ?_
      · go_wp2_with fail
        first | refine nextS (S := fun _ => True) trivial ?_ | refine ends_normal ?_
        go_wp2_with fail
        refine (numC_any T gr lk ek 2 l9 e9 x9 _ HXK.out D.1 D.2.1).mono ?_
        rintro e vk ⟨rfl, rk9, ok9⟩
        have G := G.call D ok9
        have hown := hown.only ok9 (fun k hk => D.ownI hown k hk)
        have D := D.call rk9 ok9
        have q5 := G.1.cell 5
        simp only [List.getElem?_toArray, List.getElem?_cons_zero, List.getElem?_cons_succ] at q5
        go_wp2_with fail
        first | refine nextS (S := fun _ => True) trivial ?_ | refine ends_normal ?_
        go_wp2_with fail
        first | refine nextS (S := fun _ => True) trivial ?_ | refine ends_normal ?_
        have G := G.alloc (.cells #[.int .i64 (x9 : Int)] 3)
        have D := D.alloc (.cells #[.int .i64 (x9 : Int)] 3)
        have hown := hown.alloc (.cells #[.int .i64 (x9 : Int)] 3)
        have q5 := G.1.cell 5
        simp only [List.getElem?_toArray, List.getElem?_cons_zero, List.getElem?_cons_succ] at q5
        go_wp2_with (at_builtin; refine wpList_app _ rfl _ _ 43 43 rfl w.heap.size 3 i0 _ 1 8 Try.underlying43 hi0 hz0 hz1 hz2 rfl A2 k c2 _ rfl hown _ 1 _ rfl (Src.new Try.underlying43 rfl (by simp [Value.oneCell'])) (by simp only [maxLen]; omega) (by omega) (D.2.2.2.1.size) ?_; intro A3 c3 w3 hown3 hg3 hb3)
        have hrow := fun k hk => (⟨(hown.lt k hk).1, hown.ty k hk⟩ : w.heap.size ≤ k ∧ _)
        have G3 := G.grown hg3 (fun k hk => hown.ty k hk)
        have D3 := D.grown hg3 hrow
        have q5 := G3.1.cell 5
        have q6 := G3.1.frozen 5
        simp only [List.getElem?_toArray, List.getElem?_cons_zero, List.getElem?_cons_succ] at q5
        first | refine nextS (S := fun _ => True) trivial ?_ | refine ends_normal ?_
        go_wp2_with fail
        first | refine nextS (S := fun _ => True) trivial ?_ | refine ends_normal ?_
        go_wp2_with fail
        refine ends_normal ?_
        go_wp2_with fail
        go_roundw
        case rel => exact ⟨k + 1, A3, c3, by omega, by go_num, by rw [HRK.out]; exact D3.set G3 5 _, G3.set 5 _, by rw [HRK.out]; show Own _ _ _ _ _ _ _ (iv (vs ++ _)); rw [HIV.out]; exact (hown3.setCell (p := ⟨g8, 5, none⟩) (fun k hk => own_ne hown3 G3.1 k hk) _)⟩
        case measure => simp [intOf]; omega
      · go_wp2_with fail
        refine (numC_any T gr lk ek 2 l9 e9 x9 _ HXK.out D.1 D.2.1).mono ?_
        rintro e vk ⟨rfl, rk9, ok9⟩
        have G := G.call D ok9
        have hown := hown.only ok9 (fun k hk => D.ownI hown k hk)
        have D := D.call rk9 ok9
        have q5 := G.1.cell 5
        simp only [List.getElem?_toArray, List.getElem?_cons_zero, List.getElem?_cons_succ] at q5
        go_wp2_with fail
        first | refine nextS (S := fun _ => True) trivial ?_ | refine ends_normal ?_
        go_wp2_with fail
        refine next_fork ?_ ?_
        · go_wp2_with fail
          first | refine nextS (S := fun _ => True) trivial ?_ | refine ends_normal ?_
          go_wp2_with fail
          first | refine nextS (S := fun _ => True) trivial ?_ | refine ends_normal ?_
          have G := G.alloc (.cells #[.int .i64 (x9 : Int)] 3)
          have D := D.alloc (.cells #[.int .i64 (x9 : Int)] 3)
          have hown := hown.alloc (.cells #[.int .i64 (x9 : Int)] 3)
          have q5 := G.1.cell 5
          simp only [List.getElem?_toArray, List.getElem?_cons_zero, List.getElem?_cons_succ] at q5
          go_wp2_with (at_builtin; refine wpList_app _ rfl _ _ 43 43 rfl w.heap.size 3 i0 _ 1 8 Try.underlying43 hi0 hz0 hz1 hz2 rfl A2 k c2 _ rfl hown _ 1 _ rfl (Src.new Try.underlying43 rfl (by simp [Value.oneCell'])) (by simp only [maxLen]; omega) (by omega) (D.2.2.2.1.size) ?_; intro A3 c3 w3 hown3 hg3 hb3)
          have hrow := fun k hk => (⟨(hown.lt k hk).1, hown.ty k hk⟩ : w.heap.size ≤ k ∧ _)
          have G3 := G.grown hg3 (fun k hk => hown.ty k hk)
          have D3 := D.grown hg3 hrow
          have q5 := G3.1.cell 5
          have q6 := G3.1.frozen 5
          simp only [List.getElem?_toArray, List.getElem?_cons_zero, List.getElem?_cons_succ] at q5
          first | refine nextS (S := fun _ => True) trivial ?_ | refine ends_normal ?_
          go_wp2_with fail
          first | refine nextS (S := fun _ => True) trivial ?_ | refine ends_normal ?_
          go_wp2_with fail
          refine ends_normal ?_
          go_wp2_with fail
          go_roundw
          case rel => exact ⟨k + 1, A3, c3, by omega, by go_num, by rw [HRK.out]; exact D3.set G3 5 _, G3.set 5 _, by rw [HRK.out]; show Own _ _ _ _ _ _ _ (iv (vs ++ _)); rw [HIV.out]; exact (hown3.setCell (p := ⟨g8, 5, none⟩) (fun k hk => own_ne hown3 G3.1 k hk) _)⟩
          case measure => simp [intOf]; omega
        · go_wp2_with fail
          first | refine nextS (S := fun _ => True) trivial ?_ | refine ends_normal ?_
          have G := G.alloc (.cells #[.int .i64 (x9 : Int)] 3)
          have D := D.alloc (.cells #[.int .i64 (x9 : Int)] 3)
          have hown := hown.alloc (.cells #[.int .i64 (x9 : Int)] 3)
          have q5 := G.1.cell 5
          simp only [List.getElem?_toArray, List.getElem?_cons_zero, List.getElem?_cons_succ] at q5
          go_wp2_with fail
          first | refine nextS (S := fun _ => True) trivial ?_ | refine ends_normal ?_
          go_wp2_with (at_builtin; refine wpList_app _ rfl _ _ 43 43 rfl w.heap.size 3 i0 _ 1 8 Try.underlying43 hi0 hz0 hz1 hz2 rfl A2 k c2 _ rfl hown _ 1 _ rfl (Src.new Try.underlying43 rfl (by simp [Value.oneCell'])) (by simp only [maxLen]; omega) (by omega) (D.2.2.2.1.size) ?_; intro A3 c3 w3 hown3 hg3 hb3)
          have hrow := fun k hk => (⟨(hown.lt k hk).1, hown.ty k hk⟩ : w.heap.size ≤ k ∧ _)
          have G3 := G.grown hg3 (fun k hk => hown.ty k hk)
          have D3 := D.grown hg3 hrow
          have q5 := G3.1.cell 5
          have q6 := G3.1.frozen 5
          simp only [List.getElem?_toArray, List.getElem?_cons_zero, List.getElem?_cons_succ] at q5
          first | refine nextS (S := fun _ => True) trivial ?_ | refine ends_normal ?_
          go_wp2_with fail
          first | refine nextS (S := fun _ => True) trivial ?_ | refine ends_normal ?_
          go_wp2_with fail
          refine ends_normal ?_
          go_wp2_with fail
          go_roundw
          case rel => exact ⟨k + 1, A3, c3, by omega, by go_num, by rw [HRK.out]; exact D3.set G3 5 _, G3.set 5 _, by rw [HRK.out]; show Own _ _ _ _ _ _ _ (iv (vs ++ _)); rw [HIV.out]; exact (hown3.setCell (p := ⟨g8, 5, none⟩) (fun k hk => own_ne hown3 G3.1 k hk) _)⟩
          case measure => simp [intOf]; omega
    · obtain rfl : k = x6 := by omega
      have hvl := rk_length k l6 e6
      have hd := HD2.out
      rw [HCD.out] at hd
      obtain ⟨t, ht⟩ : ∃ t, t = rk k l6 e6 := ⟨_, rfl⟩
      rw [← ht] at D hown hvl hd
      obtain ⟨l7, e7, vs⟩ := t
      simp only at D hown hvl hd
      have HD3 := Lib.hid hd
      have hR := fun u hu => hRight_any ⟨(x1 : Int), (x2 : Int), x3, (x4 : Int), cb, vs⟩ A2 c2 u hu (by simp only; omega) (by simp only; omega)
      simp only at hR
      rw [hvl] at hR
      have HR := Lib.hid hR
      have HVL := Lib.hid hvl
      have hkc : k ≤ c2 := hown.2.1
      clear hd ht hR hvl HD2 HCD hcb D7 G7
      have q0 := D.1.cell 0
      simp only [List.getElem?_toArray, List.getElem?_cons_zero] at q0
      go_wp2_with fail
      refine (end_any gr l7 e7 _ D.2.1).mono ?_
      rintro e w8 ⟨rfl, rfl⟩
      by_cases hend : endOf l7 e7 = 0
      · have HE := Lib.hid hend
        rw [hend]
        clear hend
        by_cases hc1 : x5 ≤ 1
        · have hc2 : ¬ ((1 : Int) < (x5 : Int)) := by omega
          obtain ⟨⟨f1, f2, f3, f4, f5, f6⟩, f7⟩ := G.1.six
          go_wp2_with fail
          refine (HR.out _ hown.row).mono ?_
          rintro e w9 ⟨rfl, hb9⟩
          have hz9 := D.2.2.1.belowAll hb9
          have hg9 := G.1.belowAll hb9
          have hbb9 := below_all D.2.2.2.1 hb9
          have hown9 := hown.below hb9
          clear f1 f2 f3 f4 f5 f6 f7 q0
          cases hrt : (⟨(x1 : Int), (x2 : Int), x3, (x4 : Int), cb, vs⟩ : Hd).right
          · have HRT := Lib.hid hrt
            clear hrt
            obtain ⟨⟨f1, f2, f3, f4, f5, f6⟩, ⟨g1, g2, g3, g4, g5, g6⟩, hz2, hbe⟩ := (hz9).put6 (.int .i64 0) (.int .i64 0) (.string ⟨#[]⟩) (.int .i64 0) (.bool false) (.slice none 0 0)
            go_wp2_with fail
            (try simp only [Exit.inBlock, Exit.then])
            refine bodyPost_ret (results_row_tmp rfl _ _ _ 60 _ (0, 0) _ rfl hz2 Try.underlying60 rfl (head_info _ _ _ _ _ _)) rfl ?_
            exact hdec_no (by rw [HD3.out, if_pos (.inr (.inr HRT.out))]) (hbe w _ hbb9 (Nat.le_refl _))
          · have HRT := Lib.hid hrt
            clear hrt
            have hd4 : decH b = (⟨(x1 : Int), (x2 : Int), x3, (x4 : Int), cb, vs⟩, 0) := by
              rw [HD3.out, if_neg]
              rintro (h | h | h)
              · exact h HE.out
              · omega
              · rw [HRT.out] at h
                cases h
            have HD4 := Lib.hid hd4
            clear hd4
            have hz2 := hz9.row #[.int .i64 (x1 : Int), .int .i64 (x2 : Int), .string (str x3), .int .i64 (x4 : Int), .bool cb, .slice A2 k c2]
            have hon2 := only_row w9 w.heap.size #[.int .i64 (x1 : Int), .int .i64 (x2 : Int), .string (str x3), .int .i64 (x4 : Int), .bool cb, .slice A2 k c2]
            have hrowz := (hown9.only hon2 (own_ne hown9 hz9)).row
            go_upto_region 17 with fail
            refine wp_region_lit ?_
            refine wpList_load_row rfl 60 _ rfl g8 rfl 60 _ (0, 0) _ hg9 Try.underlying60 rfl (head_info _ _ _ _ _ _) ?_
            refine wpList_store_row rfl 60 _ _ rfl w.heap.size #[.int .i64 (x1 : Int), .int .i64 (x2 : Int), .string (str x3), .int .i64 (x4 : Int), .bool cb, .slice A2 k c2] rfl rfl 60 _ hz9 (head_info _ _ _ _ _ _) rfl (by simp [Value.oneCell']) ?_
            go_wp2_with fail
            (try simp only [Exit.inBlock, Exit.then])
            refine bodyPost_ret (results_row_tmp rfl _ _ _ 60 _ (0, 0) _ rfl hz2 Try.underlying60 rfl (head_info _ _ _ _ _ _)) rfl ?_
            refine ⟨A2, c2, ?_, ?_, ?_, hbb9.trans (hon2.belowB (fun k hk => by have : k = w.heap.size := hk; omega) hbb9.size), ?_⟩
            · rw [HD4.out]
              simp only
              rw [HVL.out]
              rfl
            · rw [HD4.out]
              simp only
              rw [HVL.out]
              exact hkc
            · rw [HD4.out]
              exact hrowz
            · rw [HD4.out]
              exact Ity.of_own (hown9.only hon2 (own_ne hown9 hz9))
        · have hc2 : (1 : Int) < (x5 : Int) := by omega
          obtain ⟨⟨f1, f2, f3, f4, f5, f6⟩, ⟨g1, g2, g3, g4, g5, g6⟩, hz2, hbe⟩ := (D.2.2.1).put6 (.int .i64 0) (.int .i64 0) (.string ⟨#[]⟩) (.int .i64 0) (.bool false) (.slice none 0 0)
          go_wp2_with fail
          (try simp only [Exit.inBlock, Exit.then])
          refine bodyPost_ret (results_row_tmp rfl _ _ _ 60 _ (0, 0) _ rfl hz2 Try.underlying60 rfl (head_info _ _ _ _ _ _)) rfl ?_
          exact hdec_no (by rw [HD3.out, if_pos (.inr (.inl (by omega)))]) (hbe w _ D.2.2.2.1 (Nat.le_refl _))
      · obtain ⟨z, hz⟩ : ∃ z, z = endOf l7 e7 := ⟨_, rfl⟩
        rw [← hz] at hend ⊢
        have HZ := Lib.hid hz
        clear hz
        have hz1 : (z != 0) = true := by simpa using hend
        have HE := Lib.hid hend
        clear hend
        obtain ⟨⟨f1, f2, f3, f4, f5, f6⟩, ⟨g1, g2, g3, g4, g5, g6⟩, hz2, hbe⟩ := (D.2.2.1).put6 (.int .i64 0) (.int .i64 0) (.string ⟨#[]⟩) (.int .i64 0) (.bool false) (.slice none 0 0)
        go_wp2_with fail
        (try simp only [Exit.inBlock, Exit.then])
        refine bodyPost_ret (results_row_tmp rfl _ _ _ 60 _ (0, 0) _ rfl hz2 Try.underlying60 rfl (head_info _ _ _ _ _ _)) rfl ?_
        exact hdec_no (by rw [HD3.out, if_pos (.inl (by rw [← HZ.out]; exact HE.out))]) (hbe w _ D.2.2.2.1 (Nat.le_refl _))
/-- Decode's answer. -/
theorem hDecode_any (A : Option Addr) (n c : Nat) (b : List UInt8) (w : World) (hn : b.length = n) (hnc : n ≤ c) (hr : Row w A (bv b)) (hsz : n ≤ 140737488355300) :
    Calls Try.prog 62 #[.slice A n c] w (HDecPost w b) := by
  cases ho : opened b with
  | none => exact hDecode_sum A n c b w hn hnc hr hsz ho
  | some x =>
    by_cases hl : n - 4 < 10
    · exact hDecode_short A n c b w hn hnc hr hsz x ho hl
    · by_cases hm : x.take 10 = magic
      · exact hDecode_main A n c b w hn hnc hr hsz x ho hl hm
      · exact hDecode_magic A n c b w hn hnc hr hsz x ho hl hm
end Go.Proofs.Ytbljacafmkdlmaa
