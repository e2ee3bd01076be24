/- The law StoreShrinks. Condition: the script's length fits memory. -/
import Derived.Test.YtgblekjkphnjfaaCat
namespace Go.Proofs.Ytgblekjkphnjfaa
open Go.RowKit
set_option linter.unusedSimpArgs false

theorem made_bv (n : Nat) : madeCells (Value.int .u8 0).cells n = (bv (List.replicate n 0)).toArray := by
  apply Array.ext
  · rw [size_madeCells, List.size_toArray, bv_length, List.length_replicate]
  · intro i h1 h2
    simp [madeCells, bv, Value.cells, Nat.mod_one]
theorem row_bv (u : World) (l : List UInt8) (t : TypeId) : Row (u.alloc (.cells (bv l).toArray t)) (some ⟨u.heap.size, 0, none⟩) (bv l) :=
  .inr ⟨_, 0, rfl, fun j x hx => by rw [World.cell?_alloc_new]; simpa using hx⟩
theorem makeN (n : Nat) (hn : n ≤ 1000) (z : Int) (hz : z = n) (u : World) : (Instr.makeSlice 29 (.int .i64 z) (.int .i64 z)).run Try.prog u = .ok (.slice (some ⟨u.heap.size, 0, none⟩) n n) (u.alloc (.cells (bv (List.replicate n 0)).toArray 5)) := by
  subst hz
  obtain ⟨i0, hi0, hz0, hz1, hz2⟩ := info_parts info_u8
  have h := run_makeSlice (P := Try.prog) u 29 5 i0 (.int .u8 0) Try.underlying29 hi0 hz0 .i64 .i64 n n (by omega) (by omega) (by rw [hz1]; simp; omega) (by rw [hz2]; simp; omega) (by omega)
  rw [hz1, Nat.mul_one, Int.toNat_natCast, made_bv] at h
  exact h

set_option maxHeartbeats 8000000 in
theorem shrinks_law (sec : Int) (S : Option Addr) (n c : Nat) (ps : List Opv) (w : World) (hn : ps.length = n) (hr : Row w S (ocells ps)) (hn20 : n ≤ 1100000000) (hg : ∀ p ∈ ps, Opv.Good w p) :
    Calls Try.prog 6 #[.slice S n c, .int .i64 sec] w fun e w' => e = .returned (.bool true) ∧ Below w.heap.size w w' := by
  have hm := made_any 8 S n c ps w (by omega) hn hr hn20 hg
  have hfw := fun u (hu : Row u S (ocells ps)) => few_any 8 S n c ps u hn hu (by omega) (fun p hp => ⟨(hg p hp).lb, (hg p hp).lk⟩)
  have HFW := Lib.hid hfw
  clear hg hn hfw
  go_enter Try.func6, Try.ntmps6
  go_wp2_with fail
  refine hm.mono ?_
  rintro e w1 ⟨f, s, rfl, hs1, h8, hsl, hb1⟩
  clear hm
  go_wp2_with fail
  refine (HFW.out _ (hr.below hb1)).mono ?_
  rintro e w2 ⟨fb, rfl, hfb, hb2⟩
  have hb02 := below_all hb1 hb2
  have hs2 := hs1.below hb2
  clear hs1 hb1 hb2 hfb
  cases fb
  · go_wp2_with fail
    refine (alive_any _).mono ?_
    rintro e w3 ⟨rfl, hb3⟩
    go_wp2_with fail
    go_ret
    exact ⟨rfl, below_all hb02 hb3⟩
  by_cases hlo : sec < 0
  · go_wp2_with fail
    refine (alive_any _).mono ?_
    rintro e w3 ⟨rfl, hb3⟩
    go_wp2_with fail
    go_ret
    exact ⟨rfl, below_all hb02 hb3⟩
  by_cases hhi : 8 < sec
  · go_wp2_with fail
    refine (alive_any _).mono ?_
    rintro e w3 ⟨rfl, hb3⟩
    go_wp2_with fail
    go_ret
    exact ⟨rfl, below_all hb02 hb3⟩
  have h16 := fun x (hx : x ∈ s.l) => (hs2.ok.w x hx).2.2
  have e1 := rdS_all h8
  have hrd := read_any w.heap.size f s w2 hs2 0 8 (by omega) (by omega)
  rw [e1] at hrd
  have hz1 : doZ s sec = (⟨sec, s.room, resL s sec, (resL s sec).length⟩, 0) := by unfold doZ; rw [if_neg (by omega)]
  obtain ⟨s2, hs2e⟩ : ∃ s2 : St, s2 = ⟨sec, s.room, resL s sec, (resL s sec).length⟩ := ⟨_, rfl⟩
  rw [← hs2e] at hz1
  have hz2 : doZ s2 8 = (⟨8, s2.room, resL s2 8, (resL s2 8).length⟩, 0) := by unfold doZ; rw [if_neg (by omega)]
  obtain ⟨s3, hs3e⟩ : ∃ s3 : St, s3 = ⟨8, s2.room, resL s2 8, (resL s2 8).length⟩ := ⟨_, rfl⟩
  rw [← hs3e] at hz2
  have hl3 : s3.l = s.l.filter fun w => decide (w.1 < sec) := by
    rw [hs3e, hs2e]
    show ((s.l.filter fun w => decide (w.1 < sec)).filter fun w => decide (w.1 < 8)) = _
    rw [List.filter_filter]
    congr 1
    funext x
    rw [Bool.eq_iff_iff]
    simp only [Bool.and_eq_true, decide_eq_true_eq]
    omega
  have hk3 : s3.l.length - s3.k = 0 := by rw [hs3e]; exact Nat.sub_self _
  have e3 := rdS_all (s := s3) (by rw [hs3e])
  have h163 : ∀ x ∈ s3.l, x.2.length = 16 := fun x hx => h16 x (by rw [hl3] at hx; exact (List.mem_filter.1 hx).1)
  obtain ⟨ks, hks⟩ : ∃ ks : Nat, sec = ks := ⟨sec.toNat, by omega⟩
  have hP1 : (cat s3.l 0 8).take (16 * ks) = (cat s.l 0 8).take (16 * ks) := by
    have e5 := cat_take h163 0 ks (8 - ks)
    have e6 := cat_take h16 0 ks (8 - ks)
    rw [show ks + (8 - ks) = 8 by omega] at e5 e6
    rw [e5, e6]
    refine cat_congr fun j hj => ?_
    rw [hl3, sect_res, if_pos (by omega)]
  have hP2 : (cat s3.l 0 8).drop (16 * ks) = List.replicate (16 * (8 - ks)) 0 := by
    have e5 := cat_drop h163 0 ks (8 - ks)
    rw [show ks + (8 - ks) = 8 by omega] at e5
    rw [e5]
    refine cat_noughts fun j hj => ?_
    rw [hl3, sect_res, if_neg (by omega)]
  have hW1 : (cat s.l 0 8).length = 128 := cat_length h16 0 8
  have hW3 : (cat s3.l 0 8).length = 128 := cat_length h163 0 8
  obtain ⟨WS, hWS⟩ : ∃ WS, WS = cat s.l 0 8 := ⟨_, rfl⟩
  obtain ⟨NW, hNW⟩ : ∃ NW, NW = cat s3.l 0 8 := ⟨_, rfl⟩
  rw [← hWS] at hP1 hW1 hrd
  rw [← hNW] at hP1 hP2 hW3 e3
  have E3 := Lib.hid e3
  have HZ1 := Lib.hid hz1
  have HZ2 := Lib.hid hz2
  have HK3 := Lib.hid hk3
  have HP1 := Lib.hid hP1
  have HP2 := Lib.hid hP2
  have HW1 := Lib.hid hW1
  have HW3 := Lib.hid hW3
  have HKS := Lib.hid hks
  clear e1 e3 hz1 hz2 hs2e hs3e hl3 hk3 h16 h163 hWS hNW hP1 hP2 hW1 hW3 hks h8 hsl
  go_wp2_with fail
  refine hrd.mono ?_
  rintro e w3 ⟨A1, m1, c1, rfl, hl1, hown1, hb3⟩
  have hm1 : m1 = 128 := by rw [← hl1]; exact HW1.out
  subst hm1
  have hs3 := hs2.below hb3
  have hb03 := below_all hb02 hb3
  have hb1s := hb3.size
  have hx1 := hown1.row
  have hc1 := hown1.2.1
  have ha1 : hown1 = hown1 := rfl
  have hlow1 : ∀ a, A1 = some a → w2.heap.size ≤ a.block := fun a ha => by
    obtain ⟨_, _, _, h0 | ⟨g, cur, lo, hi, he, hB, _⟩⟩ := hown1
    · omega
    · rw [ha] at he
      injection he with he
      rw [he]
      exact hB
  have hw1 : Away w3 A1 (bv WS) (Foot f) := ⟨hx1, fun _ a ha hf => by
    have h1 := hlow1 a ha
    have h2 := (hs2.foot _ hf).2
    omega⟩
  clear hrd hl1 hown1 ha1 hlow1 hs2 hb3 hb02 hx1
  have hrz := resize_any w.heap.size f s w3 hs3 sec
  rw [HZ1.out] at hrz
  go_wp2_with fail
  refine hrz.mono ?_
  rintro e w4 ⟨f4, rfl, hs4, ht4⟩
  have hw4 := hw1.turned ht4
  have hb04 := hb03.trans (ht4.belowB hs3)
  have hf4 : f4.g = f.g := ht4.same
  have hrz2 := resize_any w.heap.size f4 s2 w4 hs4 8
  rw [HZ2.out, hf4] at hrz2
  clear hrz hw1 hb03 hs3 ht4
  go_wp2_with fail
  refine hrz2.mono ?_
  rintro e w5 ⟨f5, rfl, hs5, ht5⟩
  have hw5 := hw4.turned ht5
  have hb05 := hb04.trans (ht5.belowB hs4)
  have hf5 : f5.g = f.g := ht5.same.trans hf4
  have hrd2 := read_any w.heap.size f5 s3 w5 hs5 0 8 (by omega) (by omega)
  rw [E3.out, hf5] at hrd2
  clear hrz2 hw4 hb04 hs4 ht5
  go_wp2_with fail
  refine hrd2.mono ?_
  rintro e w6 ⟨A3, m3, c3, rfl, hl3, hown3, hb6⟩
  have hm3 : m3 = 128 := by rw [← hl3]; exact HW3.out
  subst hm3
  have hs6 := hs5.below hb6
  have hb06 := below_all hb05 hb6
  have hx1 := hw5.row.below hb6
  have hc3 := hown3.2.1
  have hA3 : ∃ g3, A3 = some ⟨g3, 0, none⟩ := by
    obtain ⟨_, _, _, h0 | ⟨g, cur, lo, hi, he, hB, _⟩⟩ := hown3
    · omega
    · exact ⟨g, he⟩
  obtain ⟨g3, rfl⟩ := hA3
  have hx3 := hown3.row
  have HC1 := Lib.hid hc1
  have HC3 := Lib.hid hc3
  clear hc1 hc3
  clear hrd2 hl3 hown3 hw5 hb05 hs5 hb6
  have hcase : ks = 0 ∨ ks = 1 ∨ ks = 2 ∨ ks = 3 ∨ ks = 4 ∨ ks = 5 ∨ ks = 6 ∨ ks = 7 ∨ ks = 8 := by have := HKS.out; omega
  have hsk := HKS.out
  rcases hcase with rfl | rfl | rfl | rfl | rfl | rfl | rfl | rfl | rfl
  · obtain rfl : sec = 0 := hsk
    go_wp2_with fail
    refine wp_region_seq true (.alone 0 (.take 1 .copy (.take 2 .copy (.take 3 .int2 (.take 4 .copy (.take 5 .copy (.take 6 .copy (.take 7 .int2 (.take 8 .copy (.take 9 .copy (.take 10 .copy (.take 11 .int2 (.take 12 .copy (.take 13 .copy (.take 14 .copy (.take 15 .copy (.take 16 .cut (.take 17 (.text 29 5 9) (.take 18 .copy (.take 19 .copy (.take 20 .cut (.take 21 (.text 29 5 9) (.take 22 (.str2 9) (.take 23 .copy (.take 24 .copy (.take 25 .copy (.take 26 .copy (.take 27 .cut (.take 28 (.text 29 5 9) (.take 29 .copy (.take 30 (.len 29) (.take 31 .copy (.take 32 .int2 (.alone 33 (.take 34 (.text 29 5 9) (.take 35 (.str2 9) (.take 36 .copy (.take 37 .copy (.take 38 .copy (.alone 39 (.take 40 .int2 (.take 41 .copy (.take 42 .copy .fin))))))))))))))))))))))))))))))))))))))))))) (by kernel_rfl) (by kernel_rfl) (by kernel_rfl) ?_
    simp only [pre, nxt, List.getElem?_toArray, List.getElem?_cons_zero, List.getElem?_cons_succ, opAt, ghosts, List.nil_append, gInt, gStr, ghost, List.cons_append]
    go_wp2_with fail
    refine (alive_any _).mono ?_
    rintro e w7 ⟨rfl, hb7⟩
    have hb07 := below_all hb06.drew hb7
    have hs7 := hs6.drew.below hb7
    have hx17 := hx1.drew.below hb7
    have hx37 := hx3.drew.below hb7
    have hc1' := HC1.out
    have hc3' := HC3.out
    have hp1 : NW.take 0 = WS.take 0 := HP1.out
    obtain ⟨ZR, hZR⟩ : ∃ ZR : List UInt8, ZR = List.replicate 128 0 := ⟨_, rfl⟩
    have hp2 : NW.drop 0 = ZR := by rw [hZR]; exact HP2.out
    have hzl : ZR.length = 128 := by rw [hZR]; exact List.length_replicate
    have hr1 := hx17.take 0
    have hr3 := hx37.take 0
    have hd3 : Row w7 (some ⟨g3, 0, none⟩) (bv ZR) := by
      have h := hx37.drop 0 c3 (by rw [bv_length]; have := HW3.out; omega)
      rw [bv_drop, hp2, if_neg (by omega)] at h
      exact h
    rw [bv_take] at hr1 hr3
    rw [hp1] at hr3
    have hs1 := run_string (P := Try.prog) (n := 0) (by rw [List.length_take, HW1.out]; rfl) 29 9 5 (c := c1) Try.underlying29 Try.underlying5 Try.underlying9 hr1
    have hs3 := run_string (P := Try.prog) (n := 0) (by rw [List.length_take, HW1.out]; rfl) 29 9 5 (c := c3) Try.underlying29 Try.underlying5 Try.underlying9 hr3
    have hs4 := run_string (P := Try.prog) (n := 128) hzl 29 9 5 (c := c3) Try.underlying29 Try.underlying5 Try.underlying9 hd3
    have hmk := makeN 128 (by omega) 128 rfl w7
    rw [← hZR] at hmk
    clear hZR hp1 hp2 hr1 hd3
    go_wp2_with fail
    refine next_keep (Keep.below hb7) ?_
    go_wp2_with fail
    refine next_keep (Keep.alloc _ _) ?_
    have hs5 := run_string (P := Try.prog) (n := 128) hzl 29 9 5 (c := 128) Try.underlying29 Try.underlying5 Try.underlying9 (row_bv w7 ZR 5)
    have hr3' := hr3.alloc (.cells (bv ZR).toArray 5)
    have hb08 := hb07.alloc hb07.size (.cells (bv ZR).toArray 5)
    have hs8 := hs7.alloc (.cells (bv ZR).toArray 5)
    go_wp2_with fail
    have hlo9 := loose_any w.heap.size f5 s3 _ hs8
    rw [hf5] at hlo9
    refine hlo9.mono ?_
    rintro e w9 ⟨rfl, rfl⟩
    rw [HK3.out]
    go_wp2_with fail
    refine next_keep (Keep.refl _) ?_
    go_wp2_with fail
    refine ends_normal ?_
    go_wp2_with fail
    go_ret
    exact ⟨rfl, hb08⟩
  · obtain rfl : sec = 1 := hsk
    go_wp2_with fail
    refine wp_region_seq true (.alone 0 (.take 1 .copy (.take 2 .copy (.take 3 .int2 (.take 4 .copy (.take 5 .copy (.take 6 .copy (.take 7 .int2 (.take 8 .copy (.take 9 .copy (.take 10 .copy (.take 11 .int2 (.take 12 .copy (.take 13 .copy (.take 14 .copy (.take 15 .copy (.take 16 .cut (.take 17 (.text 29 5 9) (.take 18 .copy (.take 19 .copy (.take 20 .cut (.take 21 (.text 29 5 9) (.take 22 (.str2 9) (.take 23 .copy (.take 24 .copy (.take 25 .copy (.take 26 .copy (.take 27 .cut (.take 28 (.text 29 5 9) (.take 29 .copy (.take 30 (.len 29) (.take 31 .copy (.take 32 .int2 (.alone 33 (.take 34 (.text 29 5 9) (.take 35 (.str2 9) (.take 36 .copy (.take 37 .copy (.take 38 .copy (.alone 39 (.take 40 .int2 (.take 41 .copy (.take 42 .copy .fin))))))))))))))))))))))))))))))))))))))))))) (by kernel_rfl) (by kernel_rfl) (by kernel_rfl) ?_
    simp only [pre, nxt, List.getElem?_toArray, List.getElem?_cons_zero, List.getElem?_cons_succ, opAt, ghosts, List.nil_append, gInt, gStr, ghost, List.cons_append]
    go_wp2_with fail
    refine (alive_any _).mono ?_
    rintro e w7 ⟨rfl, hb7⟩
    have hb07 := below_all hb06.drew hb7
    have hs7 := hs6.drew.below hb7
    have hx17 := hx1.drew.below hb7
    have hx37 := hx3.drew.below hb7
    have hc1' := HC1.out
    have hc3' := HC3.out
    have hp1 : NW.take 16 = WS.take 16 := HP1.out
    obtain ⟨ZR, hZR⟩ : ∃ ZR : List UInt8, ZR = List.replicate 112 0 := ⟨_, rfl⟩
    have hp2 : NW.drop 16 = ZR := by rw [hZR]; exact HP2.out
    have hzl : ZR.length = 112 := by rw [hZR]; exact List.length_replicate
    have hr1 := hx17.take 16
    have hr3 := hx37.take 16
    have hd3 : Row w7 (some ⟨g3, 16, none⟩) (bv ZR) := by
      have h := hx37.drop 16 c3 (by rw [bv_length]; have := HW3.out; omega)
      rw [bv_drop, hp2, if_neg (by omega)] at h
      exact h
    rw [bv_take] at hr1 hr3
    rw [hp1] at hr3
    have hs1 := run_string (P := Try.prog) (n := 16) (by rw [List.length_take, HW1.out]; rfl) 29 9 5 (c := c1) Try.underlying29 Try.underlying5 Try.underlying9 hr1
    have hs3 := run_string (P := Try.prog) (n := 16) (by rw [List.length_take, HW1.out]; rfl) 29 9 5 (c := c3) Try.underlying29 Try.underlying5 Try.underlying9 hr3
    have hs4 := run_string (P := Try.prog) (n := 112) hzl 29 9 5 (c := c3 - 16) Try.underlying29 Try.underlying5 Try.underlying9 hd3
    have hmk := makeN 112 (by omega) 112 rfl w7
    rw [← hZR] at hmk
    clear hZR hp1 hp2 hr1 hd3
    go_wp2_with fail
    refine next_keep (Keep.below hb7) ?_
    go_wp2_with fail
    refine next_keep (Keep.alloc _ _) ?_
    have hs5 := run_string (P := Try.prog) (n := 112) hzl 29 9 5 (c := 112) Try.underlying29 Try.underlying5 Try.underlying9 (row_bv w7 ZR 5)
    have hr3' := hr3.alloc (.cells (bv ZR).toArray 5)
    have hb08 := hb07.alloc hb07.size (.cells (bv ZR).toArray 5)
    have hs8 := hs7.alloc (.cells (bv ZR).toArray 5)
    go_wp2_with fail
    have hlo9 := loose_any w.heap.size f5 s3 _ hs8
    rw [hf5] at hlo9
    refine hlo9.mono ?_
    rintro e w9 ⟨rfl, rfl⟩
    rw [HK3.out]
    go_wp2_with fail
    refine next_keep (Keep.refl _) ?_
    go_wp2_with fail
    refine ends_normal ?_
    go_wp2_with fail
    go_ret
    exact ⟨rfl, hb08⟩
  · obtain rfl : sec = 2 := hsk
    go_wp2_with fail
    refine wp_region_seq true (.alone 0 (.take 1 .copy (.take 2 .copy (.take 3 .int2 (.take 4 .copy (.take 5 .copy (.take 6 .copy (.take 7 .int2 (.take 8 .copy (.take 9 .copy (.take 10 .copy (.take 11 .int2 (.take 12 .copy (.take 13 .copy (.take 14 .copy (.take 15 .copy (.take 16 .cut (.take 17 (.text 29 5 9) (.take 18 .copy (.take 19 .copy (.take 20 .cut (.take 21 (.text 29 5 9) (.take 22 (.str2 9) (.take 23 .copy (.take 24 .copy (.take 25 .copy (.take 26 .copy (.take 27 .cut (.take 28 (.text 29 5 9) (.take 29 .copy (.take 30 (.len 29) (.take 31 .copy (.take 32 .int2 (.alone 33 (.take 34 (.text 29 5 9) (.take 35 (.str2 9) (.take 36 .copy (.take 37 .copy (.take 38 .copy (.alone 39 (.take 40 .int2 (.take 41 .copy (.take 42 .copy .fin))))))))))))))))))))))))))))))))))))))))))) (by kernel_rfl) (by kernel_rfl) (by kernel_rfl) ?_
    simp only [pre, nxt, List.getElem?_toArray, List.getElem?_cons_zero, List.getElem?_cons_succ, opAt, ghosts, List.nil_append, gInt, gStr, ghost, List.cons_append]
    go_wp2_with fail
    refine (alive_any _).mono ?_
    rintro e w7 ⟨rfl, hb7⟩
    have hb07 := below_all hb06.drew hb7
    have hs7 := hs6.drew.below hb7
    have hx17 := hx1.drew.below hb7
    have hx37 := hx3.drew.below hb7
    have hc1' := HC1.out
    have hc3' := HC3.out
    have hp1 : NW.take 32 = WS.take 32 := HP1.out
    obtain ⟨ZR, hZR⟩ : ∃ ZR : List UInt8, ZR = List.replicate 96 0 := ⟨_, rfl⟩
    have hp2 : NW.drop 32 = ZR := by rw [hZR]; exact HP2.out
    have hzl : ZR.length = 96 := by rw [hZR]; exact List.length_replicate
    have hr1 := hx17.take 32
    have hr3 := hx37.take 32
    have hd3 : Row w7 (some ⟨g3, 32, none⟩) (bv ZR) := by
      have h := hx37.drop 32 c3 (by rw [bv_length]; have := HW3.out; omega)
      rw [bv_drop, hp2, if_neg (by omega)] at h
      exact h
    rw [bv_take] at hr1 hr3
    rw [hp1] at hr3
    have hs1 := run_string (P := Try.prog) (n := 32) (by rw [List.length_take, HW1.out]; rfl) 29 9 5 (c := c1) Try.underlying29 Try.underlying5 Try.underlying9 hr1
    have hs3 := run_string (P := Try.prog) (n := 32) (by rw [List.length_take, HW1.out]; rfl) 29 9 5 (c := c3) Try.underlying29 Try.underlying5 Try.underlying9 hr3
    have hs4 := run_string (P := Try.prog) (n := 96) hzl 29 9 5 (c := c3 - 32) Try.underlying29 Try.underlying5 Try.underlying9 hd3
    have hmk := makeN 96 (by omega) 96 rfl w7
    rw [← hZR] at hmk
    clear hZR hp1 hp2 hr1 hd3
    go_wp2_with fail
    refine next_keep (Keep.below hb7) ?_
    go_wp2_with fail
    refine next_keep (Keep.alloc _ _) ?_
    have hs5 := run_string (P := Try.prog) (n := 96) hzl 29 9 5 (c := 96) Try.underlying29 Try.underlying5 Try.underlying9 (row_bv w7 ZR 5)
    have hr3' := hr3.alloc (.cells (bv ZR).toArray 5)
    have hb08 := hb07.alloc hb07.size (.cells (bv ZR).toArray 5)
    have hs8 := hs7.alloc (.cells (bv ZR).toArray 5)
    go_wp2_with fail
    have hlo9 := loose_any w.heap.size f5 s3 _ hs8
    rw [hf5] at hlo9
    refine hlo9.mono ?_
    rintro e w9 ⟨rfl, rfl⟩
    rw [HK3.out]
    go_wp2_with fail
    refine next_keep (Keep.refl _) ?_
    go_wp2_with fail
    refine ends_normal ?_
    go_wp2_with fail
    go_ret
    exact ⟨rfl, hb08⟩
  · obtain rfl : sec = 3 := hsk
    go_wp2_with fail
    refine wp_region_seq true (.alone 0 (.take 1 .copy (.take 2 .copy (.take 3 .int2 (.take 4 .copy (.take 5 .copy (.take 6 .copy (.take 7 .int2 (.take 8 .copy (.take 9 .copy (.take 10 .copy (.take 11 .int2 (.take 12 .copy (.take 13 .copy (.take 14 .copy (.take 15 .copy (.take 16 .cut (.take 17 (.text 29 5 9) (.take 18 .copy (.take 19 .copy (.take 20 .cut (.take 21 (.text 29 5 9) (.take 22 (.str2 9) (.take 23 .copy (.take 24 .copy (.take 25 .copy (.take 26 .copy (.take 27 .cut (.take 28 (.text 29 5 9) (.take 29 .copy (.take 30 (.len 29) (.take 31 .copy (.take 32 .int2 (.alone 33 (.take 34 (.text 29 5 9) (.take 35 (.str2 9) (.take 36 .copy (.take 37 .copy (.take 38 .copy (.alone 39 (.take 40 .int2 (.take 41 .copy (.take 42 .copy .fin))))))))))))))))))))))))))))))))))))))))))) (by kernel_rfl) (by kernel_rfl) (by kernel_rfl) ?_
    simp only [pre, nxt, List.getElem?_toArray, List.getElem?_cons_zero, List.getElem?_cons_succ, opAt, ghosts, List.nil_append, gInt, gStr, ghost, List.cons_append]
    go_wp2_with fail
    refine (alive_any _).mono ?_
    rintro e w7 ⟨rfl, hb7⟩
    have hb07 := below_all hb06.drew hb7
    have hs7 := hs6.drew.below hb7
    have hx17 := hx1.drew.below hb7
    have hx37 := hx3.drew.below hb7
    have hc1' := HC1.out
    have hc3' := HC3.out
    have hp1 : NW.take 48 = WS.take 48 := HP1.out
    obtain ⟨ZR, hZR⟩ : ∃ ZR : List UInt8, ZR = List.replicate 80 0 := ⟨_, rfl⟩
    have hp2 : NW.drop 48 = ZR := by rw [hZR]; exact HP2.out
    have hzl : ZR.length = 80 := by rw [hZR]; exact List.length_replicate
    have hr1 := hx17.take 48
    have hr3 := hx37.take 48
    have hd3 : Row w7 (some ⟨g3, 48, none⟩) (bv ZR) := by
      have h := hx37.drop 48 c3 (by rw [bv_length]; have := HW3.out; omega)
      rw [bv_drop, hp2, if_neg (by omega)] at h
      exact h
    rw [bv_take] at hr1 hr3
    rw [hp1] at hr3
    have hs1 := run_string (P := Try.prog) (n := 48) (by rw [List.length_take, HW1.out]; rfl) 29 9 5 (c := c1) Try.underlying29 Try.underlying5 Try.underlying9 hr1
    have hs3 := run_string (P := Try.prog) (n := 48) (by rw [List.length_take, HW1.out]; rfl) 29 9 5 (c := c3) Try.underlying29 Try.underlying5 Try.underlying9 hr3
    have hs4 := run_string (P := Try.prog) (n := 80) hzl 29 9 5 (c := c3 - 48) Try.underlying29 Try.underlying5 Try.underlying9 hd3
    have hmk := makeN 80 (by omega) 80 rfl w7
    rw [← hZR] at hmk
    clear hZR hp1 hp2 hr1 hd3
    go_wp2_with fail
    refine next_keep (Keep.below hb7) ?_
    go_wp2_with fail
    refine next_keep (Keep.alloc _ _) ?_
    have hs5 := run_string (P := Try.prog) (n := 80) hzl 29 9 5 (c := 80) Try.underlying29 Try.underlying5 Try.underlying9 (row_bv w7 ZR 5)
    have hr3' := hr3.alloc (.cells (bv ZR).toArray 5)
    have hb08 := hb07.alloc hb07.size (.cells (bv ZR).toArray 5)
    have hs8 := hs7.alloc (.cells (bv ZR).toArray 5)
    go_wp2_with fail
    have hlo9 := loose_any w.heap.size f5 s3 _ hs8
    rw [hf5] at hlo9
    refine hlo9.mono ?_
    rintro e w9 ⟨rfl, rfl⟩
    rw [HK3.out]
    go_wp2_with fail
    refine next_keep (Keep.refl _) ?_
    go_wp2_with fail
    refine ends_normal ?_
    go_wp2_with fail
    go_ret
    exact ⟨rfl, hb08⟩
  · obtain rfl : sec = 4 := hsk
    go_wp2_with fail
    refine wp_region_seq true (.alone 0 (.take 1 .copy (.take 2 .copy (.take 3 .int2 (.take 4 .copy (.take 5 .copy (.take 6 .copy (.take 7 .int2 (.take 8 .copy (.take 9 .copy (.take 10 .copy (.take 11 .int2 (.take 12 .copy (.take 13 .copy (.take 14 .copy (.take 15 .copy (.take 16 .cut (.take 17 (.text 29 5 9) (.take 18 .copy (.take 19 .copy (.take 20 .cut (.take 21 (.text 29 5 9) (.take 22 (.str2 9) (.take 23 .copy (.take 24 .copy (.take 25 .copy (.take 26 .copy (.take 27 .cut (.take 28 (.text 29 5 9) (.take 29 .copy (.take 30 (.len 29) (.take 31 .copy (.take 32 .int2 (.alone 33 (.take 34 (.text 29 5 9) (.take 35 (.str2 9) (.take 36 .copy (.take 37 .copy (.take 38 .copy (.alone 39 (.take 40 .int2 (.take 41 .copy (.take 42 .copy .fin))))))))))))))))))))))))))))))))))))))))))) (by kernel_rfl) (by kernel_rfl) (by kernel_rfl) ?_
    simp only [pre, nxt, List.getElem?_toArray, List.getElem?_cons_zero, List.getElem?_cons_succ, opAt, ghosts, List.nil_append, gInt, gStr, ghost, List.cons_append]
    go_wp2_with fail
    refine (alive_any _).mono ?_
    rintro e w7 ⟨rfl, hb7⟩
    have hb07 := below_all hb06.drew hb7
    have hs7 := hs6.drew.below hb7
    have hx17 := hx1.drew.below hb7
    have hx37 := hx3.drew.below hb7
    have hc1' := HC1.out
    have hc3' := HC3.out
    have hp1 : NW.take 64 = WS.take 64 := HP1.out
    obtain ⟨ZR, hZR⟩ : ∃ ZR : List UInt8, ZR = List.replicate 64 0 := ⟨_, rfl⟩
    have hp2 : NW.drop 64 = ZR := by rw [hZR]; exact HP2.out
    have hzl : ZR.length = 64 := by rw [hZR]; exact List.length_replicate
    have hr1 := hx17.take 64
    have hr3 := hx37.take 64
    have hd3 : Row w7 (some ⟨g3, 64, none⟩) (bv ZR) := by
      have h := hx37.drop 64 c3 (by rw [bv_length]; have := HW3.out; omega)
      rw [bv_drop, hp2, if_neg (by omega)] at h
      exact h
    rw [bv_take] at hr1 hr3
    rw [hp1] at hr3
    have hs1 := run_string (P := Try.prog) (n := 64) (by rw [List.length_take, HW1.out]; rfl) 29 9 5 (c := c1) Try.underlying29 Try.underlying5 Try.underlying9 hr1
    have hs3 := run_string (P := Try.prog) (n := 64) (by rw [List.length_take, HW1.out]; rfl) 29 9 5 (c := c3) Try.underlying29 Try.underlying5 Try.underlying9 hr3
    have hs4 := run_string (P := Try.prog) (n := 64) hzl 29 9 5 (c := c3 - 64) Try.underlying29 Try.underlying5 Try.underlying9 hd3
    have hmk := makeN 64 (by omega) 64 rfl w7
    rw [← hZR] at hmk
    clear hZR hp1 hp2 hr1 hd3
    go_wp2_with fail
    refine next_keep (Keep.below hb7) ?_
    go_wp2_with fail
    refine next_keep (Keep.alloc _ _) ?_
    have hs5 := run_string (P := Try.prog) (n := 64) hzl 29 9 5 (c := 64) Try.underlying29 Try.underlying5 Try.underlying9 (row_bv w7 ZR 5)
    have hr3' := hr3.alloc (.cells (bv ZR).toArray 5)
    have hb08 := hb07.alloc hb07.size (.cells (bv ZR).toArray 5)
    have hs8 := hs7.alloc (.cells (bv ZR).toArray 5)
    go_wp2_with fail
    have hlo9 := loose_any w.heap.size f5 s3 _ hs8
    rw [hf5] at hlo9
    refine hlo9.mono ?_
    rintro e w9 ⟨rfl, rfl⟩
    rw [HK3.out]
    go_wp2_with fail
    refine next_keep (Keep.refl _) ?_
    go_wp2_with fail
    refine ends_normal ?_
    go_wp2_with fail
    go_ret
    exact ⟨rfl, hb08⟩
  · obtain rfl : sec = 5 := hsk
    go_wp2_with fail
    refine wp_region_seq true (.alone 0 (.take 1 .copy (.take 2 .copy (.take 3 .int2 (.take 4 .copy (.take 5 .copy (.take 6 .copy (.take 7 .int2 (.take 8 .copy (.take 9 .copy (.take 10 .copy (.take 11 .int2 (.take 12 .copy (.take 13 .copy (.take 14 .copy (.take 15 .copy (.take 16 .cut (.take 17 (.text 29 5 9) (.take 18 .copy (.take 19 .copy (.take 20 .cut (.take 21 (.text 29 5 9) (.take 22 (.str2 9) (.take 23 .copy (.take 24 .copy (.take 25 .copy (.take 26 .copy (.take 27 .cut (.take 28 (.text 29 5 9) (.take 29 .copy (.take 30 (.len 29) (.take 31 .copy (.take 32 .int2 (.alone 33 (.take 34 (.text 29 5 9) (.take 35 (.str2 9) (.take 36 .copy (.take 37 .copy (.take 38 .copy (.alone 39 (.take 40 .int2 (.take 41 .copy (.take 42 .copy .fin))))))))))))))))))))))))))))))))))))))))))) (by kernel_rfl) (by kernel_rfl) (by kernel_rfl) ?_
    simp only [pre, nxt, List.getElem?_toArray, List.getElem?_cons_zero, List.getElem?_cons_succ, opAt, ghosts, List.nil_append, gInt, gStr, ghost, List.cons_append]
    go_wp2_with fail
    refine (alive_any _).mono ?_
    rintro e w7 ⟨rfl, hb7⟩
    have hb07 := below_all hb06.drew hb7
    have hs7 := hs6.drew.below hb7
    have hx17 := hx1.drew.below hb7
    have hx37 := hx3.drew.below hb7
    have hc1' := HC1.out
    have hc3' := HC3.out
    have hp1 : NW.take 80 = WS.take 80 := HP1.out
    obtain ⟨ZR, hZR⟩ : ∃ ZR : List UInt8, ZR = List.replicate 48 0 := ⟨_, rfl⟩
    have hp2 : NW.drop 80 = ZR := by rw [hZR]; exact HP2.out
    have hzl : ZR.length = 48 := by rw [hZR]; exact List.length_replicate
    have hr1 := hx17.take 80
    have hr3 := hx37.take 80
    have hd3 : Row w7 (some ⟨g3, 80, none⟩) (bv ZR) := by
      have h := hx37.drop 80 c3 (by rw [bv_length]; have := HW3.out; omega)
      rw [bv_drop, hp2, if_neg (by omega)] at h
      exact h
    rw [bv_take] at hr1 hr3
    rw [hp1] at hr3
    have hs1 := run_string (P := Try.prog) (n := 80) (by rw [List.length_take, HW1.out]; rfl) 29 9 5 (c := c1) Try.underlying29 Try.underlying5 Try.underlying9 hr1
    have hs3 := run_string (P := Try.prog) (n := 80) (by rw [List.length_take, HW1.out]; rfl) 29 9 5 (c := c3) Try.underlying29 Try.underlying5 Try.underlying9 hr3
    have hs4 := run_string (P := Try.prog) (n := 48) hzl 29 9 5 (c := c3 - 80) Try.underlying29 Try.underlying5 Try.underlying9 hd3
    have hmk := makeN 48 (by omega) 48 rfl w7
    rw [← hZR] at hmk
    clear hZR hp1 hp2 hr1 hd3
    go_wp2_with fail
    refine next_keep (Keep.below hb7) ?_
    go_wp2_with fail
    refine next_keep (Keep.alloc _ _) ?_
    have hs5 := run_string (P := Try.prog) (n := 48) hzl 29 9 5 (c := 48) Try.underlying29 Try.underlying5 Try.underlying9 (row_bv w7 ZR 5)
    have hr3' := hr3.alloc (.cells (bv ZR).toArray 5)
    have hb08 := hb07.alloc hb07.size (.cells (bv ZR).toArray 5)
    have hs8 := hs7.alloc (.cells (bv ZR).toArray 5)
    go_wp2_with fail
    have hlo9 := loose_any w.heap.size f5 s3 _ hs8
    rw [hf5] at hlo9
    refine hlo9.mono ?_
    rintro e w9 ⟨rfl, rfl⟩
    rw [HK3.out]
    go_wp2_with fail
    refine next_keep (Keep.refl _) ?_
    go_wp2_with fail
    refine ends_normal ?_
    go_wp2_with fail
    go_ret
    exact ⟨rfl, hb08⟩
  · obtain rfl : sec = 6 := hsk
    go_wp2_with fail
    refine wp_region_seq true (.alone 0 (.take 1 .copy (.take 2 .copy (.take 3 .int2 (.take 4 .copy (.take 5 .copy (.take 6 .copy (.take 7 .int2 (.take 8 .copy (.take 9 .copy (.take 10 .copy (.take 11 .int2 (.take 12 .copy (.take 13 .copy (.take 14 .copy (.take 15 .copy (.take 16 .cut (.take 17 (.text 29 5 9) (.take 18 .copy (.take 19 .copy (.take 20 .cut (.take 21 (.text 29 5 9) (.take 22 (.str2 9) (.take 23 .copy (.take 24 .copy (.take 25 .copy (.take 26 .copy (.take 27 .cut (.take 28 (.text 29 5 9) (.take 29 .copy (.take 30 (.len 29) (.take 31 .copy (.take 32 .int2 (.alone 33 (.take 34 (.text 29 5 9) (.take 35 (.str2 9) (.take 36 .copy (.take 37 .copy (.take 38 .copy (.alone 39 (.take 40 .int2 (.take 41 .copy (.take 42 .copy .fin))))))))))))))))))))))))))))))))))))))))))) (by kernel_rfl) (by kernel_rfl) (by kernel_rfl) ?_
    simp only [pre, nxt, List.getElem?_toArray, List.getElem?_cons_zero, List.getElem?_cons_succ, opAt, ghosts, List.nil_append, gInt, gStr, ghost, List.cons_append]
    go_wp2_with fail
    refine (alive_any _).mono ?_
    rintro e w7 ⟨rfl, hb7⟩
    have hb07 := below_all hb06.drew hb7
    have hs7 := hs6.drew.below hb7
    have hx17 := hx1.drew.below hb7
    have hx37 := hx3.drew.below hb7
    have hc1' := HC1.out
    have hc3' := HC3.out
    have hp1 : NW.take 96 = WS.take 96 := HP1.out
    obtain ⟨ZR, hZR⟩ : ∃ ZR : List UInt8, ZR = List.replicate 32 0 := ⟨_, rfl⟩
    have hp2 : NW.drop 96 = ZR := by rw [hZR]; exact HP2.out
    have hzl : ZR.length = 32 := by rw [hZR]; exact List.length_replicate
    have hr1 := hx17.take 96
    have hr3 := hx37.take 96
    have hd3 : Row w7 (some ⟨g3, 96, none⟩) (bv ZR) := by
      have h := hx37.drop 96 c3 (by rw [bv_length]; have := HW3.out; omega)
      rw [bv_drop, hp2, if_neg (by omega)] at h
      exact h
    rw [bv_take] at hr1 hr3
    rw [hp1] at hr3
    have hs1 := run_string (P := Try.prog) (n := 96) (by rw [List.length_take, HW1.out]; rfl) 29 9 5 (c := c1) Try.underlying29 Try.underlying5 Try.underlying9 hr1
    have hs3 := run_string (P := Try.prog) (n := 96) (by rw [List.length_take, HW1.out]; rfl) 29 9 5 (c := c3) Try.underlying29 Try.underlying5 Try.underlying9 hr3
    have hs4 := run_string (P := Try.prog) (n := 32) hzl 29 9 5 (c := c3 - 96) Try.underlying29 Try.underlying5 Try.underlying9 hd3
    have hmk := makeN 32 (by omega) 32 rfl w7
    rw [← hZR] at hmk
    clear hZR hp1 hp2 hr1 hd3
    go_wp2_with fail
    refine next_keep (Keep.below hb7) ?_
    go_wp2_with fail
    refine next_keep (Keep.alloc _ _) ?_
    have hs5 := run_string (P := Try.prog) (n := 32) hzl 29 9 5 (c := 32) Try.underlying29 Try.underlying5 Try.underlying9 (row_bv w7 ZR 5)
    have hr3' := hr3.alloc (.cells (bv ZR).toArray 5)
    have hb08 := hb07.alloc hb07.size (.cells (bv ZR).toArray 5)
    have hs8 := hs7.alloc (.cells (bv ZR).toArray 5)
    go_wp2_with fail
    have hlo9 := loose_any w.heap.size f5 s3 _ hs8
    rw [hf5] at hlo9
    refine hlo9.mono ?_
    rintro e w9 ⟨rfl, rfl⟩
    rw [HK3.out]
    go_wp2_with fail
    refine next_keep (Keep.refl _) ?_
    go_wp2_with fail
    refine ends_normal ?_
    go_wp2_with fail
    go_ret
    exact ⟨rfl, hb08⟩
  · obtain rfl : sec = 7 := hsk
    go_wp2_with fail
    refine wp_region_seq true (.alone 0 (.take 1 .copy (.take 2 .copy (.take 3 .int2 (.take 4 .copy (.take 5 .copy (.take 6 .copy (.take 7 .int2 (.take 8 .copy (.take 9 .copy (.take 10 .copy (.take 11 .int2 (.take 12 .copy (.take 13 .copy (.take 14 .copy (.take 15 .copy (.take 16 .cut (.take 17 (.text 29 5 9) (.take 18 .copy (.take 19 .copy (.take 20 .cut (.take 21 (.text 29 5 9) (.take 22 (.str2 9) (.take 23 .copy (.take 24 .copy (.take 25 .copy (.take 26 .copy (.take 27 .cut (.take 28 (.text 29 5 9) (.take 29 .copy (.take 30 (.len 29) (.take 31 .copy (.take 32 .int2 (.alone 33 (.take 34 (.text 29 5 9) (.take 35 (.str2 9) (.take 36 .copy (.take 37 .copy (.take 38 .copy (.alone 39 (.take 40 .int2 (.take 41 .copy (.take 42 .copy .fin))))))))))))))))))))))))))))))))))))))))))) (by kernel_rfl) (by kernel_rfl) (by kernel_rfl) ?_
    simp only [pre, nxt, List.getElem?_toArray, List.getElem?_cons_zero, List.getElem?_cons_succ, opAt, ghosts, List.nil_append, gInt, gStr, ghost, List.cons_append]
    go_wp2_with fail
    refine (alive_any _).mono ?_
    rintro e w7 ⟨rfl, hb7⟩
    have hb07 := below_all hb06.drew hb7
    have hs7 := hs6.drew.below hb7
    have hx17 := hx1.drew.below hb7
    have hx37 := hx3.drew.below hb7
    have hc1' := HC1.out
    have hc3' := HC3.out
    have hp1 : NW.take 112 = WS.take 112 := HP1.out
    obtain ⟨ZR, hZR⟩ : ∃ ZR : List UInt8, ZR = List.replicate 16 0 := ⟨_, rfl⟩
    have hp2 : NW.drop 112 = ZR := by rw [hZR]; exact HP2.out
    have hzl : ZR.length = 16 := by rw [hZR]; exact List.length_replicate
    have hr1 := hx17.take 112
    have hr3 := hx37.take 112
    have hd3 : Row w7 (some ⟨g3, 112, none⟩) (bv ZR) := by
      have h := hx37.drop 112 c3 (by rw [bv_length]; have := HW3.out; omega)
      rw [bv_drop, hp2, if_neg (by omega)] at h
      exact h
    rw [bv_take] at hr1 hr3
    rw [hp1] at hr3
    have hs1 := run_string (P := Try.prog) (n := 112) (by rw [List.length_take, HW1.out]; rfl) 29 9 5 (c := c1) Try.underlying29 Try.underlying5 Try.underlying9 hr1
    have hs3 := run_string (P := Try.prog) (n := 112) (by rw [List.length_take, HW1.out]; rfl) 29 9 5 (c := c3) Try.underlying29 Try.underlying5 Try.underlying9 hr3
    have hs4 := run_string (P := Try.prog) (n := 16) hzl 29 9 5 (c := c3 - 112) Try.underlying29 Try.underlying5 Try.underlying9 hd3
    have hmk := makeN 16 (by omega) 16 rfl w7
    rw [← hZR] at hmk
    clear hZR hp1 hp2 hr1 hd3
    go_wp2_with fail
    refine next_keep (Keep.below hb7) ?_
    go_wp2_with fail
    refine next_keep (Keep.alloc _ _) ?_
    have hs5 := run_string (P := Try.prog) (n := 16) hzl 29 9 5 (c := 16) Try.underlying29 Try.underlying5 Try.underlying9 (row_bv w7 ZR 5)
    have hr3' := hr3.alloc (.cells (bv ZR).toArray 5)
    have hb08 := hb07.alloc hb07.size (.cells (bv ZR).toArray 5)
    have hs8 := hs7.alloc (.cells (bv ZR).toArray 5)
    go_wp2_with fail
    have hlo9 := loose_any w.heap.size f5 s3 _ hs8
    rw [hf5] at hlo9
    refine hlo9.mono ?_
    rintro e w9 ⟨rfl, rfl⟩
    rw [HK3.out]
    go_wp2_with fail
    refine next_keep (Keep.refl _) ?_
    go_wp2_with fail
    refine ends_normal ?_
    go_wp2_with fail
    go_ret
    exact ⟨rfl, hb08⟩
  · obtain rfl : sec = 8 := hsk
    go_wp2_with fail
    refine wp_region_seq true (.alone 0 (.take 1 .copy (.take 2 .copy (.take 3 .int2 (.take 4 .copy (.take 5 .copy (.take 6 .copy (.take 7 .int2 (.take 8 .copy (.take 9 .copy (.take 10 .copy (.take 11 .int2 (.take 12 .copy (.take 13 .copy (.take 14 .copy (.take 15 .copy (.take 16 .cut (.take 17 (.text 29 5 9) (.take 18 .copy (.take 19 .copy (.take 20 .cut (.take 21 (.text 29 5 9) (.take 22 (.str2 9) (.take 23 .copy (.take 24 .copy (.take 25 .copy (.take 26 .copy (.take 27 .cut (.take 28 (.text 29 5 9) (.take 29 .copy (.take 30 (.len 29) (.take 31 .copy (.take 32 .int2 (.alone 33 (.take 34 (.text 29 5 9) (.take 35 (.str2 9) (.take 36 .copy (.take 37 .copy (.take 38 .copy (.alone 39 (.take 40 .int2 (.take 41 .copy (.take 42 .copy .fin))))))))))))))))))))))))))))))))))))))))))) (by kernel_rfl) (by kernel_rfl) (by kernel_rfl) ?_
    simp only [pre, nxt, List.getElem?_toArray, List.getElem?_cons_zero, List.getElem?_cons_succ, opAt, ghosts, List.nil_append, gInt, gStr, ghost, List.cons_append]
    go_wp2_with fail
    refine (alive_any _).mono ?_
    rintro e w7 ⟨rfl, hb7⟩
    have hb07 := below_all hb06.drew hb7
    have hs7 := hs6.drew.below hb7
    have hx17 := hx1.drew.below hb7
    have hx37 := hx3.drew.below hb7
    have hc1' := HC1.out
    have hc3' := HC3.out
    have hp1 : NW.take 128 = WS.take 128 := HP1.out
    obtain ⟨ZR, hZR⟩ : ∃ ZR : List UInt8, ZR = List.replicate 0 0 := ⟨_, rfl⟩
    have hp2 : NW.drop 128 = ZR := by rw [hZR]; exact HP2.out
    have hzl : ZR.length = 0 := by rw [hZR]; exact List.length_replicate
    have hr1 := hx17.take 128
    have hr3 := hx37.take 128
    have hd3 : ∀ A, Row w7 A (bv ZR) := fun A => by
      have h : ZR = [] := List.length_eq_zero_iff.1 hzl
      rw [h]
      exact .inl rfl
    rw [bv_take] at hr1 hr3
    rw [hp1] at hr3
    have hs1 := run_string (P := Try.prog) (n := 128) (by rw [List.length_take, HW1.out]; rfl) 29 9 5 (c := c1) Try.underlying29 Try.underlying5 Try.underlying9 hr1
    have hs3 := run_string (P := Try.prog) (n := 128) (by rw [List.length_take, HW1.out]; rfl) 29 9 5 (c := c3) Try.underlying29 Try.underlying5 Try.underlying9 hr3
    have hs4 := fun c A => run_string (P := Try.prog) (n := 0) hzl 29 9 5 (c := c) Try.underlying29 Try.underlying5 Try.underlying9 (hd3 A)
    have hs4a := hs4 0 (some ⟨g3, 0, none⟩)
    have hs4b := hs4 (c3 - 128) (some ⟨g3, 128, none⟩)
    clear hs4
    have hmk := makeN 0 (by omega) 0 rfl w7
    rw [← hZR] at hmk
    clear hZR hp1 hp2 hr1 hd3
    by_cases hc8 : c3 = 128
    all_goals
      first | subst hc8 | skip
      go_wp2_with fail
      refine next_keep (Keep.below hb7) ?_
      go_wp2_with fail
      refine next_keep (Keep.alloc _ _) ?_
      have hs5 := run_string (P := Try.prog) (n := 0) hzl 29 9 5 (c := 0) Try.underlying29 Try.underlying5 Try.underlying9 (row_bv w7 ZR 5)
      have hr3' := hr3.alloc (.cells (bv ZR).toArray 5)
      have hb08 := hb07.alloc hb07.size (.cells (bv ZR).toArray 5)
      have hs8 := hs7.alloc (.cells (bv ZR).toArray 5)
      go_wp2_with fail
      have hlo9 := loose_any w.heap.size f5 s3 _ hs8
      rw [hf5] at hlo9
      refine hlo9.mono ?_
      rintro e w9 ⟨rfl, rfl⟩
      rw [HK3.out]
      go_wp2_with fail
      refine next_keep (Keep.refl _) ?_
      go_wp2_with fail
      refine ends_normal ?_
      go_wp2_with fail
      go_ret
      exact ⟨rfl, hb08⟩
end Go.Proofs.Ytgblekjkphnjfaa
