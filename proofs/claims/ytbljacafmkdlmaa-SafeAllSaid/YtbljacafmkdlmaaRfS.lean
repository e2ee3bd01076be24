/- pentimentoref13.Steps. Conditions: a store as data; the lengths fit memory. -/
import Derived.Test.YtbljacafmkdlmaaRfT
import Derived.Test.YtbljacafmkdlmaaSvC
import Derived.Test.YtbljacafmkdlmaaRefP
namespace Go.Proofs.Ytbljacafmkdlmaa
set_option maxRecDepth 100000
open Go.RowKit
set_option linter.unusedSimpArgs false
set_option linter.unusedVariables false

theorem info_op : (Try.prog.info? 45).map (fun i => (i.zero, i.size, i.bytes)) = some (some (.agg #[.int .i64 0, .int .i64 0, .int .i64 0, .slice none 0 0, .slice none 0 0]), 5, 72) := by kernel_rfl

set_option maxHeartbeats 16000000 in
theorem rSteps_any {s : St} (hok : s.OK) {A : Option Addr} {m c : Nat} (hm : s.l.length = m) (hsz : m ≤ 5000000000000) (w : World) (hr : Row w A (rcells s.l)) (b : List UInt8) (hb6 : b.length ≤ 1000000) :
    Calls Try.prog 16 #[sagg s A m c, .string (str b)] w (RStepsPost w (beginP s b)) := by
  obtain ⟨i1, hi1, hy0, hy1, hy2⟩ := info_parts info_op
  have HI1 := Lib.hid hi1
  have HY0 := Lib.hid hy0
  have HY1 := Lib.hid hy1
  have HY2 := Lib.hid hy2
  clear hi1 hy0 hy1 hy2
  have hbg : beginP s b = if 16 * areaN s.n < b.length then ([], 1) else if 1073741824 ≤ (newestP s).2.2 then ([], 131) else (opsOf s.n (kOf s) ((newestP s).2.2 + 1) b, 0) := rfl
  have hn0 := hok.n0
  have hn1 := hok.n1
  have ha5 : areaN s.n ≤ 2047 := by unfold areaN; omega
  have har := fun u => rArea_any s.n u hn0 (by omega)
  have hld := fun u (hu : Row u A (rcells s.l)) => rLoad_any hok hm hsz (c := c) u hu
  have hcp := fun u (hu : Row u A (rcells s.l)) => rCopied_any hok hm hsz 0 (by omega) (c := c) u hu
  have hgen := load_gen s
  have hko := kOf_ref s
  have hgle := newestP_le s
  obtain ⟨⟨lb, lg, le⟩, hl⟩ : ∃ r, r = loadP s := ⟨_, rfl⟩
  obtain ⟨⟨b0, m0⟩, h0⟩ : ∃ r, r = cop s 0 := ⟨_, rfl⟩
  simp only [← hl] at hld hgen
  simp only [← h0] at hcp hko
  rw [← hgen] at hbg hko hgle
  obtain ⟨k, hk⟩ : ∃ k, k = kOf s := ⟨_, rfl⟩
  rw [← hk] at hbg hko
  obtain ⟨r, hrr⟩ : ∃ r, r = beginP s b := ⟨_, rfl⟩
  rw [← hrr] at hbg ⊢
  obtain ⟨a, ha⟩ : ∃ a, a = areaN s.n := ⟨_, rfl⟩
  have HA := Lib.hid ha
  rw [← ha] at ha5 hbg har
  obtain ⟨nb, hnb'⟩ : ∃ nb, nb = b.length := ⟨_, rfl⟩
  have hnb : b.length = nb := hnb'.symm
  rw [hnb] at hbg hb6
  have HBG := Lib.hid hbg
  have HLD := Lib.hid hld
  have HCP := Lib.hid hcp
  have HAR := Lib.hid har
  have HKO := Lib.hid hko
  have HNB := Lib.hid hnb
  have hMn : nch b = (nb + 15) / 16 := by unfold nch; rw [hnb]
  obtain ⟨M, hM⟩ : ∃ M, M = nch b := ⟨_, rfl⟩
  rw [← hM] at hMn
  have hM1 : nb ≤ 16 * M := by omega
  have hM2 : 16 * M < nb + 16 := by omega
  have HM := Lib.hid hM
  obtain ⟨sn, sr, sl, sk⟩ := s
  simp only at HLD HCP HAR HBG HA hn0 hn1 hr
  have hb0 : Below w.heap.size w (w.alloc (.cells #[.int .i64 sn, .int .i64 sr, .slice A m c, .int .i64 sk] 27)) := (Below.refl _ w).alloc (Nat.le_refl _) _
  have hr0 := hr.alloc (.cells #[.int .i64 sn, .int .i64 sr, .slice A m c, .int .i64 sk] 27)
  have hG0 := Blk.new w 27 #[.int .i64 sn, .int .i64 sr, .slice A m c, .int .i64 sk]
  obtain ⟨g0, hg0⟩ : ∃ g0, g0 = w.heap.size := ⟨_, rfl⟩
  rw [← hg0] at hG0
  obtain ⟨w0, hw0⟩ : ∃ w0, w0 = w.alloc (.cells #[.int .i64 sn, .int .i64 sr, .slice A m c, .int .i64 sk] 27) := ⟨_, rfl⟩
  have hB0 : Below w0.heap.size w0 w0 := Below.refl _ _
  rw [← hw0] at hb0 hr0 hG0
  have HW0 := Lib.hid hw0
  have HG0 := Lib.hid hg0
  have HB0 := Lib.hid hb0
  clear hbg hld hcp har hko hnb' hMn hM hl h0 hk hrr ha hr hok hm hg0 hw0 hgen hb0
  go_enter Try.func16, Try.ntmps16
  obtain ⟨⟨c0, c1, c2, c3⟩, _⟩ := hG0.four
  go_upto_region 1 with fail
  rw [← HW0.out, ← HG0.out]
  clear HW0
  go_wp2_with fail
  refine (HLD.out _ hr0).mono ?_
  rintro e w1 ⟨rfl, hb1⟩
  have hB1 := below_all hB0 hb1
  have hr1 := hr0.below hb1
  have hG1 := hG0.belowAll hb1
  clear hb1 hB0 hr0 hG0 c0 c1 c2 c3
  obtain ⟨⟨c0, c1, c2, c3⟩, _⟩ := hG1.four
  go_wp2_with fail
  refine (HCP.out _ hr1).mono ?_
  rintro e w2 ⟨rfl, hb2⟩
  have hB2 := below_all hB1 hb2
  have hG2 := hG1.belowAll hb2
  clear hb2 hB1 hr1 hG1 c0 c1 c2 c3
  obtain ⟨⟨c0, c1, c2, c3⟩, _⟩ := hG2.four
  go_wp2_with fail
  refine (HAR.out _).mono ?_
  rintro e w3 ⟨rfl, rfl⟩
  have hbw : Below w.heap.size w w3 := HB0.out.trans (hB2.mono HB0.out.size)
  by_cases hlong : 16 * a < nb
  · have HRE := Lib.hid (show r = ([], 1) by rw [HBG.out, if_pos hlong])
    go_wp2_with fail
    go_ret2
    rw [HRE.out]
    exact RStepsPost.none_ hbw
  have hlong1 : decide (16 * (a : Int) < (nb : Int)) = false := decide_eq_false (by omega)
  have hlong2 : decide (16 * a < nb) = false := decide_eq_false hlong
  have HLONG := Lib.hid hlong
  clear hlong
  by_cases hold : (1073741824 : Int) ≤ (lg : Int)
  · have HRE := Lib.hid (show r = ([], 131) by rw [HBG.out, if_neg HLONG.out, if_pos (by omega)])
    clear hgle
    go_wp2_with fail
    go_ret2
    rw [HRE.out]
    exact RStepsPost.none_ hbw
  have hre : r = (opsOf sn k (lg + 1) b, 0) := by rw [HBG.out, if_neg HLONG.out, if_neg (by omega)]
  have HRE0 := Lib.hid hre
  have hold1 : decide ((1073741824 : Int) ≤ (lg : Int)) = false := decide_eq_false hold
  have hold2 : decide (1073741824 ≤ lg) = false := decide_eq_false (by omega)
  have HLG := Lib.hid (show lg + 1 ≤ 1073741824 by omega)
  clear hold hre hgle
  by_cases hg : 0 < lg
  · by_cases hmg : m0 = lg
    · have hkk : k = 1 := by rw [HKO.out, if_pos ⟨hg, hmg⟩]
      have hd1 : (0 : Int) < (lg : Int) := by omega
      subst hmg
      have HRE := Lib.hid (show r = (opsOf sn 1 (m0 + 1) b, 0) by rw [HRE0.out, show k = 1 from hkk])
      clear hkk
      go_wp2_with fail
      clear hlong1 hlong2 hold1 hold2 hbw c0 c1 c2 c3
      go_loopw [12, 13] (fun v i wr => ∃ (j : Nat) (A' : Option Addr) (c' : Nat) (ps : List Opv), j ≤ M ∧ i = .int .i64 (j : Int) ∧ v = .slice A' j c' ∧ RSt wr w0.heap.size g0 #[.int .i64 sn, .int .i64 sr, .slice A m c, .int .i64 sk] (dataOps ((2 + 1 * a : Nat) : Int) b j) j A' c' ps ∧ Below w0.heap.size w0 wr)
        (fun _ i _ => M - (intOf i).toNat)
      case atStart => exact ⟨0, none, 0, [], Nat.zero_le _, rfl, rfl, ⟨rfl, Own.nil _ _ _ _ _, .nil, hG2⟩, hB2⟩
      case round =>
        obtain ⟨j, A', c', ps, hj, rfl, rfl, hS, hB⟩ := hrel
        clear hG2 hB2
        by_cases hlt : j < M
        · have h16 : 16 * j < nb := by omega
          obtain ⟨Z, hZ⟩ : ∃ Z : List UInt8, Z = List.replicate 16 0 := ⟨_, rfl⟩
          have hZl : Z.length = 16 := by rw [hZ]; rfl
          have hmk := make16b wr.drew
          rw [← hZ] at hmk
          have hcv := run_string (P := Try.prog) (l := Z) (n := 16) hZl 23 9 5 (A := some ⟨wr.heap.size, 0, none⟩) (c := 16) Try.underlying23 Try.underlying5 Try.underlying9 (w := (wr.alloc (.cells (bv Z).toArray 5)).drew) (Row.of_blk (Blk.new wr 5 (bv Z).toArray)).drew
          have hcut : (str b).extract (16 * j) nb = str (b.drop (16 * j)) := by rw [← HNB.out]; exact str_cut _ _
          have hdl : (b.drop (16 * j)).length = nb - 16 * j := by rw [List.length_drop, HNB.out]
          obtain ⟨Y, hY⟩ : ∃ Y, Y = b.drop (16 * j) := ⟨_, rfl⟩
          have hPD : pad16 Y = (Y ++ Z).take 16 := by rw [hZ]; rfl
          have hPDl := pad16_length Y
          have hsnoc : dataOps ((2 + 1 * a : Nat) : Int) b (j + 1) = dataOps ((2 + 1 * a : Nat) : Int) b j ++ [.write (((2 + 1 * a : Nat) : Int) + j) (pad16 Y)] := by rw [hY]; rfl
          rw [← hY] at hcut hdl
          have hcat := fun u => run_cat (P := Try.prog) Y Z (by rw [hdl, hZl]; omega) u
          obtain ⟨X, hX⟩ : ∃ X, X = Y ++ Z := ⟨_, rfl⟩
          have hXl : X.length = nb - 16 * j + 16 := by rw [hX, List.length_append, hdl, hZl]
          obtain ⟨xl, hxl⟩ : ∃ xl, xl = X.length := ⟨_, rfl⟩
          have hxl16 : 16 ≤ xl := by omega
          have hxl' : X.length = xl := hxl.symm
          obtain ⟨PD, hPDe⟩ : ∃ PD, PD = pad16 Y := ⟨_, rfl⟩
          rw [← hPDe] at hPD hPDl hsnoc
          rw [← hX] at hcat hPD
          have hfr : (str X).extract 0 16 = str PD := by rw [hPD]; exact str_front _ _
          have HSNOC := Lib.hid hsnoc
          have HPDL := Lib.hid hPDl
          clear hdl hY hX hXl hxl hPD hPDl hPDe hsnoc hZ hZl
          go_wp2_with fail
          refine wp_region_seq true (.take 0 .copy (.take 1 .copy (.take 2 .int2 (.take 3 .cut (.alone 4 (.take 5 (.text 23 5 9) (.take 6 (.str2 9) (.take 7 .copy .fin)))))))) (by kernel_rfl) (by kernel_rfl) (by kernel_rfl) ?_
          simp only [pre, nxt, List.getElem?_toArray, List.getElem?_cons_zero, List.getElem?_cons_succ, opAt, ghosts, List.nil_append, gInt, gStr, ghost, List.cons_append]
          go_wp2_with fail
          refine next_keep (Keep.alloc wr.drew _) ?_
          go_wp2_with fail
          refine ends_normal ?_
          clear hmk hcv hcut hcat
          have hB14 := (hB.alloc hB.size (.cells (bv Z).toArray 5)).drew
          have hS14 := hS.below ((Below.refl _ wr).alloc (Nat.le_refl _) (.cells (bv Z).toArray 5)).drew
          obtain ⟨w4, hw4⟩ : ∃ w4, w4 = (wr.alloc (.cells (bv Z).toArray 5)).drew := ⟨_, rfl⟩
          rw [← hw4] at hB14 hS14
          have HW4 := Lib.hid hw4
          clear hw4 hB hS
          go_upto_region 15 with fail
          rw [← HW4.out]
          clear HW4
          refine wp_region_seqS ((fun u => Blk u g0 27 #[.int .i64 sn, .int .i64 sr, .slice A m c, .int .i64 sk])) (.take 0 .copy (.take 1 .copy (.take 2 .addr (.hold 3 (.take 7 .copy (.take 9 .copy (.take 10 .cut (.fork 4 (.take 5 .int2 (.take 6 .int2 (.take 8 .int2 (.alone 11 (.alone 12 (.alone 13 (.alone 14 (.take 15 .copy .fin)))))))) 11 (.alone 4 (.take 5 .int2 (.take 6 .int2 (.take 8 .int2 (.alone 12 (.alone 13 (.alone 14 (.take 15 .copy .fin)))))))))))))))) (by kernel_rfl) (by kernel_rfl) (by kernel_rfl) ?_ ?_
          · exact hS14.blk.drew
          simp only [preS, nxtS, List.getElem?_toArray, List.getElem?_cons_zero, List.getElem?_cons_succ, opAt, ghosts, List.nil_append, gInt, ghost, List.cons_append]
          obtain ⟨cD, w6, hcv0, hcD, hrD, hbD, hb6'⟩ := conv_any w4.drew PD 16 HPDL.out
          have hcv : (convert 9 23 (.string (str PD))).run Try.prog w4.drew = .ok (.slice (some ⟨w4.heap.size, 0, none⟩) 16 cD) w6 := hcv0
          have hb46 : Below w4.heap.size w4 w6 := (Below.refl _ w4).drew.trans hb6'
          have hS6 := hS14.below hb46
          have hB6 := below_all hB14 hb46
          have hop6 : OpvIn w6 (.write (((2 + 1 * a : Nat) : Int) + j) PD) ⟨⟨0, ((2 + 1 * a : Nat) : Int) + j, 0, PD, []⟩, some ⟨w4.heap.size, 0, none⟩, cD, none, 0⟩ :=
            ⟨rfl, rfl, hrD, hbD, by show PD.length ≤ cD; rw [HPDL.out]; exact hcD, by show PD.length ≤ _; rw [HPDL.out]; omega, by constructor <;> (show _ ≤ _) <;> simp only <;> omega⟩
          clear hcv0 hb6' hrD hbD
          go_wp2_with fail
          refine next_hold (.int .i64 sn) rfl (hold_cell 3 _ rfl ⟨g0, 0, none⟩ rfl _ _ (fun u h => by have := h.cell 0; simpa using this) rfl Try.underlying3) ?_
          go_wp2_with fail
          refine next_fork ?_ ?_
          · go_wp2_with fail
            refine (HAR.out _).mono ?_
            rintro e w5 ⟨rfl, rfl⟩
            go_wp2_with fail
            refine nextS hS14.blk.drew ?_
            go_wp2_with fail
            refine nextS hS6.blk ?_
            go_wp2_with fail
            refine nextS hS6.blk ?_
            go_wp2_with fail
            refine nextS (hS6.blk.alloc _) ?_
            go_wp2_with (at_builtin; refine wpList_app _ rfl _ _ 22 22 rfl w0.heap.size 45 i1 _ 5 72 Try.underlying22 HI1.out HY0.out HY1.out HY2.out rfl A' j c' _ rfl (hS6.own.alloc _) _ 1 _ rfl (Src.new Try.underlying22 rfl (by simp [Value.oneCell'])) (by simp only [maxLen]; omega) (by omega) (Nat.le_trans hB6.size (by simp)) ?_; intro A7 c7 w7 hown7 hg7 hb7; refine Classical.byContradiction fun hstop => ?_)
            refine absurd ?_ hstop
            clear hstop
            have hS7 := hS6.app ((Below.refl _ w6).alloc (Nat.le_refl _) (.cells #[.int .i64 0, .int .i64 (2 + (a : Int) + (j : Int)), .int .i64 0, .slice (some ⟨w4.heap.size, 0, none⟩) 16 cD, .slice none 0 0] 45)) (o := .write (((2 + 1 * a : Nat) : Int) + j) PD) (p := ⟨⟨0, ((2 + 1 * a : Nat) : Int) + j, 0, PD, []⟩, some ⟨w4.heap.size, 0, none⟩, cD, none, 0⟩) ((hop6.below ((Below.refl _ w6).alloc (Nat.le_refl _) _))) (by
              have e : ((2 + 1 * a : Nat) : Int) = 2 + (a : Int) := by omega
              simp only [Opv.cells, HPDL.out, List.length_nil, e]) hown7 hg7
            have hB7 := (hB6.alloc hB6.size (.cells #[.int .i64 0, .int .i64 (2 + (a : Int) + (j : Int)), .int .i64 0, .slice (some ⟨w4.heap.size, 0, none⟩) 16 cD, .slice none 0 0] 45)).grown hg7 (Nat.le_trans hB6.size (by simp)) (fun i hi => (hS6.own.lt i hi).1)
            rw [← HSNOC.out] at hS7
            refine nextS hS7.blk ?_
            go_wp2_with fail
            refine ends_normal ?_
            clear hS6 hB6 hop6 hcv hown7 hg7 hb7
            go_wp2_with fail
            go_roundw
            case rel => exact ⟨j + 1, A7, c7, _, by omega, by go_num, rfl, hS7, hB7⟩
            case measure => simp [intOf]; omega
          · go_wp2_with fail
            refine nextS hS6.blk ?_
            go_wp2_with fail
            refine (HAR.out _).mono ?_
            rintro e w6 ⟨rfl, rfl⟩
            go_wp2_with fail
            refine nextS hS6.blk ?_
            go_wp2_with fail
            refine nextS hS6.blk ?_
            go_wp2_with fail
            refine nextS (hS6.blk.alloc _) ?_
            go_wp2_with (at_builtin; refine wpList_app _ rfl _ _ 22 22 rfl w0.heap.size 45 i1 _ 5 72 Try.underlying22 HI1.out HY0.out HY1.out HY2.out rfl A' j c' _ rfl (hS6.own.alloc _) _ 1 _ rfl (Src.new Try.underlying22 rfl (by simp [Value.oneCell'])) (by simp only [maxLen]; omega) (by omega) (Nat.le_trans hB6.size (by simp)) ?_; intro A7 c7 w7 hown7 hg7 hb7; refine Classical.byContradiction fun hstop => ?_)
            refine absurd ?_ hstop
            clear hstop
            have hS7 := hS6.app ((Below.refl _ w6).alloc (Nat.le_refl _) (.cells #[.int .i64 0, .int .i64 (2 + (a : Int) + (j : Int)), .int .i64 0, .slice (some ⟨w4.heap.size, 0, none⟩) 16 cD, .slice none 0 0] 45)) (o := .write (((2 + 1 * a : Nat) : Int) + j) PD) (p := ⟨⟨0, ((2 + 1 * a : Nat) : Int) + j, 0, PD, []⟩, some ⟨w4.heap.size, 0, none⟩, cD, none, 0⟩) ((hop6.below ((Below.refl _ w6).alloc (Nat.le_refl _) _))) (by
              have e : ((2 + 1 * a : Nat) : Int) = 2 + (a : Int) := by omega
              simp only [Opv.cells, HPDL.out, List.length_nil, e]) hown7 hg7
            have hB7 := (hB6.alloc hB6.size (.cells #[.int .i64 0, .int .i64 (2 + (a : Int) + (j : Int)), .int .i64 0, .slice (some ⟨w4.heap.size, 0, none⟩) 16 cD, .slice none 0 0] 45)).grown hg7 (Nat.le_trans hB6.size (by simp)) (fun i hi => (hS6.own.lt i hi).1)
            rw [← HSNOC.out] at hS7
            refine nextS hS7.blk ?_
            go_wp2_with fail
            refine ends_normal ?_
            clear hS6 hB6 hop6 hcv hown7 hg7 hb7
            go_wp2_with fail
            go_roundw
            case rel => exact ⟨j + 1, A7, c7, _, by omega, by go_num, rfl, hS7, hB7⟩
            case measure => simp [intOf]; omega
        · obtain rfl : j = M := by omega
          have hof := fun u => rOf_any b u (by rw [HNB.out]; omega)
          have had := adler_lt b
          have hfit : fitAll 4 [((m0 : Int) + 1), (nb : Int), (adler b : Int)] = true := by
            have h1 := HLG.out
            unfold fitAll ft lim
            simp only [List.all_cons, List.all_nil, Bool.and_true, Bool.and_eq_true, decide_eq_true_eq]
            have e : (if (4 : Int) = 8 then bigTop else 256 ^ (4 : Int).toNat) = 4294967296 := by decide
            rw [e]
            omega
          have hput := rPut_any 4 (some ⟨wr.heap.size, 0, none⟩) 3 3 [((m0 : Int) + 1), (nb : Int), (adler b : Int)] (wr.alloc (.cells #[.int .i64 ((m0 : Int) + 1), .int .i64 (nb : Int), .int .i64 (adler b : Int)] 3)) rfl row_new13 (by omega)
          have hmk : (if rt 4 && fitAll 4 [((m0 : Int) + 1), (nb : Int), (adler b : Int)] then putB (4 : Int).toNat [((m0 : Int) + 1), (nb : Int), (adler b : Int)] else []) = markX (m0 + 1) b := by
            have h1 : ((m0 : Int) + 1).toNat = m0 + 1 := by omega
            have h2 : (4 : Int).toNat = 4 := rfl
            rw [hfit, h2]
            unfold putB markX
            simp only [List.flatMap_cons, List.flatMap_nil, List.append_nil, Int.toNat_natCast, h1, HNB.out, List.append_assoc]
            rfl
          have hsl := fun u => rSeal_any (markX (m0 + 1) b) u (by rw [markX_length]; omega)
          have hSLl : (sealed (markX (m0 + 1) b)).length = 16 := by rw [sealed_length, markX_length]
          rw [hmk] at hput
          obtain ⟨ok, hok⟩ : ∃ ok, ok = (rt 4 && fitAll 4 [((m0 : Int) + 1), (nb : Int), (adler b : Int)]) := ⟨_, rfl⟩
          rw [← hok] at hput
          obtain ⟨ad, hade⟩ : ∃ ad, ad = adler b := ⟨_, rfl⟩
          rw [← hade] at hof had hput
          obtain ⟨MX, hMX⟩ : ∃ MX, MX = markX (m0 + 1) b := ⟨_, rfl⟩
          rw [← hMX] at hput hsl hSLl
          obtain ⟨SL, hSL⟩ : ∃ SL, SL = sealed MX := ⟨_, rfl⟩
          rw [← hSL] at hsl hSLl
          have hops : opsOf sn 1 (m0 + 1) b = ((dataOps ((2 + 1 * a : Nat) : Int) b j ++ [.flush]) ++ [.write ((1 : Nat) : Int) SL]) ++ [.flush] := by
            unfold opsOf
            rw [← HA.out, ← HM.out, hSL, hMX]
            simp only [List.append_assoc, List.cons_append, List.nil_append]
          have HOPS := Lib.hid hops
          have HSLL := Lib.hid hSLl
          have HSL := Lib.hid hsl
          have HLG2 := HLG.out
          have hlt1 : decide (16 * (j : Int) < (nb : Int)) = false := decide_eq_false (by omega)
          have hlt2 : decide (16 * j < nb) = false := decide_eq_false (by omega)
          have hjb : j ≤ 100000 := by omega
          have HM1 := Lib.hid hM1
          have HM2 := Lib.hid hM2
          have hB2 := hB.alloc hB.size (.cells #[.int .i64 ((m0 : Int) + 1), .int .i64 (nb : Int), .int .i64 (ad : Int)] 3)
          have hS2 := hS.below ((Below.refl _ wr).alloc (Nat.le_refl _) (.cells #[.int .i64 ((m0 : Int) + 1), .int .i64 (nb : Int), .int .i64 (ad : Int)] 3))
          clear hfit hmk hok hade hMX hSL hops hSLl hsl hlt hj hM1 hM2 hB hS
          go_wp2_with fail
          refine (hof _).mono ?_
          rintro e w5 ⟨rfl, rfl⟩
          go_wp2_with fail
          refine hput.mono ?_
          rintro e w6 ⟨rfl, hb6⟩
          have hB6 := below_all hB2 hb6
          have hS6 := hS2.below hb6
          clear hput hb6 hB2 hS2 hof
          go_wp2_with (at_builtin; refine wpList_app _ rfl _ _ 22 22 rfl w0.heap.size 45 i1 _ 5 72 Try.underlying22 HI1.out HY0.out HY1.out HY2.out rfl A' j c' _ rfl (hS6.own.alloc _) _ 1 _ rfl (Src.new Try.underlying22 rfl (by simp [Value.oneCell'])) (by simp only [maxLen]; omega) (by omega) (Nat.le_trans hB6.size (by simp)) ?_; intro A8 c8 w8 hownX hgX hbX; refine Classical.byContradiction fun hstop => ?_)
          refine absurd ?_ hstop
          clear hstop
          have hS8 := hS6.app ((Below.refl _ w6).alloc (Nat.le_refl _) (.cells #[.int .i64 2, .int .i64 0, .int .i64 0, .slice none 0 0, .slice none 0 0] 45)) (o := .flush) (p := ⟨⟨2, 0, 0, [], []⟩, none, 0, none, 0⟩) ⟨rfl, rfl, Row.nil _ _, .inl rfl, Nat.le_refl _, Nat.zero_le _, by constructor <;> decide⟩ (by rfl) hownX hgX
          have hB8 := (hB6.alloc hB6.size (.cells #[.int .i64 2, .int .i64 0, .int .i64 0, .slice none 0 0, .slice none 0 0] 45)).grown hgX (Nat.le_trans hB6.size (by simp)) (fun i hi => (hS6.own.lt i hi).1)
          clear hownX hgX hbX
          go_upto_region 18 with fail
          clear hS6 hB6
          go_wp2_with fail
          refine (HSL.out _).mono ?_
          rintro e w9 ⟨rfl, hb9⟩
          have hB9 := below_all hB8 hb9
          have hS9 := hS8.below hb9
          obtain ⟨cD, w10, hcv0, hcD, hrD, hbD, hb10⟩ := conv_any w9 SL 16 HSLL.out
          have hB10 := below_all hB9 hb10
          have hS10 := hS9.below hb10
          have hop10 : OpvIn w10 (.write ((1 : Nat) : Int) SL) ⟨⟨0, ((1 : Nat) : Int), 0, SL, []⟩, some ⟨w9.heap.size, 0, none⟩, cD, none, 0⟩ :=
            ⟨rfl, rfl, hrD, hbD, by show SL.length ≤ cD; rw [HSLL.out]; exact hcD, by show SL.length ≤ _; rw [HSLL.out]; omega, by constructor <;> (show _ ≤ _) <;> simp only <;> omega⟩
          clear hb9 hb10 hrD hbD hB8 hS8 hB9 hS9
          go_wp2_with (at_builtin; refine wpList_app _ rfl _ _ 22 22 rfl w0.heap.size 45 i1 _ 5 72 Try.underlying22 HI1.out HY0.out HY1.out HY2.out rfl A8 (j + 1) c8 _ rfl (hS10.own.alloc _) _ 1 _ rfl (Src.new Try.underlying22 rfl (by simp [Value.oneCell'])) (by simp only [maxLen]; omega) (by omega) (Nat.le_trans hB10.size (by simp)) ?_; intro A11 c11 w11 hownX hgX hbX; refine Classical.byContradiction fun hstop => ?_)
          refine absurd ?_ hstop
          clear hstop
          have hS11 := hS10.app ((Below.refl _ w10).alloc (Nat.le_refl _) (.cells #[.int .i64 0, .int .i64 ((1 : Nat) : Int), .int .i64 0, .slice (some ⟨w9.heap.size, 0, none⟩) 16 cD, .slice none 0 0] 45)) (o := .write ((1 : Nat) : Int) SL) (p := ⟨⟨0, ((1 : Nat) : Int), 0, SL, []⟩, some ⟨w9.heap.size, 0, none⟩, cD, none, 0⟩) (hop10.below ((Below.refl _ w10).alloc (Nat.le_refl _) _)) (by simp only [Opv.cells, HSLL.out, List.length_nil]; rfl) hownX hgX
          have hB11 := (hB10.alloc hB10.size (.cells #[.int .i64 0, .int .i64 ((1 : Nat) : Int), .int .i64 0, .slice (some ⟨w9.heap.size, 0, none⟩) 16 cD, .slice none 0 0] 45)).grown hgX (Nat.le_trans hB10.size (by simp)) (fun i hi => (hS10.own.lt i hi).1)
          clear hownX hgX hbX
          clear hS10 hB10 hop10 hcv0
          go_upto_region 19 with fail
          go_wp2_with (at_builtin; refine wpList_app _ rfl _ _ 22 22 rfl w0.heap.size 45 i1 _ 5 72 Try.underlying22 HI1.out HY0.out HY1.out HY2.out rfl A11 (j + 1 + 1) c11 _ rfl (hS11.own.alloc _) _ 1 _ rfl (Src.new Try.underlying22 rfl (by simp [Value.oneCell'])) (by simp only [maxLen]; omega) (by omega) (Nat.le_trans hB11.size (by simp)) ?_; intro A12 c12 w12 hownX hgX hbX; refine Classical.byContradiction fun hstop => ?_)
          refine absurd ?_ hstop
          clear hstop
          have hS12 := hS11.app ((Below.refl _ w11).alloc (Nat.le_refl _) (.cells #[.int .i64 2, .int .i64 0, .int .i64 0, .slice none 0 0, .slice none 0 0] 45)) (o := .flush) (p := ⟨⟨2, 0, 0, [], []⟩, none, 0, none, 0⟩) ⟨rfl, rfl, Row.nil _ _, .inl rfl, Nat.le_refl _, Nat.zero_le _, by constructor <;> decide⟩ (by rfl) hownX hgX
          have hB12 := (hB11.alloc hB11.size (.cells #[.int .i64 2, .int .i64 0, .int .i64 0, .slice none 0 0, .slice none 0 0] 45)).grown hgX (Nat.le_trans hB11.size (by simp)) (fun i hi => (hS11.own.lt i hi).1)
          clear hownX hgX hbX
          have hbw : Below w.heap.size w w12 := HB0.out.trans (hB12.mono HB0.out.size)
          rw [← HOPS.out] at hS12
          clear hS11 hB11 hB12
          go_wp2_with fail
          go_ret2
          rw [HRE.out]
          exact hS12.post hbw
    · have hkk : k = 0 := by rw [HKO.out, if_neg (fun h => hmg h.2)]
      have hd1 : (0 : Int) < (lg : Int) := by omega
      have hmg1 : ¬ (m0 : Int) = (lg : Int) := by omega
      clear hmg
      have HRE := Lib.hid (show r = (opsOf sn 0 (lg + 1) b, 0) by rw [HRE0.out, show k = 0 from hkk])
      clear hkk
      go_wp2_with fail
      rw [show ((m0 : Int) == (lg : Int)) = false by simpa using hmg1]
      clear hmg1
      clear hlong1 hlong2 hold1 hold2 hbw c0 c1 c2 c3
      go_loopw [12, 13] (fun v i wr => ∃ (j : Nat) (A' : Option Addr) (c' : Nat) (ps : List Opv), j ≤ M ∧ i = .int .i64 (j : Int) ∧ v = .slice A' j c' ∧ RSt wr w0.heap.size g0 #[.int .i64 sn, .int .i64 sr, .slice A m c, .int .i64 sk] (dataOps ((2 + 0 * a : Nat) : Int) b j) j A' c' ps ∧ Below w0.heap.size w0 wr)
        (fun _ i _ => M - (intOf i).toNat)
      case atStart => exact ⟨0, none, 0, [], Nat.zero_le _, rfl, rfl, ⟨rfl, Own.nil _ _ _ _ _, .nil, hG2⟩, hB2⟩
      case round =>
        obtain ⟨j, A', c', ps, hj, rfl, rfl, hS, hB⟩ := hrel
        clear hG2 hB2
        by_cases hlt : j < M
        · have h16 : 16 * j < nb := by omega
          obtain ⟨Z, hZ⟩ : ∃ Z : List UInt8, Z = List.replicate 16 0 := ⟨_, rfl⟩
          have hZl : Z.length = 16 := by rw [hZ]; rfl
          have hmk := make16b wr.drew
          rw [← hZ] at hmk
          have hcv := run_string (P := Try.prog) (l := Z) (n := 16) hZl 23 9 5 (A := some ⟨wr.heap.size, 0, none⟩) (c := 16) Try.underlying23 Try.underlying5 Try.underlying9 (w := (wr.alloc (.cells (bv Z).toArray 5)).drew) (Row.of_blk (Blk.new wr 5 (bv Z).toArray)).drew
          have hcut : (str b).extract (16 * j) nb = str (b.drop (16 * j)) := by rw [← HNB.out]; exact str_cut _ _
          have hdl : (b.drop (16 * j)).length = nb - 16 * j := by rw [List.length_drop, HNB.out]
          obtain ⟨Y, hY⟩ : ∃ Y, Y = b.drop (16 * j) := ⟨_, rfl⟩
          have hPD : pad16 Y = (Y ++ Z).take 16 := by rw [hZ]; rfl
          have hPDl := pad16_length Y
          have hsnoc : dataOps ((2 + 0 * a : Nat) : Int) b (j + 1) = dataOps ((2 + 0 * a : Nat) : Int) b j ++ [.write (((2 + 0 * a : Nat) : Int) + j) (pad16 Y)] := by rw [hY]; rfl
          rw [← hY] at hcut hdl
          have hcat := fun u => run_cat (P := Try.prog) Y Z (by rw [hdl, hZl]; omega) u
          obtain ⟨X, hX⟩ : ∃ X, X = Y ++ Z := ⟨_, rfl⟩
          have hXl : X.length = nb - 16 * j + 16 := by rw [hX, List.length_append, hdl, hZl]
          obtain ⟨xl, hxl⟩ : ∃ xl, xl = X.length := ⟨_, rfl⟩
          have hxl16 : 16 ≤ xl := by omega
          have hxl' : X.length = xl := hxl.symm
          obtain ⟨PD, hPDe⟩ : ∃ PD, PD = pad16 Y := ⟨_, rfl⟩
          rw [← hPDe] at hPD hPDl hsnoc
          rw [← hX] at hcat hPD
          have hfr : (str X).extract 0 16 = str PD := by rw [hPD]; exact str_front _ _
          have HSNOC := Lib.hid hsnoc
          have HPDL := Lib.hid hPDl
          clear hdl hY hX hXl hxl hPD hPDl hPDe hsnoc hZ hZl
          go_wp2_with fail
          refine wp_region_seq true (.take 0 .copy (.take 1 .copy (.take 2 .int2 (.take 3 .cut (.alone 4 (.take 5 (.text 23 5 9) (.take 6 (.str2 9) (.take 7 .copy .fin)))))))) (by kernel_rfl) (by kernel_rfl) (by kernel_rfl) ?_
          simp only [pre, nxt, List.getElem?_toArray, List.getElem?_cons_zero, List.getElem?_cons_succ, opAt, ghosts, List.nil_append, gInt, gStr, ghost, List.cons_append]
          go_wp2_with fail
          refine next_keep (Keep.alloc wr.drew _) ?_
          go_wp2_with fail
          refine ends_normal ?_
          clear hmk hcv hcut hcat
          have hB14 := (hB.alloc hB.size (.cells (bv Z).toArray 5)).drew
          have hS14 := hS.below ((Below.refl _ wr).alloc (Nat.le_refl _) (.cells (bv Z).toArray 5)).drew
          obtain ⟨w4, hw4⟩ : ∃ w4, w4 = (wr.alloc (.cells (bv Z).toArray 5)).drew := ⟨_, rfl⟩
          rw [← hw4] at hB14 hS14
          have HW4 := Lib.hid hw4
          clear hw4 hB hS
          go_upto_region 15 with fail
          rw [← HW4.out]
          clear HW4
          refine wp_region_seqS ((fun u => Blk u g0 27 #[.int .i64 sn, .int .i64 sr, .slice A m c, .int .i64 sk])) (.take 0 .copy (.take 1 .copy (.take 2 .addr (.hold 3 (.take 7 .copy (.take 9 .copy (.take 10 .cut (.fork 4 (.take 5 .int2 (.take 6 .int2 (.take 8 .int2 (.alone 11 (.alone 12 (.alone 13 (.alone 14 (.take 15 .copy .fin)))))))) 11 (.alone 4 (.take 5 .int2 (.take 6 .int2 (.take 8 .int2 (.alone 12 (.alone 13 (.alone 14 (.take 15 .copy .fin)))))))))))))))) (by kernel_rfl) (by kernel_rfl) (by kernel_rfl) ?_ ?_
          · exact hS14.blk.drew
          simp only [preS, nxtS, List.getElem?_toArray, List.getElem?_cons_zero, List.getElem?_cons_succ, opAt, ghosts, List.nil_append, gInt, ghost, List.cons_append]
          obtain ⟨cD, w6, hcv0, hcD, hrD, hbD, hb6'⟩ := conv_any w4.drew PD 16 HPDL.out
          have hcv : (convert 9 23 (.string (str PD))).run Try.prog w4.drew = .ok (.slice (some ⟨w4.heap.size, 0, none⟩) 16 cD) w6 := hcv0
          have hb46 : Below w4.heap.size w4 w6 := (Below.refl _ w4).drew.trans hb6'
          have hS6 := hS14.below hb46
          have hB6 := below_all hB14 hb46
          have hop6 : OpvIn w6 (.write (((2 + 0 * a : Nat) : Int) + j) PD) ⟨⟨0, ((2 + 0 * a : Nat) : Int) + j, 0, PD, []⟩, some ⟨w4.heap.size, 0, none⟩, cD, none, 0⟩ :=
            ⟨rfl, rfl, hrD, hbD, by show PD.length ≤ cD; rw [HPDL.out]; exact hcD, by show PD.length ≤ _; rw [HPDL.out]; omega, by constructor <;> (show _ ≤ _) <;> simp only <;> omega⟩
          clear hcv0 hb6' hrD hbD
          go_wp2_with fail
          refine next_hold (.int .i64 sn) rfl (hold_cell 3 _ rfl ⟨g0, 0, none⟩ rfl _ _ (fun u h => by have := h.cell 0; simpa using this) rfl Try.underlying3) ?_
          go_wp2_with fail
          refine next_fork ?_ ?_
          · go_wp2_with fail
            refine (HAR.out _).mono ?_
            rintro e w5 ⟨rfl, rfl⟩
            go_wp2_with fail
            refine nextS hS14.blk.drew ?_
            go_wp2_with fail
            refine nextS hS6.blk ?_
            go_wp2_with fail
            refine nextS hS6.blk ?_
            go_wp2_with fail
            refine nextS (hS6.blk.alloc _) ?_
            go_wp2_with (at_builtin; refine wpList_app _ rfl _ _ 22 22 rfl w0.heap.size 45 i1 _ 5 72 Try.underlying22 HI1.out HY0.out HY1.out HY2.out rfl A' j c' _ rfl (hS6.own.alloc _) _ 1 _ rfl (Src.new Try.underlying22 rfl (by simp [Value.oneCell'])) (by simp only [maxLen]; omega) (by omega) (Nat.le_trans hB6.size (by simp)) ?_; intro A7 c7 w7 hown7 hg7 hb7; refine Classical.byContradiction fun hstop => ?_)
            refine absurd ?_ hstop
            clear hstop
            have hS7 := hS6.app ((Below.refl _ w6).alloc (Nat.le_refl _) (.cells #[.int .i64 0, .int .i64 (2 + (j : Int)), .int .i64 0, .slice (some ⟨w4.heap.size, 0, none⟩) 16 cD, .slice none 0 0] 45)) (o := .write (((2 + 0 * a : Nat) : Int) + j) PD) (p := ⟨⟨0, ((2 + 0 * a : Nat) : Int) + j, 0, PD, []⟩, some ⟨w4.heap.size, 0, none⟩, cD, none, 0⟩) ((hop6.below ((Below.refl _ w6).alloc (Nat.le_refl _) _))) (by
              have e : ((2 + 0 * a : Nat) : Int) = 2 := by omega
              simp only [Opv.cells, HPDL.out, List.length_nil, e]) hown7 hg7
            have hB7 := (hB6.alloc hB6.size (.cells #[.int .i64 0, .int .i64 (2 + (j : Int)), .int .i64 0, .slice (some ⟨w4.heap.size, 0, none⟩) 16 cD, .slice none 0 0] 45)).grown hg7 (Nat.le_trans hB6.size (by simp)) (fun i hi => (hS6.own.lt i hi).1)
            rw [← HSNOC.out] at hS7
            refine nextS hS7.blk ?_
            go_wp2_with fail
            refine ends_normal ?_
            clear hS6 hB6 hop6 hcv hown7 hg7 hb7
            go_wp2_with fail
            go_roundw
            case rel => exact ⟨j + 1, A7, c7, _, by omega, by go_num, rfl, hS7, hB7⟩
            case measure => simp [intOf]; omega
          · go_wp2_with fail
            refine nextS hS6.blk ?_
            go_wp2_with fail
            refine (HAR.out _).mono ?_
            rintro e w6 ⟨rfl, rfl⟩
            go_wp2_with fail
            refine nextS hS6.blk ?_
            go_wp2_with fail
            refine nextS hS6.blk ?_
            go_wp2_with fail
            refine nextS (hS6.blk.alloc _) ?_
            go_wp2_with (at_builtin; refine wpList_app _ rfl _ _ 22 22 rfl w0.heap.size 45 i1 _ 5 72 Try.underlying22 HI1.out HY0.out HY1.out HY2.out rfl A' j c' _ rfl (hS6.own.alloc _) _ 1 _ rfl (Src.new Try.underlying22 rfl (by simp [Value.oneCell'])) (by simp only [maxLen]; omega) (by omega) (Nat.le_trans hB6.size (by simp)) ?_; intro A7 c7 w7 hown7 hg7 hb7; refine Classical.byContradiction fun hstop => ?_)
            refine absurd ?_ hstop
            clear hstop
            have hS7 := hS6.app ((Below.refl _ w6).alloc (Nat.le_refl _) (.cells #[.int .i64 0, .int .i64 (2 + (j : Int)), .int .i64 0, .slice (some ⟨w4.heap.size, 0, none⟩) 16 cD, .slice none 0 0] 45)) (o := .write (((2 + 0 * a : Nat) : Int) + j) PD) (p := ⟨⟨0, ((2 + 0 * a : Nat) : Int) + j, 0, PD, []⟩, some ⟨w4.heap.size, 0, none⟩, cD, none, 0⟩) ((hop6.below ((Below.refl _ w6).alloc (Nat.le_refl _) _))) (by
              have e : ((2 + 0 * a : Nat) : Int) = 2 := by omega
              simp only [Opv.cells, HPDL.out, List.length_nil, e]) hown7 hg7
            have hB7 := (hB6.alloc hB6.size (.cells #[.int .i64 0, .int .i64 (2 + (j : Int)), .int .i64 0, .slice (some ⟨w4.heap.size, 0, none⟩) 16 cD, .slice none 0 0] 45)).grown hg7 (Nat.le_trans hB6.size (by simp)) (fun i hi => (hS6.own.lt i hi).1)
            rw [← HSNOC.out] at hS7
            refine nextS hS7.blk ?_
            go_wp2_with fail
            refine ends_normal ?_
            clear hS6 hB6 hop6 hcv hown7 hg7 hb7
            go_wp2_with fail
            go_roundw
            case rel => exact ⟨j + 1, A7, c7, _, by omega, by go_num, rfl, hS7, hB7⟩
            case measure => simp [intOf]; omega
        · obtain rfl : j = M := by omega
          have hof := fun u => rOf_any b u (by rw [HNB.out]; omega)
          have had := adler_lt b
          have hfit : fitAll 4 [((lg : Int) + 1), (nb : Int), (adler b : Int)] = true := by
            have h1 := HLG.out
            unfold fitAll ft lim
            simp only [List.all_cons, List.all_nil, Bool.and_true, Bool.and_eq_true, decide_eq_true_eq]
            have e : (if (4 : Int) = 8 then bigTop else 256 ^ (4 : Int).toNat) = 4294967296 := by decide
            rw [e]
            omega
          have hput := rPut_any 4 (some ⟨wr.heap.size, 0, none⟩) 3 3 [((lg : Int) + 1), (nb : Int), (adler b : Int)] (wr.alloc (.cells #[.int .i64 ((lg : Int) + 1), .int .i64 (nb : Int), .int .i64 (adler b : Int)] 3)) rfl row_new13 (by omega)
          have hmk : (if rt 4 && fitAll 4 [((lg : Int) + 1), (nb : Int), (adler b : Int)] then putB (4 : Int).toNat [((lg : Int) + 1), (nb : Int), (adler b : Int)] else []) = markX (lg + 1) b := by
            have h1 : ((lg : Int) + 1).toNat = lg + 1 := by omega
            have h2 : (4 : Int).toNat = 4 := rfl
            rw [hfit, h2]
            unfold putB markX
            simp only [List.flatMap_cons, List.flatMap_nil, List.append_nil, Int.toNat_natCast, h1, HNB.out, List.append_assoc]
            rfl
          have hsl := fun u => rSeal_any (markX (lg + 1) b) u (by rw [markX_length]; omega)
          have hSLl : (sealed (markX (lg + 1) b)).length = 16 := by rw [sealed_length, markX_length]
          rw [hmk] at hput
          obtain ⟨ok, hok⟩ : ∃ ok, ok = (rt 4 && fitAll 4 [((lg : Int) + 1), (nb : Int), (adler b : Int)]) := ⟨_, rfl⟩
          rw [← hok] at hput
          obtain ⟨ad, hade⟩ : ∃ ad, ad = adler b := ⟨_, rfl⟩
          rw [← hade] at hof had hput
          obtain ⟨MX, hMX⟩ : ∃ MX, MX = markX (lg + 1) b := ⟨_, rfl⟩
          rw [← hMX] at hput hsl hSLl
          obtain ⟨SL, hSL⟩ : ∃ SL, SL = sealed MX := ⟨_, rfl⟩
          rw [← hSL] at hsl hSLl
          have hops : opsOf sn 0 (lg + 1) b = ((dataOps ((2 + 0 * a : Nat) : Int) b j ++ [.flush]) ++ [.write ((0 : Nat) : Int) SL]) ++ [.flush] := by
            unfold opsOf
            rw [← HA.out, ← HM.out, hSL, hMX]
            simp only [List.append_assoc, List.cons_append, List.nil_append]
          have HOPS := Lib.hid hops
          have HSLL := Lib.hid hSLl
          have HSL := Lib.hid hsl
          have HLG2 := HLG.out
          have hlt1 : decide (16 * (j : Int) < (nb : Int)) = false := decide_eq_false (by omega)
          have hlt2 : decide (16 * j < nb) = false := decide_eq_false (by omega)
          have hjb : j ≤ 100000 := by omega
          have HM1 := Lib.hid hM1
          have HM2 := Lib.hid hM2
          have hB2 := hB.alloc hB.size (.cells #[.int .i64 ((lg : Int) + 1), .int .i64 (nb : Int), .int .i64 (ad : Int)] 3)
          have hS2 := hS.below ((Below.refl _ wr).alloc (Nat.le_refl _) (.cells #[.int .i64 ((lg : Int) + 1), .int .i64 (nb : Int), .int .i64 (ad : Int)] 3))
          clear hfit hmk hok hade hMX hSL hops hSLl hsl hlt hj hM1 hM2 hB hS
          go_wp2_with fail
          refine (hof _).mono ?_
          rintro e w5 ⟨rfl, rfl⟩
          go_wp2_with fail
          refine hput.mono ?_
          rintro e w6 ⟨rfl, hb6⟩
          have hB6 := below_all hB2 hb6
          have hS6 := hS2.below hb6
          clear hput hb6 hB2 hS2 hof
          go_wp2_with (at_builtin; refine wpList_app _ rfl _ _ 22 22 rfl w0.heap.size 45 i1 _ 5 72 Try.underlying22 HI1.out HY0.out HY1.out HY2.out rfl A' j c' _ rfl (hS6.own.alloc _) _ 1 _ rfl (Src.new Try.underlying22 rfl (by simp [Value.oneCell'])) (by simp only [maxLen]; omega) (by omega) (Nat.le_trans hB6.size (by simp)) ?_; intro A8 c8 w8 hownX hgX hbX; refine Classical.byContradiction fun hstop => ?_)
          refine absurd ?_ hstop
          clear hstop
          have hS8 := hS6.app ((Below.refl _ w6).alloc (Nat.le_refl _) (.cells #[.int .i64 2, .int .i64 0, .int .i64 0, .slice none 0 0, .slice none 0 0] 45)) (o := .flush) (p := ⟨⟨2, 0, 0, [], []⟩, none, 0, none, 0⟩) ⟨rfl, rfl, Row.nil _ _, .inl rfl, Nat.le_refl _, Nat.zero_le _, by constructor <;> decide⟩ (by rfl) hownX hgX
          have hB8 := (hB6.alloc hB6.size (.cells #[.int .i64 2, .int .i64 0, .int .i64 0, .slice none 0 0, .slice none 0 0] 45)).grown hgX (Nat.le_trans hB6.size (by simp)) (fun i hi => (hS6.own.lt i hi).1)
          clear hownX hgX hbX
          go_upto_region 18 with fail
          clear hS6 hB6
          go_wp2_with fail
          refine (HSL.out _).mono ?_
          rintro e w9 ⟨rfl, hb9⟩
          have hB9 := below_all hB8 hb9
          have hS9 := hS8.below hb9
          obtain ⟨cD, w10, hcv0, hcD, hrD, hbD, hb10⟩ := conv_any w9 SL 16 HSLL.out
          have hB10 := below_all hB9 hb10
          have hS10 := hS9.below hb10
          have hop10 : OpvIn w10 (.write ((0 : Nat) : Int) SL) ⟨⟨0, ((0 : Nat) : Int), 0, SL, []⟩, some ⟨w9.heap.size, 0, none⟩, cD, none, 0⟩ :=
            ⟨rfl, rfl, hrD, hbD, by show SL.length ≤ cD; rw [HSLL.out]; exact hcD, by show SL.length ≤ _; rw [HSLL.out]; omega, by constructor <;> (show _ ≤ _) <;> simp only <;> omega⟩
          clear hb9 hb10 hrD hbD hB8 hS8 hB9 hS9
          go_wp2_with (at_builtin; refine wpList_app _ rfl _ _ 22 22 rfl w0.heap.size 45 i1 _ 5 72 Try.underlying22 HI1.out HY0.out HY1.out HY2.out rfl A8 (j + 1) c8 _ rfl (hS10.own.alloc _) _ 1 _ rfl (Src.new Try.underlying22 rfl (by simp [Value.oneCell'])) (by simp only [maxLen]; omega) (by omega) (Nat.le_trans hB10.size (by simp)) ?_; intro A11 c11 w11 hownX hgX hbX; refine Classical.byContradiction fun hstop => ?_)
          refine absurd ?_ hstop
          clear hstop
          have hS11 := hS10.app ((Below.refl _ w10).alloc (Nat.le_refl _) (.cells #[.int .i64 0, .int .i64 ((0 : Nat) : Int), .int .i64 0, .slice (some ⟨w9.heap.size, 0, none⟩) 16 cD, .slice none 0 0] 45)) (o := .write ((0 : Nat) : Int) SL) (p := ⟨⟨0, ((0 : Nat) : Int), 0, SL, []⟩, some ⟨w9.heap.size, 0, none⟩, cD, none, 0⟩) (hop10.below ((Below.refl _ w10).alloc (Nat.le_refl _) _)) (by simp only [Opv.cells, HSLL.out, List.length_nil]; rfl) hownX hgX
          have hB11 := (hB10.alloc hB10.size (.cells #[.int .i64 0, .int .i64 ((0 : Nat) : Int), .int .i64 0, .slice (some ⟨w9.heap.size, 0, none⟩) 16 cD, .slice none 0 0] 45)).grown hgX (Nat.le_trans hB10.size (by simp)) (fun i hi => (hS10.own.lt i hi).1)
          clear hownX hgX hbX
          clear hS10 hB10 hop10 hcv0
          go_upto_region 19 with fail
          go_wp2_with (at_builtin; refine wpList_app _ rfl _ _ 22 22 rfl w0.heap.size 45 i1 _ 5 72 Try.underlying22 HI1.out HY0.out HY1.out HY2.out rfl A11 (j + 1 + 1) c11 _ rfl (hS11.own.alloc _) _ 1 _ rfl (Src.new Try.underlying22 rfl (by simp [Value.oneCell'])) (by simp only [maxLen]; omega) (by omega) (Nat.le_trans hB11.size (by simp)) ?_; intro A12 c12 w12 hownX hgX hbX; refine Classical.byContradiction fun hstop => ?_)
          refine absurd ?_ hstop
          clear hstop
          have hS12 := hS11.app ((Below.refl _ w11).alloc (Nat.le_refl _) (.cells #[.int .i64 2, .int .i64 0, .int .i64 0, .slice none 0 0, .slice none 0 0] 45)) (o := .flush) (p := ⟨⟨2, 0, 0, [], []⟩, none, 0, none, 0⟩) ⟨rfl, rfl, Row.nil _ _, .inl rfl, Nat.le_refl _, Nat.zero_le _, by constructor <;> decide⟩ (by rfl) hownX hgX
          have hB12 := (hB11.alloc hB11.size (.cells #[.int .i64 2, .int .i64 0, .int .i64 0, .slice none 0 0, .slice none 0 0] 45)).grown hgX (Nat.le_trans hB11.size (by simp)) (fun i hi => (hS11.own.lt i hi).1)
          clear hownX hgX hbX
          have hbw : Below w.heap.size w w12 := HB0.out.trans (hB12.mono HB0.out.size)
          rw [← HOPS.out] at hS12
          clear hS11 hB11 hB12
          go_wp2_with fail
          go_ret2
          rw [HRE.out]
          exact hS12.post hbw
  · have hkk : k = 0 := by rw [HKO.out, if_neg (fun h => hg h.1)]
    have hd1 : decide ((0 : Int) < (lg : Int)) = false := decide_eq_false (by omega)
    have hd2 : decide (0 < lg) = false := decide_eq_false hg
    clear hg
    have HRE := Lib.hid (show r = (opsOf sn 0 (lg + 1) b, 0) by rw [HRE0.out, show k = 0 from hkk])
    clear hkk
    go_wp2_with fail
    clear hlong1 hlong2 hold1 hold2 hbw c0 c1 c2 c3
    go_loopw [12, 13] (fun v i wr => ∃ (j : Nat) (A' : Option Addr) (c' : Nat) (ps : List Opv), j ≤ M ∧ i = .int .i64 (j : Int) ∧ v = .slice A' j c' ∧ RSt wr w0.heap.size g0 #[.int .i64 sn, .int .i64 sr, .slice A m c, .int .i64 sk] (dataOps ((2 + 0 * a : Nat) : Int) b j) j A' c' ps ∧ Below w0.heap.size w0 wr)
      (fun _ i _ => M - (intOf i).toNat)
    case atStart => exact ⟨0, none, 0, [], Nat.zero_le _, rfl, rfl, ⟨rfl, Own.nil _ _ _ _ _, .nil, hG2⟩, hB2⟩
    case round =>
      obtain ⟨j, A', c', ps, hj, rfl, rfl, hS, hB⟩ := hrel
      clear hG2 hB2
      by_cases hlt : j < M
      · have h16 : 16 * j < nb := by omega
        obtain ⟨Z, hZ⟩ : ∃ Z : List UInt8, Z = List.replicate 16 0 := ⟨_, rfl⟩
        have hZl : Z.length = 16 := by rw [hZ]; rfl
        have hmk := make16b wr.drew
        rw [← hZ] at hmk
        have hcv := run_string (P := Try.prog) (l := Z) (n := 16) hZl 23 9 5 (A := some ⟨wr.heap.size, 0, none⟩) (c := 16) Try.underlying23 Try.underlying5 Try.underlying9 (w := (wr.alloc (.cells (bv Z).toArray 5)).drew) (Row.of_blk (Blk.new wr 5 (bv Z).toArray)).drew
        have hcut : (str b).extract (16 * j) nb = str (b.drop (16 * j)) := by rw [← HNB.out]; exact str_cut _ _
        have hdl : (b.drop (16 * j)).length = nb - 16 * j := by rw [List.length_drop, HNB.out]
        obtain ⟨Y, hY⟩ : ∃ Y, Y = b.drop (16 * j) := ⟨_, rfl⟩
        have hPD : pad16 Y = (Y ++ Z).take 16 := by rw [hZ]; rfl
        have hPDl := pad16_length Y
        have hsnoc : dataOps ((2 + 0 * a : Nat) : Int) b (j + 1) = dataOps ((2 + 0 * a : Nat) : Int) b j ++ [.write (((2 + 0 * a : Nat) : Int) + j) (pad16 Y)] := by rw [hY]; rfl
        rw [← hY] at hcut hdl
        have hcat := fun u => run_cat (P := Try.prog) Y Z (by rw [hdl, hZl]; omega) u
        obtain ⟨X, hX⟩ : ∃ X, X = Y ++ Z := ⟨_, rfl⟩
        have hXl : X.length = nb - 16 * j + 16 := by rw [hX, List.length_append, hdl, hZl]
        obtain ⟨xl, hxl⟩ : ∃ xl, xl = X.length := ⟨_, rfl⟩
        have hxl16 : 16 ≤ xl := by omega
        have hxl' : X.length = xl := hxl.symm
        obtain ⟨PD, hPDe⟩ : ∃ PD, PD = pad16 Y := ⟨_, rfl⟩
        rw [← hPDe] at hPD hPDl hsnoc
        rw [← hX] at hcat hPD
        have hfr : (str X).extract 0 16 = str PD := by rw [hPD]; exact str_front _ _
        have HSNOC := Lib.hid hsnoc
        have HPDL := Lib.hid hPDl
        clear hdl hY hX hXl hxl hPD hPDl hPDe hsnoc hZ hZl
        go_wp2_with fail
        refine wp_region_seq true (.take 0 .copy (.take 1 .copy (.take 2 .int2 (.take 3 .cut (.alone 4 (.take 5 (.text 23 5 9) (.take 6 (.str2 9) (.take 7 .copy .fin)))))))) (by kernel_rfl) (by kernel_rfl) (by kernel_rfl) ?_
        simp only [pre, nxt, List.getElem?_toArray, List.getElem?_cons_zero, List.getElem?_cons_succ, opAt, ghosts, List.nil_append, gInt, gStr, ghost, List.cons_append]
        go_wp2_with fail
        refine next_keep (Keep.alloc wr.drew _) ?_
        go_wp2_with fail
        refine ends_normal ?_
        clear hmk hcv hcut hcat
        have hB14 := (hB.alloc hB.size (.cells (bv Z).toArray 5)).drew
        have hS14 := hS.below ((Below.refl _ wr).alloc (Nat.le_refl _) (.cells (bv Z).toArray 5)).drew
        obtain ⟨w4, hw4⟩ : ∃ w4, w4 = (wr.alloc (.cells (bv Z).toArray 5)).drew := ⟨_, rfl⟩
        rw [← hw4] at hB14 hS14
        have HW4 := Lib.hid hw4
        clear hw4 hB hS
        go_upto_region 15 with fail
        rw [← HW4.out]
        clear HW4
        refine wp_region_seqS ((fun u => Blk u g0 27 #[.int .i64 sn, .int .i64 sr, .slice A m c, .int .i64 sk])) (.take 0 .copy (.take 1 .copy (.take 2 .addr (.hold 3 (.take 7 .copy (.take 9 .copy (.take 10 .cut (.fork 4 (.take 5 .int2 (.take 6 .int2 (.take 8 .int2 (.alone 11 (.alone 12 (.alone 13 (.alone 14 (.take 15 .copy .fin)))))))) 11 (.alone 4 (.take 5 .int2 (.take 6 .int2 (.take 8 .int2 (.alone 12 (.alone 13 (.alone 14 (.take 15 .copy .fin)))))))))))))))) (by kernel_rfl) (by kernel_rfl) (by kernel_rfl) ?_ ?_
        · exact hS14.blk.drew
        simp only [preS, nxtS, List.getElem?_toArray, List.getElem?_cons_zero, List.getElem?_cons_succ, opAt, ghosts, List.nil_append, gInt, ghost, List.cons_append]
        obtain ⟨cD, w6, hcv0, hcD, hrD, hbD, hb6'⟩ := conv_any w4.drew PD 16 HPDL.out
        have hcv : (convert 9 23 (.string (str PD))).run Try.prog w4.drew = .ok (.slice (some ⟨w4.heap.size, 0, none⟩) 16 cD) w6 := hcv0
        have hb46 : Below w4.heap.size w4 w6 := (Below.refl _ w4).drew.trans hb6'
        have hS6 := hS14.below hb46
        have hB6 := below_all hB14 hb46
        have hop6 : OpvIn w6 (.write (((2 + 0 * a : Nat) : Int) + j) PD) ⟨⟨0, ((2 + 0 * a : Nat) : Int) + j, 0, PD, []⟩, some ⟨w4.heap.size, 0, none⟩, cD, none, 0⟩ :=
          ⟨rfl, rfl, hrD, hbD, by show PD.length ≤ cD; rw [HPDL.out]; exact hcD, by show PD.length ≤ _; rw [HPDL.out]; omega, by constructor <;> (show _ ≤ _) <;> simp only <;> omega⟩
        clear hcv0 hb6' hrD hbD
        go_wp2_with fail
        refine next_hold (.int .i64 sn) rfl (hold_cell 3 _ rfl ⟨g0, 0, none⟩ rfl _ _ (fun u h => by have := h.cell 0; simpa using this) rfl Try.underlying3) ?_
        go_wp2_with fail
        refine next_fork ?_ ?_
        · go_wp2_with fail
          refine (HAR.out _).mono ?_
          rintro e w5 ⟨rfl, rfl⟩
          go_wp2_with fail
          refine nextS hS14.blk.drew ?_
          go_wp2_with fail
          refine nextS hS6.blk ?_
          go_wp2_with fail
          refine nextS hS6.blk ?_
          go_wp2_with fail
          refine nextS (hS6.blk.alloc _) ?_
          go_wp2_with (at_builtin; refine wpList_app _ rfl _ _ 22 22 rfl w0.heap.size 45 i1 _ 5 72 Try.underlying22 HI1.out HY0.out HY1.out HY2.out rfl A' j c' _ rfl (hS6.own.alloc _) _ 1 _ rfl (Src.new Try.underlying22 rfl (by simp [Value.oneCell'])) (by simp only [maxLen]; omega) (by omega) (Nat.le_trans hB6.size (by simp)) ?_; intro A7 c7 w7 hown7 hg7 hb7; refine Classical.byContradiction fun hstop => ?_)
          refine absurd ?_ hstop
          clear hstop
          have hS7 := hS6.app ((Below.refl _ w6).alloc (Nat.le_refl _) (.cells #[.int .i64 0, .int .i64 (2 + (j : Int)), .int .i64 0, .slice (some ⟨w4.heap.size, 0, none⟩) 16 cD, .slice none 0 0] 45)) (o := .write (((2 + 0 * a : Nat) : Int) + j) PD) (p := ⟨⟨0, ((2 + 0 * a : Nat) : Int) + j, 0, PD, []⟩, some ⟨w4.heap.size, 0, none⟩, cD, none, 0⟩) ((hop6.below ((Below.refl _ w6).alloc (Nat.le_refl _) _))) (by
            have e : ((2 + 0 * a : Nat) : Int) = 2 := by omega
            simp only [Opv.cells, HPDL.out, List.length_nil, e]) hown7 hg7
          have hB7 := (hB6.alloc hB6.size (.cells #[.int .i64 0, .int .i64 (2 + (j : Int)), .int .i64 0, .slice (some ⟨w4.heap.size, 0, none⟩) 16 cD, .slice none 0 0] 45)).grown hg7 (Nat.le_trans hB6.size (by simp)) (fun i hi => (hS6.own.lt i hi).1)
          rw [← HSNOC.out] at hS7
          refine nextS hS7.blk ?_
          go_wp2_with fail
          refine ends_normal ?_
          clear hS6 hB6 hop6 hcv hown7 hg7 hb7
          go_wp2_with fail
          go_roundw
          case rel => exact ⟨j + 1, A7, c7, _, by omega, by go_num, rfl, hS7, hB7⟩
          case measure => simp [intOf]; omega
        · go_wp2_with fail
          refine nextS hS6.blk ?_
          go_wp2_with fail
          refine (HAR.out _).mono ?_
          rintro e w6 ⟨rfl, rfl⟩
          go_wp2_with fail
          refine nextS hS6.blk ?_
          go_wp2_with fail
          refine nextS hS6.blk ?_
          go_wp2_with fail
          refine nextS (hS6.blk.alloc _) ?_
          go_wp2_with (at_builtin; refine wpList_app _ rfl _ _ 22 22 rfl w0.heap.size 45 i1 _ 5 72 Try.underlying22 HI1.out HY0.out HY1.out HY2.out rfl A' j c' _ rfl (hS6.own.alloc _) _ 1 _ rfl (Src.new Try.underlying22 rfl (by simp [Value.oneCell'])) (by simp only [maxLen]; omega) (by omega) (Nat.le_trans hB6.size (by simp)) ?_; intro A7 c7 w7 hown7 hg7 hb7; refine Classical.byContradiction fun hstop => ?_)
          refine absurd ?_ hstop
          clear hstop
          have hS7 := hS6.app ((Below.refl _ w6).alloc (Nat.le_refl _) (.cells #[.int .i64 0, .int .i64 (2 + (j : Int)), .int .i64 0, .slice (some ⟨w4.heap.size, 0, none⟩) 16 cD, .slice none 0 0] 45)) (o := .write (((2 + 0 * a : Nat) : Int) + j) PD) (p := ⟨⟨0, ((2 + 0 * a : Nat) : Int) + j, 0, PD, []⟩, some ⟨w4.heap.size, 0, none⟩, cD, none, 0⟩) ((hop6.below ((Below.refl _ w6).alloc (Nat.le_refl _) _))) (by
            have e : ((2 + 0 * a : Nat) : Int) = 2 := by omega
            simp only [Opv.cells, HPDL.out, List.length_nil, e]) hown7 hg7
          have hB7 := (hB6.alloc hB6.size (.cells #[.int .i64 0, .int .i64 (2 + (j : Int)), .int .i64 0, .slice (some ⟨w4.heap.size, 0, none⟩) 16 cD, .slice none 0 0] 45)).grown hg7 (Nat.le_trans hB6.size (by simp)) (fun i hi => (hS6.own.lt i hi).1)
          rw [← HSNOC.out] at hS7
          refine nextS hS7.blk ?_
          go_wp2_with fail
          refine ends_normal ?_
          clear hS6 hB6 hop6 hcv hown7 hg7 hb7
          go_wp2_with fail
          go_roundw
          case rel => exact ⟨j + 1, A7, c7, _, by omega, by go_num, rfl, hS7, hB7⟩
          case measure => simp [intOf]; omega
      · obtain rfl : j = M := by omega
        have hof := fun u => rOf_any b u (by rw [HNB.out]; omega)
        have had := adler_lt b
        have hfit : fitAll 4 [((lg : Int) + 1), (nb : Int), (adler b : Int)] = true := by
          have h1 := HLG.out
          unfold fitAll ft lim
          simp only [List.all_cons, List.all_nil, Bool.and_true, Bool.and_eq_true, decide_eq_true_eq]
          have e : (if (4 : Int) = 8 then bigTop else 256 ^ (4 : Int).toNat) = 4294967296 := by decide
          rw [e]
          omega
        have hput := rPut_any 4 (some ⟨wr.heap.size, 0, none⟩) 3 3 [((lg : Int) + 1), (nb : Int), (adler b : Int)] (wr.alloc (.cells #[.int .i64 ((lg : Int) + 1), .int .i64 (nb : Int), .int .i64 (adler b : Int)] 3)) rfl row_new13 (by omega)
        have hmk : (if rt 4 && fitAll 4 [((lg : Int) + 1), (nb : Int), (adler b : Int)] then putB (4 : Int).toNat [((lg : Int) + 1), (nb : Int), (adler b : Int)] else []) = markX (lg + 1) b := by
          have h1 : ((lg : Int) + 1).toNat = lg + 1 := by omega
          have h2 : (4 : Int).toNat = 4 := rfl
          rw [hfit, h2]
          unfold putB markX
          simp only [List.flatMap_cons, List.flatMap_nil, List.append_nil, Int.toNat_natCast, h1, HNB.out, List.append_assoc]
          rfl
        have hsl := fun u => rSeal_any (markX (lg + 1) b) u (by rw [markX_length]; omega)
        have hSLl : (sealed (markX (lg + 1) b)).length = 16 := by rw [sealed_length, markX_length]
        rw [hmk] at hput
        obtain ⟨ok, hok⟩ : ∃ ok, ok = (rt 4 && fitAll 4 [((lg : Int) + 1), (nb : Int), (adler b : Int)]) := ⟨_, rfl⟩
        rw [← hok] at hput
        obtain ⟨ad, hade⟩ : ∃ ad, ad = adler b := ⟨_, rfl⟩
        rw [← hade] at hof had hput
        obtain ⟨MX, hMX⟩ : ∃ MX, MX = markX (lg + 1) b := ⟨_, rfl⟩
        rw [← hMX] at hput hsl hSLl
        obtain ⟨SL, hSL⟩ : ∃ SL, SL = sealed MX := ⟨_, rfl⟩
        rw [← hSL] at hsl hSLl
        have hops : opsOf sn 0 (lg + 1) b = ((dataOps ((2 + 0 * a : Nat) : Int) b j ++ [.flush]) ++ [.write ((0 : Nat) : Int) SL]) ++ [.flush] := by
          unfold opsOf
          rw [← HA.out, ← HM.out, hSL, hMX]
          simp only [List.append_assoc, List.cons_append, List.nil_append]
        have HOPS := Lib.hid hops
        have HSLL := Lib.hid hSLl
        have HSL := Lib.hid hsl
        have HLG2 := HLG.out
        have hlt1 : decide (16 * (j : Int) < (nb : Int)) = false := decide_eq_false (by omega)
        have hlt2 : decide (16 * j < nb) = false := decide_eq_false (by omega)
        have hjb : j ≤ 100000 := by omega
        have HM1 := Lib.hid hM1
        have HM2 := Lib.hid hM2
        have hB2 := hB.alloc hB.size (.cells #[.int .i64 ((lg : Int) + 1), .int .i64 (nb : Int), .int .i64 (ad : Int)] 3)
        have hS2 := hS.below ((Below.refl _ wr).alloc (Nat.le_refl _) (.cells #[.int .i64 ((lg : Int) + 1), .int .i64 (nb : Int), .int .i64 (ad : Int)] 3))
        clear hfit hmk hok hade hMX hSL hops hSLl hsl hlt hj hM1 hM2 hB hS
        go_wp2_with fail
        refine (hof _).mono ?_
        rintro e w5 ⟨rfl, rfl⟩
        go_wp2_with fail
        refine hput.mono ?_
        rintro e w6 ⟨rfl, hb6⟩
        have hB6 := below_all hB2 hb6
        have hS6 := hS2.below hb6
        clear hput hb6 hB2 hS2 hof
        go_wp2_with (at_builtin; refine wpList_app _ rfl _ _ 22 22 rfl w0.heap.size 45 i1 _ 5 72 Try.underlying22 HI1.out HY0.out HY1.out HY2.out rfl A' j c' _ rfl (hS6.own.alloc _) _ 1 _ rfl (Src.new Try.underlying22 rfl (by simp [Value.oneCell'])) (by simp only [maxLen]; omega) (by omega) (Nat.le_trans hB6.size (by simp)) ?_; intro A8 c8 w8 hownX hgX hbX; refine Classical.byContradiction fun hstop => ?_)
        refine absurd ?_ hstop
        clear hstop
        have hS8 := hS6.app ((Below.refl _ w6).alloc (Nat.le_refl _) (.cells #[.int .i64 2, .int .i64 0, .int .i64 0, .slice none 0 0, .slice none 0 0] 45)) (o := .flush) (p := ⟨⟨2, 0, 0, [], []⟩, none, 0, none, 0⟩) ⟨rfl, rfl, Row.nil _ _, .inl rfl, Nat.le_refl _, Nat.zero_le _, by constructor <;> decide⟩ (by rfl) hownX hgX
        have hB8 := (hB6.alloc hB6.size (.cells #[.int .i64 2, .int .i64 0, .int .i64 0, .slice none 0 0, .slice none 0 0] 45)).grown hgX (Nat.le_trans hB6.size (by simp)) (fun i hi => (hS6.own.lt i hi).1)
        clear hownX hgX hbX
        go_upto_region 18 with fail
        clear hS6 hB6
        go_wp2_with fail
        refine (HSL.out _).mono ?_
        rintro e w9 ⟨rfl, hb9⟩
        have hB9 := below_all hB8 hb9
        have hS9 := hS8.below hb9
        obtain ⟨cD, w10, hcv0, hcD, hrD, hbD, hb10⟩ := conv_any w9 SL 16 HSLL.out
        have hB10 := below_all hB9 hb10
        have hS10 := hS9.below hb10
        have hop10 : OpvIn w10 (.write ((0 : Nat) : Int) SL) ⟨⟨0, ((0 : Nat) : Int), 0, SL, []⟩, some ⟨w9.heap.size, 0, none⟩, cD, none, 0⟩ :=
          ⟨rfl, rfl, hrD, hbD, by show SL.length ≤ cD; rw [HSLL.out]; exact hcD, by show SL.length ≤ _; rw [HSLL.out]; omega, by constructor <;> (show _ ≤ _) <;> simp only <;> omega⟩
        clear hb9 hb10 hrD hbD hB8 hS8 hB9 hS9
        go_wp2_with (at_builtin; refine wpList_app _ rfl _ _ 22 22 rfl w0.heap.size 45 i1 _ 5 72 Try.underlying22 HI1.out HY0.out HY1.out HY2.out rfl A8 (j + 1) c8 _ rfl (hS10.own.alloc _) _ 1 _ rfl (Src.new Try.underlying22 rfl (by simp [Value.oneCell'])) (by simp only [maxLen]; omega) (by omega) (Nat.le_trans hB10.size (by simp)) ?_; intro A11 c11 w11 hownX hgX hbX; refine Classical.byContradiction fun hstop => ?_)
        refine absurd ?_ hstop
        clear hstop
        have hS11 := hS10.app ((Below.refl _ w10).alloc (Nat.le_refl _) (.cells #[.int .i64 0, .int .i64 ((0 : Nat) : Int), .int .i64 0, .slice (some ⟨w9.heap.size, 0, none⟩) 16 cD, .slice none 0 0] 45)) (o := .write ((0 : Nat) : Int) SL) (p := ⟨⟨0, ((0 : Nat) : Int), 0, SL, []⟩, some ⟨w9.heap.size, 0, none⟩, cD, none, 0⟩) (hop10.below ((Below.refl _ w10).alloc (Nat.le_refl _) _)) (by simp only [Opv.cells, HSLL.out, List.length_nil]; rfl) hownX hgX
        have hB11 := (hB10.alloc hB10.size (.cells #[.int .i64 0, .int .i64 ((0 : Nat) : Int), .int .i64 0, .slice (some ⟨w9.heap.size, 0, none⟩) 16 cD, .slice none 0 0] 45)).grown hgX (Nat.le_trans hB10.size (by simp)) (fun i hi => (hS10.own.lt i hi).1)
        clear hownX hgX hbX
        clear hS10 hB10 hop10 hcv0
        go_upto_region 19 with fail
        go_wp2_with (at_builtin; refine wpList_app _ rfl _ _ 22 22 rfl w0.heap.size 45 i1 _ 5 72 Try.underlying22 HI1.out HY0.out HY1.out HY2.out rfl A11 (j + 1 + 1) c11 _ rfl (hS11.own.alloc _) _ 1 _ rfl (Src.new Try.underlying22 rfl (by simp [Value.oneCell'])) (by simp only [maxLen]; omega) (by omega) (Nat.le_trans hB11.size (by simp)) ?_; intro A12 c12 w12 hownX hgX hbX; refine Classical.byContradiction fun hstop => ?_)
        refine absurd ?_ hstop
        clear hstop
        have hS12 := hS11.app ((Below.refl _ w11).alloc (Nat.le_refl _) (.cells #[.int .i64 2, .int .i64 0, .int .i64 0, .slice none 0 0, .slice none 0 0] 45)) (o := .flush) (p := ⟨⟨2, 0, 0, [], []⟩, none, 0, none, 0⟩) ⟨rfl, rfl, Row.nil _ _, .inl rfl, Nat.le_refl _, Nat.zero_le _, by constructor <;> decide⟩ (by rfl) hownX hgX
        have hB12 := (hB11.alloc hB11.size (.cells #[.int .i64 2, .int .i64 0, .int .i64 0, .slice none 0 0, .slice none 0 0] 45)).grown hgX (Nat.le_trans hB11.size (by simp)) (fun i hi => (hS11.own.lt i hi).1)
        clear hownX hgX hbX
        have hbw : Below w.heap.size w w12 := HB0.out.trans (hB12.mono HB0.out.size)
        rw [← HOPS.out] at hS12
        clear hS11 hB11 hB12
        go_wp2_with fail
        go_ret2
        rw [HRE.out]
        exact hS12.post hbw
end Go.Proofs.Ytbljacafmkdlmaa
