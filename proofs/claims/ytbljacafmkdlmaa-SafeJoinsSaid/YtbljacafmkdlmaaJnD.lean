/- pentimentoref13.Split. Condition: the bytes fit memory. -/
import Derived.Test.YtbljacafmkdlmaaJnC
import Derived.Test.YtbljacafmkdlmaaJnB
namespace Go.Proofs.Ytbljacafmkdlmaa
set_option maxRecDepth 100000
open Go.RowKit
set_option linter.unusedSimpArgs false
set_option linter.unusedVariables false

theorem info_st : (Try.prog.info? 9).map (fun i => (i.zero, i.size, i.bytes)) = some (some (.string ⟨#[]⟩), 1, 16) := by kernel_rfl
def RSplitPost (w : World) (r : Hd × List (List UInt8) × Int) (e : Ending) (w' : World) : Prop :=
  ∃ P mp cp Aq mq cq, e = .returned (.tuple #[.agg #[.int .i64 r.1.b, .int .i64 r.1.z, .string (str r.1.n), .int .i64 r.1.g, .bool r.1.c, .slice P mp cp], .slice Aq mq cq, .int .i64 r.2.2]) ∧ r.1.p.length = mp ∧ Row w' P (iv r.1.p) ∧ r.2.1.length = mq ∧ Row w' Aq (sv r.2.1) ∧ Below w.heap.size w w'
theorem RSplitPost.none_ {w w' : World} {r : Hd × List (List UInt8) × Int} {er : Int} (h : r = (noH, [], er)) (hb : Below w.heap.size w w') : RSplitPost w r (.returned (.tuple #[.agg #[.int .i64 0, .int .i64 0, .string ⟨#[]⟩, .int .i64 0, .bool false, .slice none 0 0], .slice none 0 0, .int .i64 er])) w' := by
  subst h
  exact ⟨none, 0, 0, none, 0, 0, rfl, rfl, Row.nil _ _, rfl, Row.nil _ _, hb⟩

set_option maxHeartbeats 16000000 in
theorem rSplit_any (b : List UInt8) (w : World) (hsz : b.length ≤ 1000000) :
    Calls Try.prog 26 #[.string (str b)] w (RSplitPost w (splitP b)) := by
  obtain ⟨i2, hi2, hx0, hx1, hx2⟩ := info_parts info_st
  have HI2 := Lib.hid hi2
  have HX0 := Lib.hid hx0
  have HX1 := Lib.hid hx1
  have HX2 := Lib.hid hx2
  clear hi2 hx0 hx1 hx2
  have hsuf := (tx_suf b 0 2).cut.1
  have hshort := tx_short b 0 2
  have hspl : splitP b = if (tx b 0 2).2.1 ≠ 0 then (noH, [], 131) else if (decH (tx b 0 2).2.2).2 ≠ 0 then (noH, [], (decH (tx b 0 2).2.2).2) else match cutN (decH (tx b 0 2).2.2).1.p (tx b 0 2).1 (decH (tx b 0 2).2.2).1.p.length with
    | none => (noH, [], 131)
    | some q => if q.2 = [] then ((decH (tx b 0 2).2.2).1, q.1, 0) else (noH, [], 131) := rfl
  have htx := fun u => rReadText_any b 0 2 u (by omega)
  obtain ⟨⟨l1, e1, x⟩, ht⟩ : ∃ r, r = tx b 0 2 := ⟨_, rfl⟩
  simp only [← ht] at htx hsuf hshort hspl
  have hok := decH_ok (b := x)
  obtain ⟨⟨hd, er⟩, hh⟩ : ∃ r, r = decH x := ⟨_, rfl⟩
  simp only [← hh] at hspl hok
  have HSPL := Lib.hid hspl
  have HTX := Lib.hid htx
  have HOK := Lib.hid hok
  have HH := Lib.hid hh.symm
  have hdc := fun u => rDecode5_any x u (by omega)
  have HDC := Lib.hid hdc
  have hl1m : l1.length ≤ 1000000 := by omega
  have HL1M := Lib.hid hl1m
  have hz0 := Blk.new w 56 #[.int .i64 0, .int .i64 0, .string ⟨#[]⟩, .int .i64 0, .bool false, .slice none 0 0]
  have hb0 : Below w.heap.size w (w.alloc (.cells #[.int .i64 0, .int .i64 0, .string ⟨#[]⟩, .int .i64 0, .bool false, .slice none 0 0] 56)) := (Below.refl _ w).alloc (Nat.le_refl _) _
  obtain ⟨g2, hg2⟩ : ∃ g2, g2 = w.heap.size := ⟨_, rfl⟩
  rw [← hg2] at hz0
  have hg2w : w.heap.size ≤ g2 := by omega
  obtain ⟨w0, hw0⟩ : ∃ w0, w0 = w.alloc (.cells #[.int .i64 0, .int .i64 0, .string ⟨#[]⟩, .int .i64 0, .bool false, .slice none 0 0] 56) := ⟨_, rfl⟩
  rw [← hw0] at hb0 hz0
  have HW0 := Lib.hid hw0
  have HG2 := Lib.hid hg2
  have hbw : ∀ u, Below w0.heap.size w0 u → Below w.heap.size w u := fun u hu => hb0.trans (hu.mono hb0.size)
  have HBW := Lib.hid hbw
  clear hspl htx hok hh hg2 hw0 ht hbw hdc hsuf hshort hl1m
  go_enter Try.func26, Try.ntmps26
  go_upto_region 1 with fail
  rw [← HW0.out, ← HG2.out]
  clear HW0
  go_wp2_with fail
  refine (HTX.out _).mono ?_
  rintro e w1 ⟨rfl, hb1⟩
  have hR2 := Blk.new w1 121 #[.string (str l1), .int .i64 e1]
  have hB2 := hb1.alloc hb1.size (.cells #[.string (str l1), .int .i64 e1] 121)
  obtain ⟨gr, hgr⟩ : ∃ gr, gr = w1.heap.size := ⟨_, rfl⟩
  rw [← hgr] at hR2
  obtain ⟨w2, hw2⟩ : ∃ w2, w2 = w1.alloc (.cells #[.string (str l1), .int .i64 e1] 121) := ⟨_, rfl⟩
  rw [← hw2] at hR2 hB2
  have HW2 := Lib.hid hw2
  have HGR := Lib.hid hgr
  clear hw2 hgr hb1
  go_upto_region 2 with fail
  rw [← HW2.out, ← HGR.out]
  clear HW2
  obtain ⟨q1, q2, q3, q4, q5⟩ := hR2.two
  have hz2 := hz0.belowAll hB2
  by_cases he1 : e1 = 0
  rotate_left
  · have HR := Lib.hid (show splitP b = (noH, [], 131) by rw [HSPL.out, if_pos he1])
    go_upto_region 3 with fail
    refine wp_region_lit ?_
    refine wpList_buildTo rfl 56 _ rfl _ rfl #[.int .i64 0, .int .i64 0, .string ⟨#[]⟩, .int .i64 0, .bool false, .slice none 0 0] (by kernel_rfl) ?_
    refine wpList_store_rowTo rfl 56 _ _ rfl rfl g2 #[.int .i64 0, .int .i64 0, .string ⟨#[]⟩, .int .i64 0, .bool false, .slice none 0 0] rfl rfl 56 _ hz2 (rhd_info _ _ _ _ _ _) rfl (by simp [Value.oneCell']) ?_
    go_wp2_with fail
    refine bodyPost_ret (jresults_row_tmps rfl _ _ _ 56 _ (0, 0) _ rfl (Blk.row hz2 _) Try.underlying56 rfl (rhd_info _ _ _ _ _ _)) rfl ?_
    exact RSplitPost.none_ HR.out ((HBW.out _ hB2).trans ((only_row w2 g2 _).belowB (fun k hk => by have : k = g2 := hk; omega) (HBW.out _ hB2).size))
  subst he1
  go_wp2_with fail
  refine (HDC.out _).mono ?_
  intro e w4 hpo
  obtain ⟨P, mp, cp, rfl, hmp, hmp8, hrP, hity, hb4⟩ := dec_U HH.out hpo
  have hB4 := below_all hB2 hb4
  have hR4 := hR2.belowAll hb4
  have hK7 := Blk.new w4 56 #[.int .i64 hd.b, .int .i64 hd.z, .string (str hd.n), .int .i64 hd.g, .bool hd.c, .slice P mp cp]
  have hB5 := hB4.alloc hB4.size (.cells #[.int .i64 hd.b, .int .i64 hd.z, .string (str hd.n), .int .i64 hd.g, .bool hd.c, .slice P mp cp] 56)
  have hR5 := hR4.alloc (.cells #[.int .i64 hd.b, .int .i64 hd.z, .string (str hd.n), .int .i64 hd.g, .bool hd.c, .slice P mp cp] 56)
  have hrP5 := hrP.alloc (.cells #[.int .i64 hd.b, .int .i64 hd.z, .string (str hd.n), .int .i64 hd.g, .bool hd.c, .slice P mp cp] 56)
  have hity5 := hity.below ((Below.refl _ w4).alloc (Nat.le_refl _) (.cells #[.int .i64 hd.b, .int .i64 hd.z, .string (str hd.n), .int .i64 hd.g, .bool hd.c, .slice P mp cp] 56)) hrP
  obtain ⟨g7, hg7⟩ : ∃ g7, g7 = w4.heap.size := ⟨_, rfl⟩
  rw [← hg7] at hK7
  obtain ⟨w5, hw5⟩ : ∃ w5, w5 = w4.alloc (.cells #[.int .i64 hd.b, .int .i64 hd.z, .string (str hd.n), .int .i64 hd.g, .bool hd.c, .slice P mp cp] 56) := ⟨_, rfl⟩
  rw [← hw5] at hK7 hB5 hR5 hrP5 hity5
  have HW5 := Lib.hid hw5
  have HG7 := Lib.hid hg7
  have hz5 := hz0.belowAll hB5
  clear hpo hb4 hR4 hrP hity hB4 hw5 hg7 hB2 hR2 hz0 hz2 q1 q2 q3 q4 q5
  go_upto_region 5 with fail
  rw [← HW5.out, ← HG7.out]
  clear HW5
  by_cases her0 : er = 0
  rotate_left
  · have HR := Lib.hid (show splitP b = (noH, [], er) by rw [HSPL.out, if_neg (by simp), if_pos her0])
    go_upto_region 6 with fail
    refine wp_region_lit ?_
    refine wpList_buildTo rfl 56 _ rfl _ rfl #[.int .i64 0, .int .i64 0, .string ⟨#[]⟩, .int .i64 0, .bool false, .slice none 0 0] (by kernel_rfl) ?_
    go_step
    go_step
    go_step
    refine wpList_store_rowTo rfl 56 _ _ rfl rfl g2 #[.int .i64 0, .int .i64 0, .string ⟨#[]⟩, .int .i64 0, .bool false, .slice none 0 0] rfl rfl 56 _ hz5 (rhd_info _ _ _ _ _ _) rfl (by simp [Value.oneCell']) ?_
    go_wp2_with fail
    refine bodyPost_ret (jresults_row_tmps rfl _ _ _ 56 _ (0, 0) _ rfl (Blk.row hz5 _) Try.underlying56 rfl (rhd_info _ _ _ _ _ _)) rfl ?_
    exact RSplitPost.none_ HR.out ((HBW.out _ hB5).trans ((only_row w5 g2 _).belowB (fun k hk => by have : k = g2 := hk; omega) (HBW.out _ hB5).size))
  subst her0
  have hright := (HOK.out rfl).1
  have hpp := (Hd.right_of hright).2.2.2.2.2.2.2.2
  have hspl2 : splitP b = match cutN hd.p l1 hd.p.length with
    | none => (noH, [], 131)
    | some q => if q.2 = [] then (hd, q.1, 0) else (noH, [], 131) := HSPL.out
  rw [hmp] at hspl2
  have HS2 := Lib.hid hspl2
  have HPP := Lib.hid hpp
  have HMP := Lib.hid hmp
  clear hspl2 hright hpp hmp HSPL HOK HTX
  have x5 := hK7.cell 5
  simp only [List.getElem?_toArray, List.getElem?_cons_succ, List.getElem?_cons_zero] at x5
  obtain ⟨q1, q2, q3, q4, q5⟩ := hR5.two
  go_wp2_with fail
  clear q1 q2 q3 q4 q5 x5 hR5
  go_loopw [9, 10, 11] (fun rv sv' i wr => ∃ (k : Nat) (q : List (List UInt8) × List UInt8) (Ap : Option Addr) (cp' : Nat), k ≤ mp ∧ i = .int .i64 k ∧ rv = .string (str q.2) ∧ sv' = .slice Ap k cp' ∧ Hid (cutN hd.p l1 k = some q) ∧ Own wr w5.heap.size 9 1 Ap k cp' (sv q.1) ∧ Below w5.heap.size w5 wr)
    (fun _ _ i _ => mp - (intOf i).toNat)
  case atStart => exact ⟨0, ([], l1), none, 0, Nat.zero_le _, rfl, rfl, rfl, Lib.hid rfl, Own.nil _ _ _ _ _, Below.refl _ _⟩
  case round =>
    obtain ⟨k, q, Ap, cp', hk, rfl, rfl, rfl, HQ, hown, hBr⟩ := hrel
    have hB9 := below_all hB5 hBr
    have hz9 := hz5.belowAll hBr
    have x5 := (hK7.belowAll hBr).cell 5
    simp only [List.getElem?_toArray, List.getElem?_cons_succ, List.getElem?_cons_zero] at x5
    obtain ⟨mr, hmr⟩ : ∃ mr, q.2.length = mr := ⟨_, rfl⟩
    have hmr1 : mr ≤ 1000000 := by
      have h1 := (cutN_length HQ.out).2
      have h2 := HL1M.out
      omega
    have HMR := Lib.hid hmr
    by_cases hlt : k < mp
    · have hkl : k < hd.p.length := by rw [HMP.out]; exact hlt
      obtain ⟨gp, op, rfl, hgp, hc0⟩ := (hrP5.below hBr).icell hkl
      obtain ⟨hy0, hy1⟩ := HPP.out _ (List.getElem_mem hkl)
      have hgd : hd.p.getD k 0 = hd.p[k] := by simp [List.getD, hkl]
      obtain ⟨y, hy⟩ : ∃ y : Nat, hd.p[k] = (y : Int) := Int.eq_ofNat_of_zero_le hy0
      have HYK := Lib.hid hy
      rw [hy] at hc0 hgd hy1
      clear hy hy0
      by_cases hfit : mr < y
      · have hno : cutN hd.p l1 mp = none := by rw [← HMP.out]; exact cutN_no HQ.out (by rw [HMR.out, hgd]; omega) hkl
        have HNO := Lib.hid hno
        clear hno hgd
        have HR := Lib.hid (show splitP b = (noH, [], 131) by rw [HS2.out, HNO.out])
        go_upto_region 13 with fail
        refine wp_region_lit ?_
        refine wpList_buildTo rfl 56 _ rfl _ rfl #[.int .i64 0, .int .i64 0, .string ⟨#[]⟩, .int .i64 0, .bool false, .slice none 0 0] (by kernel_rfl) ?_
        refine wpList_store_rowTo rfl 56 _ _ rfl rfl g2 #[.int .i64 0, .int .i64 0, .string ⟨#[]⟩, .int .i64 0, .bool false, .slice none 0 0] rfl rfl 56 _ hz9 (rhd_info _ _ _ _ _ _) rfl (by simp [Value.oneCell']) ?_
        go_wp2_with fail
        refine bodyPost_ret (jresults_row_tmps rfl _ _ _ 56 _ (0, 0) _ rfl (Blk.row hz9 _) Try.underlying56 rfl (rhd_info _ _ _ _ _ _)) rfl ?_
        exact RSplitPost.none_ HR.out ((HBW.out _ hB9).trans ((only_row wr g2 _).belowB (fun k hk => by have : k = g2 := hk; omega) (HBW.out _ hB9).size))
      · have hyes := cutN_yes HQ.out (by rw [HMR.out, hgd]; omega)
        rw [hgd, Int.toNat_natCast] at hyes
        have HYES := Lib.hid hyes
        have hfr : (str q.2).extract 0 y = str (q.2.take y) := str_front _ _
        have hct : (str q.2).extract y mr = str (q.2.drop y) := by rw [← HMR.out]; exact str_cut _ _
        clear hyes hgd
        go_wp2_with (at_builtin; refine wpList_app _ rfl _ _ 57 57 rfl w5.heap.size 9 i2 _ 1 16 Try.underlying57 HI2.out HX0.out HX1.out HX2.out rfl Ap k cp' _ rfl (hown.alloc _) _ 1 _ rfl (Src.new Try.underlying57 rfl (by simp [Value.oneCell'])) (by simp only [maxLen]; omega) (by omega) (Nat.le_trans hBr.size (by simp)) ?_; intro A7 c7 w8 hown7 hg7 hb7; refine Classical.byContradiction fun hstop => ?_)
        refine absurd ?_ hstop
        clear hstop
        have hB7 := (hBr.alloc hBr.size (.cells #[.string (str (q.2.take y))] 9)).grown hg7 (Nat.le_trans hBr.size (by simp)) (fun i hi => (hown.lt i hi).1)
        rw [sv_snoc] at hown7
        have x5' := (hK7.belowAll hB7).cell 5
        simp only [List.getElem?_toArray, List.getElem?_cons_succ, List.getElem?_cons_zero] at x5'
        obtain ⟨gp', op', he', hgp', hc0'⟩ := (hrP5.below hB7).icell (by rw [HMP.out]; exact hlt : k < hd.p.length)
        have hc1' := hc0'
        injection he' with he'
        injection he' with e1' e2'
        subst e1' e2'
        rw [HYK.out] at hc1'
        clear hc0' hg7 hb7 hown x5 hc0
        go_wp2_with fail
        go_roundw
        case rel => exact ⟨k + 1, (q.1 ++ [q.2.take y], q.2.drop y), A7, c7, by omega, by go_num, rfl, rfl, HYES, hown7, hB7⟩
        case measure => simp [intOf]; omega
    · obtain rfl : mp = k := by omega
      have hcut : cutN hd.p l1 mp = some q := HQ.out
      by_cases hm0 : q.2 = []
      rotate_left
      · have HNO := Lib.hid (show splitP b = (noH, [], 131) by rw [HS2.out, hcut]; simp only; rw [if_neg hm0])
        have hn1 : (q.2 == []) = false := by rw [beq_eq_false_iff_ne]; exact hm0
        have hn4 : (q.2 != []) = true := by rw [bne, hn1]; rfl
        clear hcut hm0
        have HR := Lib.hid (show splitP b = (noH, [], 131) by exact HNO.out)
        go_upto_region 17 with fail
        refine wp_region_lit ?_
        refine wpList_buildTo rfl 56 _ rfl _ rfl #[.int .i64 0, .int .i64 0, .string ⟨#[]⟩, .int .i64 0, .bool false, .slice none 0 0] (by kernel_rfl) ?_
        refine wpList_store_rowTo rfl 56 _ _ rfl rfl g2 #[.int .i64 0, .int .i64 0, .string ⟨#[]⟩, .int .i64 0, .bool false, .slice none 0 0] rfl rfl 56 _ hz9 (rhd_info _ _ _ _ _ _) rfl (by simp [Value.oneCell']) ?_
        go_wp2_with fail
        refine bodyPost_ret (jresults_row_tmps rfl _ _ _ 56 _ (0, 0) _ rfl (Blk.row hz9 _) Try.underlying56 rfl (rhd_info _ _ _ _ _ _)) rfl ?_
        exact RSplitPost.none_ HR.out ((HBW.out _ hB9).trans ((only_row wr g2 _).belowB (fun k hk => by have : k = g2 := hk; omega) (HBW.out _ hB9).size))
      · have HR := Lib.hid (show splitP b = (hd, q.1, 0) by rw [HS2.out, hcut]; simp only; rw [if_pos hm0])
        have hl1' := (cutN_length HQ.out).1
        rw [hm0, str_nil]
        clear hcut
        have hK9 := hK7.belowAll hBr
        have hrP9 := hrP5.below hBr
        have hit9 := hity5.below hBr hrP5
        have HL1' := Lib.hid hl1'
        clear hl1' hm0 hmr
        go_upto_region 18 with fail
        refine wp_region_lit ?_
        refine wpList_load_row rfl 56 _ rfl g7 rfl 56 #[.int .i64 hd.b, .int .i64 hd.z, .string (str hd.n), .int .i64 hd.g, .bool hd.c, .slice P mp cp] (0, 0) _ hK9 Try.underlying56 rfl (rhd_info _ _ _ _ _ _) ?_
        go_step
        go_step
        go_step
        refine wpList_store_rowTo rfl 56 _ _ rfl rfl g2 #[.int .i64 hd.b, .int .i64 hd.z, .string (str hd.n), .int .i64 hd.g, .bool hd.c, .slice P mp cp] rfl rfl 56 _ hz9 (rhd_info _ _ _ _ _ _) rfl (by simp [Value.oneCell']) ?_
        go_wp2_with fail
        refine bodyPost_ret (jresults_row_tmps rfl _ _ _ 56 _ (0, 0) _ rfl (Blk.row hz9 _) Try.underlying56 rfl (rhd_info _ _ _ _ _ _)) rfl ?_
        have hon := only_row wr g2 #[.int .i64 hd.b, .int .i64 hd.z, .string (str hd.n), .int .i64 hd.g, .bool hd.c, .slice P mp cp]
        have hbF := (HBW.out _ hB9).trans (hon.belowB (fun k hk => by have : k = g2 := hk; omega) (HBW.out _ hB9).size)
        have hownF := hown.only hon (fun k hk => hown.blk_ne hz9 (by decide) k hk)
        have hrPF := hit9.row hrP9 hon (fun k cs t lh hk e => by
          have : k = g2 := hk
          subst this
          unfold Blk at hz9
          rw [hz9] at e
          injection e with e
          injection e with _ e
          subst e
          decide)
        rw [HR.out]
        exact ⟨P, mp, cp, Ap, mp, cp', rfl, HMP.out, hrPF, HL1'.out, hownF.row, hbF⟩
end Go.Proofs.Ytbljacafmkdlmaa
