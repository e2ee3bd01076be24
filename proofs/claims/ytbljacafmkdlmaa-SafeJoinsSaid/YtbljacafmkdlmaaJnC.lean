/- safe.Split. Condition: the bytes fit memory. -/
import Derived.Test.YtbljacafmkdlmaaJnQ
import Derived.Great.BuildSlice
namespace Go.Proofs.Ytbljacafmkdlmaa
set_option maxRecDepth 100000
open Go.RowKit
set_option linter.unusedSimpArgs false
set_option linter.unusedVariables false

def SplitPost (w : World) (r : Hd × List (List UInt8) × Int) (e : Ending) (w' : World) : Prop :=
  ∃ P mp cp Aq mq cq ps, e = .returned (.tuple #[.agg #[.int .i64 r.1.b, .int .i64 r.1.z, .string (str r.1.n), .int .i64 r.1.g, .bool r.1.c, .slice P mp cp], .slice Aq mq cq, .int .i64 r.2.2]) ∧ r.1.p.length = mp ∧ Row w' P (iv r.1.p) ∧ ps.length = mq ∧ ps.map Piece.l = r.2.1 ∧ Row w' Aq (pv ps) ∧ Pieces w' ps ∧ Below w.heap.size w w'
theorem SplitPost.none_ {w w' : World} {r : Hd × List (List UInt8) × Int} {er : Int} (h : r = (noH, [], er)) (hb : Below w.heap.size w w') : SplitPost w r (.returned (.tuple #[.agg #[.int .i64 0, .int .i64 0, .string ⟨#[]⟩, .int .i64 0, .bool false, .slice none 0 0], .slice none 0 0, .int .i64 er])) w' := by
  subst h
  exact ⟨none, 0, 0, none, 0, 0, [], rfl, rfl, Row.nil _ _, rfl, rfl, Row.nil _ _, (fun p hp => by cases hp), hb⟩

set_option maxHeartbeats 16000000 in
theorem split_any (A : Option Addr) (n c : Nat) (b : List UInt8) (w : World) (hn : b.length = n) (hnc : n ≤ c) (hr : Row w A (bv b)) (hsz : n ≤ 1000000) :
    Calls Try.prog 25 #[.slice A n c] w (SplitPost w (splitP b)) := by
  obtain ⟨i1, hi1, hy0, hy1, hy2⟩ := info_parts info_u8
  obtain ⟨i2, hi2, hx0, hx1, hx2⟩ := info_parts info_sl
  have HI1 := Lib.hid hi1
  have HY0 := Lib.hid hy0
  have HY1 := Lib.hid hy1
  have HY2 := Lib.hid hy2
  have HI2 := Lib.hid hi2
  have HX0 := Lib.hid hx0
  have HX1 := Lib.hid hx1
  have HX2 := Lib.hid hx2
  clear hi1 hy0 hy1 hy2 hi2 hx0 hx1 hx2
  have hsuf := (tx_suf b 0 2).cut
  have hshort := tx_short b 0 2
  have hspl : splitP b = if (tx b 0 2).2.1 ≠ 0 then (noH, [], 131) else if (decH (tx b 0 2).2.2).2 ≠ 0 then (noH, [], (decH (tx b 0 2).2.2).2) else match cutN (decH (tx b 0 2).2.2).1.p (tx b 0 2).1 (decH (tx b 0 2).2.2).1.p.length with
    | none => (noH, [], 131)
    | some q => if q.2 = [] then ((decH (tx b 0 2).2.2).1, q.1, 0) else (noH, [], 131) := rfl
  have htx := fun u g (h : Rd u g b 0) => rtext_any g b 0 2 u h
  obtain ⟨⟨l1, e1, x⟩, ht⟩ : ∃ r, r = tx b 0 2 := ⟨_, rfl⟩
  simp only [← ht] at htx hsuf hshort hspl
  have hok := decH_ok (b := x)
  obtain ⟨⟨hd, er⟩, hh⟩ : ∃ r, r = decH x := ⟨_, rfl⟩
  simp only [← hh] at hspl hok
  obtain ⟨hl1n, hl1⟩ := hsuf
  rw [hn] at hl1n hl1 hshort
  have HL1 := Lib.hid hl1
  have HSPL := Lib.hid hspl
  have HTX := Lib.hid htx
  have HOK := Lib.hid hok
  have HH := Lib.hid hh.symm
  have HN := Lib.hid hn
  obtain ⟨k1, hk1⟩ : ∃ k1, k1 = l1.length := ⟨_, rfl⟩
  obtain ⟨mx, hmx⟩ : ∃ mx, mx = x.length := ⟨_, rfl⟩
  rw [← hk1] at hl1n HL1
  rw [← hmx] at hshort
  have HK1 := Lib.hid hk1
  have HMX := Lib.hid hmx
  have hz0 := Blk.new w 60 #[.int .i64 0, .int .i64 0, .string ⟨#[]⟩, .int .i64 0, .bool false, .slice none 0 0]
  have hb0 : Below w.heap.size w (w.alloc (.cells #[.int .i64 0, .int .i64 0, .string ⟨#[]⟩, .int .i64 0, .bool false, .slice none 0 0] 60)) := (Below.refl _ w).alloc (Nat.le_refl _) _
  have hr0 := hr.alloc (.cells #[.int .i64 0, .int .i64 0, .string ⟨#[]⟩, .int .i64 0, .bool false, .slice none 0 0] 60)
  obtain ⟨g2, hg2⟩ : ∃ g2, g2 = w.heap.size := ⟨_, rfl⟩
  rw [← hg2] at hz0
  have hg2w : w.heap.size ≤ g2 := by omega
  obtain ⟨w0, hw0⟩ : ∃ w0, w0 = w.alloc (.cells #[.int .i64 0, .int .i64 0, .string ⟨#[]⟩, .int .i64 0, .bool false, .slice none 0 0] 60) := ⟨_, rfl⟩
  rw [← hw0] at hb0 hr0 hz0
  have HW0 := Lib.hid hw0
  have HG2 := Lib.hid hg2
  have hbw : ∀ u, Below w0.heap.size w0 u → Below w.heap.size w u := fun u hu => hb0.trans (hu.mono hb0.size)
  have HBW := Lib.hid hbw
  have hnr := newReader_any A n c b w0 hn hr0 (by omega)
  clear hspl htx hok hh hl1 hk1 hmx hn hr hg2 hw0 ht hbw
  go_enter Try.func25, Try.ntmps25
  go_upto_region 1 with fail
  rw [← HW0.out, ← HG2.out]
  clear HW0
  go_wp2_with fail
  refine hnr.mono ?_
  rintro e w1 ⟨g, rfl, hg1, hrd1, hb1⟩
  clear hnr
  go_wp2_with fail
  refine (HTX.out w1 g hrd1).mono ?_
  rintro e w2 ⟨rfl, hrd2, ho2⟩
  have hB2 : Below w0.heap.size w0 w2 := hb1.trans (ho2.belowB (B := w0.heap.size) (fun i hi => by rw [hi]; exact hg1) hb1.size)
  obtain ⟨cX, w3, hcv, hcX, hxr, _, hb3⟩ := jconv_any w2 x mx HMX.out.symm
  have hB3 := below_all hB2 hb3
  have hrd3 := hrd2.only hb3
  have her := err_any g l1 e1 w3 hrd3
  have hlf := left_any g l1 e1
  rw [← HK1.out] at hlf
  have HLF := Lib.hid hlf
  clear hrd1 hb1 ho2 hB2 hrd2 hb3 hlf hg1
  go_wp2_with fail
  refine her.mono ?_
  rintro e w4 ⟨rfl, rfl⟩
  clear her hcv
  by_cases he1 : e1 = 0
  rotate_left
  · have hz3 := hz0.belowAll hB3
    have HR := Lib.hid (show splitP b = (noH, [], 131) by rw [HSPL.out, if_pos he1])
    go_upto_region 4 with fail
    refine wp_region_lit ?_
    refine wpList_buildTo rfl 60 _ rfl _ rfl #[.int .i64 0, .int .i64 0, .string ⟨#[]⟩, .int .i64 0, .bool false, .slice none 0 0] (by kernel_rfl) ?_
    refine wpList_store_rowTo rfl 60 _ _ rfl rfl g2 #[.int .i64 0, .int .i64 0, .string ⟨#[]⟩, .int .i64 0, .bool false, .slice none 0 0] rfl rfl 60 _ hz3 (head_info _ _ _ _ _ _) rfl (by simp [Value.oneCell']) ?_
    go_wp2_with fail
    refine bodyPost_ret (jresults_row_tmps rfl _ _ _ 60 _ (0, 0) _ rfl (Blk.row hz3 _) Try.underlying60 rfl (head_info _ _ _ _ _ _)) rfl ?_
    exact SplitPost.none_ HR.out ((HBW.out _ hB3).trans ((only_row w3 g2 _).belowB (fun k hk => by have : k = g2 := hk; omega) (HBW.out _ hB3).size))
  subst he1
  have hdc := (hDecode_any (some ⟨w2.heap.size, 0, none⟩) mx cX x w3 HMX.out.symm hcX hxr (by omega))
  go_wp2_with fail
  refine hdc.mono ?_
  intro e w4 hpo
  obtain ⟨P, mp, cp, rfl, hmp, hmp8, hrP, hity, hb4⟩ := dec_U HH.out hpo
  have hB4 := below_all hB3 hb4
  have hrd4 := hrd3.only hb4
  have hK7 := Blk.new w4 60 #[.int .i64 hd.b, .int .i64 hd.z, .string (str hd.n), .int .i64 hd.g, .bool hd.c, .slice P mp cp]
  have hB5 := hB4.alloc hB4.size (.cells #[.int .i64 hd.b, .int .i64 hd.z, .string (str hd.n), .int .i64 hd.g, .bool hd.c, .slice P mp cp] 60)
  have hrd5 := hrd4.only ((Below.refl _ w4).alloc (Nat.le_refl _) (.cells #[.int .i64 hd.b, .int .i64 hd.z, .string (str hd.n), .int .i64 hd.g, .bool hd.c, .slice P mp cp] 60))
  have hrP5 := hrP.alloc (.cells #[.int .i64 hd.b, .int .i64 hd.z, .string (str hd.n), .int .i64 hd.g, .bool hd.c, .slice P mp cp] 60)
  have hity5 := hity.below ((Below.refl _ w4).alloc (Nat.le_refl _) (.cells #[.int .i64 hd.b, .int .i64 hd.z, .string (str hd.n), .int .i64 hd.g, .bool hd.c, .slice P mp cp] 60)) hrP
  obtain ⟨g7, hg7⟩ : ∃ g7, g7 = w4.heap.size := ⟨_, rfl⟩
  rw [← hg7] at hK7
  obtain ⟨w5, hw5⟩ : ∃ w5, w5 = w4.alloc (.cells #[.int .i64 hd.b, .int .i64 hd.z, .string (str hd.n), .int .i64 hd.g, .bool hd.c, .slice P mp cp] 60) := ⟨_, rfl⟩
  rw [← hw5] at hK7 hB5 hrd5 hrP5 hity5
  have HW5 := Lib.hid hw5
  have HG7 := Lib.hid hg7
  have hz5 := hz0.belowAll hB5
  have hr5 := hr0.below hB5
  clear hdc hpo hb4 hrd4 hrP hity hB4 hw5 hg7 hB3 hrd3 hxr hz0 hr0
  go_upto_region 6 with fail
  rw [← HW5.out, ← HG7.out]
  clear HW5
  by_cases her0 : er = 0
  rotate_left
  · have hz3 := hz5
    have hB3 := hB5
    have HR := Lib.hid (show splitP b = (noH, [], er) by rw [HSPL.out, if_neg (by simp), if_pos her0])
    go_upto_region 7 with fail
    refine wp_region_lit ?_
    refine wpList_buildTo rfl 60 _ rfl _ rfl #[.int .i64 0, .int .i64 0, .string ⟨#[]⟩, .int .i64 0, .bool false, .slice none 0 0] (by kernel_rfl) ?_
    go_step
    go_step
    go_step
    refine wpList_store_rowTo rfl 60 _ _ rfl rfl g2 #[.int .i64 0, .int .i64 0, .string ⟨#[]⟩, .int .i64 0, .bool false, .slice none 0 0] rfl rfl 60 _ hz3 (head_info _ _ _ _ _ _) rfl (by simp [Value.oneCell']) ?_
    go_wp2_with fail
    refine bodyPost_ret (jresults_row_tmps rfl _ _ _ 60 _ (0, 0) _ rfl (Blk.row hz3 _) Try.underlying60 rfl (head_info _ _ _ _ _ _)) rfl ?_
    exact SplitPost.none_ HR.out ((HBW.out _ hB3).trans ((only_row w5 g2 _).belowB (fun k hk => by have : k = g2 := hk; omega) (HBW.out _ hB3).size))
  subst her0
  have hright := (HOK.out rfl).1
  have hpp := (Hd.right_of hright).2.2.2.2.2.2.2.2
  have hlf := HLF.out w5 hrd5
  have hrow1 := hr5.drop (n - k1) c (by rw [bv_length, HN.out]; exact hnc)
  rw [bv_drop, ← HL1.out] at hrow1
  have hspl2 : splitP b = match cutN hd.p l1 hd.p.length with
    | none => (noH, [], 131)
    | some q => if q.2 = [] then (hd, q.1, 0) else (noH, [], 131) := HSPL.out
  rw [hmp] at hspl2
  have HS2 := Lib.hid hspl2
  have HPP := Lib.hid hpp
  have HMP := Lib.hid hmp
  clear hspl2 hright hpp hmp hr5 HSPL HOK HTX
  have x5 := hK7.cell 5
  simp only [List.getElem?_toArray, List.getElem?_cons_succ, List.getElem?_cons_zero] at x5
  go_wp2_with fail
  refine hlf.mono ?_
  rintro e w6 ⟨rfl, rfl⟩
  clear hlf hrd5
  by_cases hcn : c = n - k1
  · rw [if_pos hcn] at hrow1
    go_wp2_with fail
    go_loopw [9, 10, 41] (fun rv sv' i wr => ∃ (k : Nat) (q : List (List UInt8) × List UInt8) (Ar : Option Addr) (mr cr : Nat) (Ap : Option Addr) (cp' : Nat) (ps : List Piece), k ≤ mp ∧ i = .int .i64 k ∧ rv = .slice Ar mr cr ∧ sv' = .slice Ap k cp' ∧ Hid (cutN hd.p l1 k = some q) ∧ Hid (q.2.length = mr) ∧ mr ≤ cr ∧ Row w5 Ar (bv q.2) ∧ Own wr w5.heap.size 23 1 Ap k cp' (pv ps) ∧ Hid (ps.map Piece.l = q.1) ∧ (∀ p ∈ ps, PB wr p) ∧ Below w5.heap.size w5 wr)
      (fun _ _ i _ => mp - (intOf i).toNat)
    case atStart => exact ⟨0, ([], l1), _, _, _, none, 0, [], Nat.zero_le _, rfl, rfl, rfl, Lib.hid rfl, Lib.hid (by show l1.length = _; rw [← HK1.out]; omega), by omega, hrow1, Own.nil _ _ _ _ _, Lib.hid rfl, (fun p hp => by cases hp), Below.refl _ _⟩
    case round =>
      obtain ⟨k, q, Ar, mr, cr, Ap, cp', ps, hk, rfl, rfl, rfl, HQ, HMR, hmc, hrow, hown, HPS, hpb, hBr⟩ := hrel
      have hB9 := below_all hB5 hBr
      have hz9 := hz5.belowAll hBr
      have hmr1 : mr ≤ 1000000 := by
        have h1 := (cutN_length HQ.out).2
        rw [HMR.out, ← HK1.out] at h1
        omega
      clear hrow1
      by_cases hlt : k < mp
      · have hkl : k < hd.p.length := by rw [HMP.out]; exact hlt
        obtain ⟨gp, op, rfl, hgp, hc0⟩ := (hrP5.below hBr).icell hkl
        obtain ⟨hy0, hy1⟩ := HPP.out _ (List.getElem_mem hkl)
        have hgd : hd.p.getD k 0 = hd.p[k] := by simp [List.getD, hkl]
        obtain ⟨y, hy⟩ : ∃ y : Nat, hd.p[k] = (y : Int) := Int.eq_ofNat_of_zero_le hy0
        rw [hy] at hc0 hgd hy1
        clear hy hy0
        by_cases hfit : mr < y
        · have hno : cutN hd.p l1 mp = none := by rw [← HMP.out]; exact cutN_no HQ.out (by rw [HMR.out, hgd]; omega) hkl
          have HNO := Lib.hid hno
          clear hno hgd hkl
          have HR := Lib.hid (show splitP b = (noH, [], 131) by rw [HS2.out, HNO.out])
          go_upto_region 14 with fail
          refine wp_region_lit ?_
          refine wpList_buildTo rfl 60 _ rfl _ rfl #[.int .i64 0, .int .i64 0, .string ⟨#[]⟩, .int .i64 0, .bool false, .slice none 0 0] (by kernel_rfl) ?_
          refine wpList_store_rowTo rfl 60 _ _ rfl rfl g2 #[.int .i64 0, .int .i64 0, .string ⟨#[]⟩, .int .i64 0, .bool false, .slice none 0 0] rfl rfl 60 _ hz9 (head_info _ _ _ _ _ _) rfl (by simp [Value.oneCell']) ?_
          go_wp2_with fail
          refine bodyPost_ret (jresults_row_tmps rfl _ _ _ 60 _ (0, 0) _ rfl (Blk.row hz9 _) Try.underlying60 rfl (head_info _ _ _ _ _ _)) rfl ?_
          exact SplitPost.none_ HR.out ((HBW.out _ hB9).trans ((only_row wr g2 _).belowB (fun k hk => by have : k = g2 := hk; omega) (HBW.out _ hB9).size))
        · have hyes := cutN_yes HQ.out (by rw [HMR.out, hgd]; omega)
          rw [hgd, Int.toNat_natCast] at hyes
          have HYES := Lib.hid hyes
          have hyl : (q.2.take y).length = y := by rw [List.length_take, HMR.out]; omega
          have hsrc : Src Try.prog (wr.alloc (.cells #[] 5)) 23 (.slice Ar y cr) 1 y (bv (q.2.take y)) := Src.slice Try.underlying23 (by rw [← bv_take]; exact ((hrow.below hBr).alloc _).take y) (by rw [bv_length, hyl, Nat.mul_one]) (bv_one _)
          have HSRC := Lib.hid hsrc
          have HYL := Lib.hid hyl
          have hdrop := hrow.drop y cr (by rw [bv_length, HMR.out]; exact hmc)
          rw [bv_drop] at hdrop
          have HDROP := Lib.hid hdrop
          clear hyes hgd hkl hsrc hyl hdrop
          go_wp2_with (at_builtin; refine wpList_app _ rfl _ _ 23 23 rfl w5.heap.size 5 i1 _ 1 1 Try.underlying23 HI1.out HY0.out HY1.out HY2.out rfl _ 0 0 [] rfl (Own.nil _ _ _ _ _) _ y (bv (q.2.take y)) rfl HSRC.out (by simp only [maxLen]; omega) (by omega) (Nat.le_trans hBr.size (by simp)) ?_; intro A6 c6 w7 hown6 hg6 hb6; rw [Nat.zero_add, List.nil_append] at hown6; rw [Nat.zero_add]; refine Classical.byContradiction fun hstop => ?_)
          refine absurd ?_ hstop
          clear hstop
          have hb67 : Below wr.heap.size wr w7 := ((Below.refl _ _).alloc (Nat.le_refl _) _).grown hg6 (by simp) (fun i hi => by simp [ownB] at hi)
          have hpb6 : PB w7 ⟨A6, c6, q.2.take y⟩ := ⟨hown6.row, Byt.own hown6, by show (q.2.take y).length ≤ c6; rw [HYL.out]; exact hown6.2.1⟩
          have hown67 := hown.below hb67
          have hB67 := below_all hBr hb67
          clear hg6 hb6 hown6
          go_wp2_with (at_builtin; refine wpList_app _ rfl _ _ 58 58 rfl w5.heap.size 23 i2 _ 1 24 Try.underlying58 HI2.out HX0.out HX1.out HX2.out rfl Ap k cp' _ rfl (hown67.alloc _) _ 1 _ rfl (Src.new Try.underlying58 rfl (by simp [Value.oneCell'])) (by simp only [maxLen]; omega) (by omega) (Nat.le_trans hB67.size (by simp)) ?_; intro A7 c7 w8 hown7 hg7 hb7; refine Classical.byContradiction fun hstop => ?_)
          refine absurd ?_ hstop
          clear hstop
          have hbA : Below w7.heap.size w7 (w7.alloc (.cells #[.slice A6 y c6] 23)) := (Below.refl _ _).alloc (Nat.le_refl _) _
          have hpb7 := pbs_app hpb (below_all hb67 hbA) (hpb6.below hbA) (hown67.alloc _) hg7
          have hB7 := (hB67.alloc hB67.size (.cells #[.slice A6 y c6] 23)).grown hg7 (Nat.le_trans hB67.size (by simp)) (fun i hi => (hown67.lt i hi).1)
          have hval : ([.slice A6 y c6] : List Value) = [Piece.val ⟨A6, c6, q.2.take y⟩] := by unfold Piece.val; simp only [HYL.out]
          rw [hval, pv_snoc] at hown7
          clear hg7 hb7 hbA hpb6 hown67 hown hpb hB67 hb67 hval
          have hdrop := HDROP.out
          by_cases hcy : cr = y
          · rw [if_pos hcy] at hdrop
            go_wp2_with fail
            go_roundw
            case rel => exact ⟨k + 1, (q.1 ++ [q.2.take y], q.2.drop y), Ar, mr - y, 0, A7, c7, ps ++ [⟨A6, c6, q.2.take y⟩], by omega, by go_num, rfl, rfl, HYES, Lib.hid (by show (q.2.drop y).length = mr - y; rw [List.length_drop, HMR.out]), by omega, hdrop, hown7, Lib.hid (by rw [List.map_append, HPS.out]; rfl), hpb7, hB7⟩
            case measure => simp [intOf]; omega
          · rw [if_neg hcy] at hdrop
            go_wp2_with fail
            go_roundw
            case rel => exact ⟨k + 1, (q.1 ++ [q.2.take y], q.2.drop y), (Option.map (fun x => x.add y) Ar), mr - y, (cr - y), A7, c7, ps ++ [⟨A6, c6, q.2.take y⟩], by omega, by go_num, rfl, rfl, HYES, Lib.hid (by show (q.2.drop y).length = mr - y; rw [List.length_drop, HMR.out]), by omega, hdrop, hown7, Lib.hid (by rw [List.map_append, HPS.out]; rfl), hpb7, hB7⟩
            case measure => simp [intOf]; omega
      · obtain rfl : mp = k := by omega
        have hcut : cutN hd.p l1 mp = some q := HQ.out
        have HMQ := HMR.out
        by_cases hm0 : 0 < mr
        · have HNO := Lib.hid (show splitP b = (noH, [], 131) by rw [HS2.out, hcut]; simp only; rw [if_neg (fun h => by rw [h] at HMQ; simp at HMQ; omega)])
          clear hcut HMQ
          have HR := Lib.hid (show splitP b = (noH, [], 131) by exact HNO.out)
          go_upto_region 19 with fail
          refine wp_region_lit ?_
          refine wpList_buildTo rfl 60 _ rfl _ rfl #[.int .i64 0, .int .i64 0, .string ⟨#[]⟩, .int .i64 0, .bool false, .slice none 0 0] (by kernel_rfl) ?_
          refine wpList_store_rowTo rfl 60 _ _ rfl rfl g2 #[.int .i64 0, .int .i64 0, .string ⟨#[]⟩, .int .i64 0, .bool false, .slice none 0 0] rfl rfl 60 _ hz9 (head_info _ _ _ _ _ _) rfl (by simp [Value.oneCell']) ?_
          go_wp2_with fail
          refine bodyPost_ret (jresults_row_tmps rfl _ _ _ 60 _ (0, 0) _ rfl (Blk.row hz9 _) Try.underlying60 rfl (head_info _ _ _ _ _ _)) rfl ?_
          exact SplitPost.none_ HR.out ((HBW.out _ hB9).trans ((only_row wr g2 _).belowB (fun k hk => by have : k = g2 := hk; omega) (HBW.out _ hB9).size))
        · have hq0 : q.2 = [] := List.eq_nil_of_length_eq_zero (by omega)
          have HR := Lib.hid (show splitP b = (hd, q.1, 0) by rw [HS2.out, hcut]; simp only; rw [if_pos hq0])
          clear hcut HMQ hq0
          have hK9 := hK7.belowAll hBr
          have hrP9 := hrP5.below hBr
          have hit9 := hity5.below hBr hrP5
          go_upto_region 20 with fail
          refine wp_region_lit ?_
          refine wpList_load_row rfl 60 _ rfl g7 rfl 60 #[.int .i64 hd.b, .int .i64 hd.z, .string (str hd.n), .int .i64 hd.g, .bool hd.c, .slice P mp cp] (0, 0) _ hK9 Try.underlying60 rfl (head_info _ _ _ _ _ _) ?_
          go_step
          go_step
          go_step
          refine wpList_store_rowTo rfl 60 _ _ rfl rfl g2 #[.int .i64 hd.b, .int .i64 hd.z, .string (str hd.n), .int .i64 hd.g, .bool hd.c, .slice P mp cp] rfl rfl 60 _ hz9 (head_info _ _ _ _ _ _) rfl (by simp [Value.oneCell']) ?_
          go_wp2_with fail
          refine bodyPost_ret (jresults_row_tmps rfl _ _ _ 60 _ (0, 0) _ rfl (Blk.row hz9 _) Try.underlying60 rfl (head_info _ _ _ _ _ _)) rfl ?_
          have hon := only_row wr g2 #[.int .i64 hd.b, .int .i64 hd.z, .string (str hd.n), .int .i64 hd.g, .bool hd.c, .slice P mp cp]
          have hbF := (HBW.out _ hB9).trans (hon.belowB (fun k hk => by have : k = g2 := hk; omega) (HBW.out _ hB9).size)
          have hownF := hown.only hon (fun k hk => hown.blk_ne hz9 (by decide) k hk)
          have hty : ∀ k cs t lh, k = g2 → wr.heap[k]? = some (.cells cs t lh) → t ≠ 5 := fun k cs t lh hk e => by
            subst hk
            unfold Blk at hz9
            rw [hz9] at e
            injection e with e
            injection e with _ e
            subst e
            decide
          have hrPF := hit9.row hrP9 hon (fun k cs t lh hk e => by
            have : k = g2 := hk
            subst this
            unfold Blk at hz9
            rw [hz9] at e
            injection e with e
            injection e with _ e
            subst e
            decide)
          rw [HR.out]
          exact ⟨P, mp, cp, Ap, mp, cp', ps, rfl, HMP.out, hrPF, by have := hown.1; rw [pv_length, Nat.mul_one] at this; exact this, HPS.out, hownF.row, fun p hp => ((hpb p hp).only hon hty).row, hbF⟩
  · rw [if_neg hcn] at hrow1
    go_wp2_with fail
    go_loopw [9, 10, 41] (fun rv sv' i wr => ∃ (k : Nat) (q : List (List UInt8) × List UInt8) (Ar : Option Addr) (mr cr : Nat) (Ap : Option Addr) (cp' : Nat) (ps : List Piece), k ≤ mp ∧ i = .int .i64 k ∧ rv = .slice Ar mr cr ∧ sv' = .slice Ap k cp' ∧ Hid (cutN hd.p l1 k = some q) ∧ Hid (q.2.length = mr) ∧ mr ≤ cr ∧ Row w5 Ar (bv q.2) ∧ Own wr w5.heap.size 23 1 Ap k cp' (pv ps) ∧ Hid (ps.map Piece.l = q.1) ∧ (∀ p ∈ ps, PB wr p) ∧ Below w5.heap.size w5 wr)
      (fun _ _ i _ => mp - (intOf i).toNat)
    case atStart => exact ⟨0, ([], l1), _, _, _, none, 0, [], Nat.zero_le _, rfl, rfl, rfl, Lib.hid rfl, Lib.hid (by show l1.length = _; rw [← HK1.out]; omega), by omega, hrow1, Own.nil _ _ _ _ _, Lib.hid rfl, (fun p hp => by cases hp), Below.refl _ _⟩
    case round =>
      obtain ⟨k, q, Ar, mr, cr, Ap, cp', ps, hk, rfl, rfl, rfl, HQ, HMR, hmc, hrow, hown, HPS, hpb, hBr⟩ := hrel
      have hB9 := below_all hB5 hBr
      have hz9 := hz5.belowAll hBr
      have hmr1 : mr ≤ 1000000 := by
        have h1 := (cutN_length HQ.out).2
        rw [HMR.out, ← HK1.out] at h1
        omega
      clear hrow1
      by_cases hlt : k < mp
      · have hkl : k < hd.p.length := by rw [HMP.out]; exact hlt
        obtain ⟨gp, op, rfl, hgp, hc0⟩ := (hrP5.below hBr).icell hkl
        obtain ⟨hy0, hy1⟩ := HPP.out _ (List.getElem_mem hkl)
        have hgd : hd.p.getD k 0 = hd.p[k] := by simp [List.getD, hkl]
        obtain ⟨y, hy⟩ : ∃ y : Nat, hd.p[k] = (y : Int) := Int.eq_ofNat_of_zero_le hy0
        rw [hy] at hc0 hgd hy1
        clear hy hy0
        by_cases hfit : mr < y
        · have hno : cutN hd.p l1 mp = none := by rw [← HMP.out]; exact cutN_no HQ.out (by rw [HMR.out, hgd]; omega) hkl
          have HNO := Lib.hid hno
          clear hno hgd hkl
          have HR := Lib.hid (show splitP b = (noH, [], 131) by rw [HS2.out, HNO.out])
          go_upto_region 14 with fail
          refine wp_region_lit ?_
          refine wpList_buildTo rfl 60 _ rfl _ rfl #[.int .i64 0, .int .i64 0, .string ⟨#[]⟩, .int .i64 0, .bool false, .slice none 0 0] (by kernel_rfl) ?_
          refine wpList_store_rowTo rfl 60 _ _ rfl rfl g2 #[.int .i64 0, .int .i64 0, .string ⟨#[]⟩, .int .i64 0, .bool false, .slice none 0 0] rfl rfl 60 _ hz9 (head_info _ _ _ _ _ _) rfl (by simp [Value.oneCell']) ?_
          go_wp2_with fail
          refine bodyPost_ret (jresults_row_tmps rfl _ _ _ 60 _ (0, 0) _ rfl (Blk.row hz9 _) Try.underlying60 rfl (head_info _ _ _ _ _ _)) rfl ?_
          exact SplitPost.none_ HR.out ((HBW.out _ hB9).trans ((only_row wr g2 _).belowB (fun k hk => by have : k = g2 := hk; omega) (HBW.out _ hB9).size))
        · have hyes := cutN_yes HQ.out (by rw [HMR.out, hgd]; omega)
          rw [hgd, Int.toNat_natCast] at hyes
          have HYES := Lib.hid hyes
          have hyl : (q.2.take y).length = y := by rw [List.length_take, HMR.out]; omega
          have hsrc : Src Try.prog (wr.alloc (.cells #[] 5)) 23 (.slice Ar y cr) 1 y (bv (q.2.take y)) := Src.slice Try.underlying23 (by rw [← bv_take]; exact ((hrow.below hBr).alloc _).take y) (by rw [bv_length, hyl, Nat.mul_one]) (bv_one _)
          have HSRC := Lib.hid hsrc
          have HYL := Lib.hid hyl
          have hdrop := hrow.drop y cr (by rw [bv_length, HMR.out]; exact hmc)
          rw [bv_drop] at hdrop
          have HDROP := Lib.hid hdrop
          clear hyes hgd hkl hsrc hyl hdrop
          go_wp2_with (at_builtin; refine wpList_app _ rfl _ _ 23 23 rfl w5.heap.size 5 i1 _ 1 1 Try.underlying23 HI1.out HY0.out HY1.out HY2.out rfl _ 0 0 [] rfl (Own.nil _ _ _ _ _) _ y (bv (q.2.take y)) rfl HSRC.out (by simp only [maxLen]; omega) (by omega) (Nat.le_trans hBr.size (by simp)) ?_; intro A6 c6 w7 hown6 hg6 hb6; rw [Nat.zero_add, List.nil_append] at hown6; rw [Nat.zero_add]; refine Classical.byContradiction fun hstop => ?_)
          refine absurd ?_ hstop
          clear hstop
          have hb67 : Below wr.heap.size wr w7 := ((Below.refl _ _).alloc (Nat.le_refl _) _).grown hg6 (by simp) (fun i hi => by simp [ownB] at hi)
          have hpb6 : PB w7 ⟨A6, c6, q.2.take y⟩ := ⟨hown6.row, Byt.own hown6, by show (q.2.take y).length ≤ c6; rw [HYL.out]; exact hown6.2.1⟩
          have hown67 := hown.below hb67
          have hB67 := below_all hBr hb67
          clear hg6 hb6 hown6
          go_wp2_with (at_builtin; refine wpList_app _ rfl _ _ 58 58 rfl w5.heap.size 23 i2 _ 1 24 Try.underlying58 HI2.out HX0.out HX1.out HX2.out rfl Ap k cp' _ rfl (hown67.alloc _) _ 1 _ rfl (Src.new Try.underlying58 rfl (by simp [Value.oneCell'])) (by simp only [maxLen]; omega) (by omega) (Nat.le_trans hB67.size (by simp)) ?_; intro A7 c7 w8 hown7 hg7 hb7; refine Classical.byContradiction fun hstop => ?_)
          refine absurd ?_ hstop
          clear hstop
          have hbA : Below w7.heap.size w7 (w7.alloc (.cells #[.slice A6 y c6] 23)) := (Below.refl _ _).alloc (Nat.le_refl _) _
          have hpb7 := pbs_app hpb (below_all hb67 hbA) (hpb6.below hbA) (hown67.alloc _) hg7
          have hB7 := (hB67.alloc hB67.size (.cells #[.slice A6 y c6] 23)).grown hg7 (Nat.le_trans hB67.size (by simp)) (fun i hi => (hown67.lt i hi).1)
          have hval : ([.slice A6 y c6] : List Value) = [Piece.val ⟨A6, c6, q.2.take y⟩] := by unfold Piece.val; simp only [HYL.out]
          rw [hval, pv_snoc] at hown7
          clear hg7 hb7 hbA hpb6 hown67 hown hpb hB67 hb67 hval
          have hdrop := HDROP.out
          by_cases hcy : cr = y
          · rw [if_pos hcy] at hdrop
            go_wp2_with fail
            go_roundw
            case rel => exact ⟨k + 1, (q.1 ++ [q.2.take y], q.2.drop y), Ar, mr - y, 0, A7, c7, ps ++ [⟨A6, c6, q.2.take y⟩], by omega, by go_num, rfl, rfl, HYES, Lib.hid (by show (q.2.drop y).length = mr - y; rw [List.length_drop, HMR.out]), by omega, hdrop, hown7, Lib.hid (by rw [List.map_append, HPS.out]; rfl), hpb7, hB7⟩
            case measure => simp [intOf]; omega
          · rw [if_neg hcy] at hdrop
            go_wp2_with fail
            go_roundw
            case rel => exact ⟨k + 1, (q.1 ++ [q.2.take y], q.2.drop y), (Option.map (fun x => x.add y) Ar), mr - y, (cr - y), A7, c7, ps ++ [⟨A6, c6, q.2.take y⟩], by omega, by go_num, rfl, rfl, HYES, Lib.hid (by show (q.2.drop y).length = mr - y; rw [List.length_drop, HMR.out]), by omega, hdrop, hown7, Lib.hid (by rw [List.map_append, HPS.out]; rfl), hpb7, hB7⟩
            case measure => simp [intOf]; omega
      · obtain rfl : mp = k := by omega
        have hcut : cutN hd.p l1 mp = some q := HQ.out
        have HMQ := HMR.out
        by_cases hm0 : 0 < mr
        · have HNO := Lib.hid (show splitP b = (noH, [], 131) by rw [HS2.out, hcut]; simp only; rw [if_neg (fun h => by rw [h] at HMQ; simp at HMQ; omega)])
          clear hcut HMQ
          have HR := Lib.hid (show splitP b = (noH, [], 131) by exact HNO.out)
          go_upto_region 19 with fail
          refine wp_region_lit ?_
          refine wpList_buildTo rfl 60 _ rfl _ rfl #[.int .i64 0, .int .i64 0, .string ⟨#[]⟩, .int .i64 0, .bool false, .slice none 0 0] (by kernel_rfl) ?_
          refine wpList_store_rowTo rfl 60 _ _ rfl rfl g2 #[.int .i64 0, .int .i64 0, .string ⟨#[]⟩, .int .i64 0, .bool false, .slice none 0 0] rfl rfl 60 _ hz9 (head_info _ _ _ _ _ _) rfl (by simp [Value.oneCell']) ?_
          go_wp2_with fail
          refine bodyPost_ret (jresults_row_tmps rfl _ _ _ 60 _ (0, 0) _ rfl (Blk.row hz9 _) Try.underlying60 rfl (head_info _ _ _ _ _ _)) rfl ?_
          exact SplitPost.none_ HR.out ((HBW.out _ hB9).trans ((only_row wr g2 _).belowB (fun k hk => by have : k = g2 := hk; omega) (HBW.out _ hB9).size))
        · have hq0 : q.2 = [] := List.eq_nil_of_length_eq_zero (by omega)
          have HR := Lib.hid (show splitP b = (hd, q.1, 0) by rw [HS2.out, hcut]; simp only; rw [if_pos hq0])
          clear hcut HMQ hq0
          have hK9 := hK7.belowAll hBr
          have hrP9 := hrP5.below hBr
          have hit9 := hity5.below hBr hrP5
          go_upto_region 20 with fail
          refine wp_region_lit ?_
          refine wpList_load_row rfl 60 _ rfl g7 rfl 60 #[.int .i64 hd.b, .int .i64 hd.z, .string (str hd.n), .int .i64 hd.g, .bool hd.c, .slice P mp cp] (0, 0) _ hK9 Try.underlying60 rfl (head_info _ _ _ _ _ _) ?_
          go_step
          go_step
          go_step
          refine wpList_store_rowTo rfl 60 _ _ rfl rfl g2 #[.int .i64 hd.b, .int .i64 hd.z, .string (str hd.n), .int .i64 hd.g, .bool hd.c, .slice P mp cp] rfl rfl 60 _ hz9 (head_info _ _ _ _ _ _) rfl (by simp [Value.oneCell']) ?_
          go_wp2_with fail
          refine bodyPost_ret (jresults_row_tmps rfl _ _ _ 60 _ (0, 0) _ rfl (Blk.row hz9 _) Try.underlying60 rfl (head_info _ _ _ _ _ _)) rfl ?_
          have hon := only_row wr g2 #[.int .i64 hd.b, .int .i64 hd.z, .string (str hd.n), .int .i64 hd.g, .bool hd.c, .slice P mp cp]
          have hbF := (HBW.out _ hB9).trans (hon.belowB (fun k hk => by have : k = g2 := hk; omega) (HBW.out _ hB9).size)
          have hownF := hown.only hon (fun k hk => hown.blk_ne hz9 (by decide) k hk)
          have hty : ∀ k cs t lh, k = g2 → wr.heap[k]? = some (.cells cs t lh) → t ≠ 5 := fun k cs t lh hk e => by
            subst hk
            unfold Blk at hz9
            rw [hz9] at e
            injection e with e
            injection e with _ e
            subst e
            decide
          have hrPF := hit9.row hrP9 hon (fun k cs t lh hk e => by
            have : k = g2 := hk
            subst this
            unfold Blk at hz9
            rw [hz9] at e
            injection e with e
            injection e with _ e
            subst e
            decide)
          rw [HR.out]
          exact ⟨P, mp, cp, Ap, mp, cp', ps, rfl, HMP.out, hrPF, by have := hown.1; rw [pv_length, Nat.mul_one] at this; exact this, HPS.out, hownF.row, fun p hp => ((hpb p hp).only hon hty).row, hbF⟩
end Go.Proofs.Ytbljacafmkdlmaa
