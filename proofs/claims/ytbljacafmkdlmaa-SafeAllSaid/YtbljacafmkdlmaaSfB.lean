/- safe.copied, newest, Load. Conditions: a store as one lies in memory; copies 0 and 1. -/
import Derived.Test.YtbljacafmkdlmaaSfA
namespace Go.Proofs.Ytbljacafmkdlmaa
set_option maxRecDepth 100000
open Go.RowKit
set_option linter.unusedSimpArgs false

theorem row_new13 {w : World} {cs : Array Value} {e : TypeId} : Row (w.alloc (.cells cs e)) (some ⟨w.heap.size, 0, none⟩) cs.toList :=
  .inr ⟨_, 0, rfl, fun j u hu => by rw [World.cell?_alloc_new]; simpa using hu⟩

set_option maxHeartbeats 4000000 in
theorem copied_some (B : Nat) (f : Fp) (s : St) (w : World) (h : Sto w B f s) (k : Nat) (kk : Int) (hkk : (k = 0 ∧ kk = 0) ∨ (k = 1 ∧ kk = 1)) (x : List UInt8) (hyes : opened (markB s k) = some x) :
    Calls Try.prog 68 #[.pointer (some ⟨f.g, 0, none⟩), .int .i64 kk] w (CopPost w (cop s k)) := by
  have hk : k < 2 := by omega
  obtain ⟨her, hml, hxl, hkn⟩ := mark_some h.ok hyes
  have hbl := body_length h.ok hk
  have hc : cop s k = copOf s.n (bodyB s k) x := by unfold cop; rw [hyes]
  have hn0 := h.ok.n0
  have hn1 := h.ok.n1
  have ha5 : areaN s.n ≤ 2047 := by unfold areaN; omega
  have hrd := read_any B f s w h kk 1 (by omega) (by omega)
  have e1 : rdS s kk 1 = (markB s k, 0) := by rw [show kk = (k : Int) by omega]; exact Prod.ext rfl her
  rw [e1] at hrd
  have hln := fun u (hu : Sto u B f s) => len_any B f s u hu
  have hmo := fun u => most_any s.n u hn0 (by omega)
  have har := fun u => area_any s.n u hn0 (by omega)
  obtain ⟨oo, hoo⟩ : ∃ oo : Int, oo = ((2 + k * areaN s.n : Nat) : Int) := ⟨_, rfl⟩
  have hrd2 := fun u (hu : Sto u B f s) => read_any B f s u hu oo (areaN s.n : Int) (by rcases hkk with ⟨rfl, _⟩ | ⟨rfl, _⟩ <;> omega) (by omega)
  obtain ⟨er2, he2⟩ : ∃ er2, er2 = (rdS s oo (areaN s.n : Int)).2 := ⟨_, rfl⟩
  have e2 : rdS s oo (areaN s.n : Int) = (bodyB s k, er2) := by rw [hoo] at he2 ⊢; exact Prod.ext rfl he2.symm
  rw [e2] at hrd2
  simp only at hrd2
  have hoo2 : (kk = 0 → oo = 2) ∧ (kk = 1 → oo = 2 + (areaN s.n : Int)) := by
    rw [hoo]
    constructor
    · intro hq; obtain rfl : k = 0 := by omega
      omega
    · intro hq; obtain rfl : k = 1 := by omega
      omega
  clear e1 e2 hoo he2 her hkn
  obtain ⟨a, ha⟩ : ∃ a, a = areaN s.n := ⟨_, rfl⟩
  unfold copOf at hc
  rw [← ha] at hbl hc ha5 hmo har hrd2 hoo2
  obtain ⟨bd, hbd⟩ : ∃ bd, bd = bodyB s k := ⟨_, rfl⟩
  rw [← hbd] at hbl hc hrd2
  obtain ⟨M, hM⟩ : ∃ M, M = markB s k := ⟨_, rfl⟩
  rw [← hM] at hml hyes hrd
  have hx1 : nm x 0 4 = (x.drop 4, 0, u4 x 0) := by rw [nm4 (by omega)]; rfl
  have hx2 : nm (x.drop 4) 0 4 = (x.drop 8, 0, u4 x 1) := by rw [nm4 (by rw [List.length_drop]; omega), List.drop_drop]; rfl
  have hx3 : nm (x.drop 8) 0 4 = (x.drop 12, 0, u4 x 2) := by rw [nm4 (by rw [List.length_drop]; omega), List.drop_drop]; rfl
  have hg4 := u4_lt x 0
  have hl4 := u4_lt x 1
  have hc4 := u4_lt x 2
  obtain ⟨G, hG⟩ : ∃ G, G = u4 x 0 := ⟨_, rfl⟩
  obtain ⟨L, hL⟩ : ∃ L, L = u4 x 1 := ⟨_, rfl⟩
  obtain ⟨C, hC⟩ : ∃ C, C = u4 x 2 := ⟨_, rfl⟩
  rw [← hG] at hc hg4 hx1
  rw [← hL] at hc hl4 hx2
  rw [← hC] at hc hc4 hx3
  obtain ⟨r, hr⟩ : ∃ r, r = cop s k := ⟨_, rfl⟩
  rw [← hr] at hc ⊢
  have HC := Lib.hid hc
  have HBL := Lib.hid hbl
  have HML := Lib.hid hml
  have HYES := Lib.hid hyes
  have HXL := Lib.hid hxl
  have HX1 := Lib.hid hx1
  have HX2 := Lib.hid hx2
  have HX3 := Lib.hid hx3
  have HLN := Lib.hid hln
  have HMO := Lib.hid hmo
  have HAR := Lib.hid har
  have HRD2 := Lib.hid hrd2
  obtain ⟨hoo0, hoo1⟩ := hoo2
  have HOO0 := Lib.hid hoo0
  have HOO1 := Lib.hid hoo1
  have H := Lib.hid h
  obtain ⟨sn, hsn⟩ : ∃ sn, sn = s.n := ⟨_, rfl⟩
  rw [← hsn] at HLN HMO HAR hn0 hn1
  clear hc hbl hml hyes hxl hx1 hx2 hx3 hln hmo har hrd2 hoo0 hoo1 hG hL hC hM hbd ha hr hsn
  go_enter Try.func68, Try.ntmps68
  go_wp2_with fail
  refine hrd.mono ?_
  rintro e w1 ⟨A1, m1, c1, rfl, hl1, hown1, hb1⟩
  obtain rfl : m1 = 16 := by rw [← hl1]; exact HML.out
  have hs1 := h.below hb1
  have hop := open_yes A1 16 c1 M x w1 HML.out hown1.2.1 hown1.row (by omega) HYES.out
  clear hrd hl1 hown1 h
  go_wp2_with fail
  refine hop.mono ?_
  rintro e w2 ⟨A2, c2, rfl, _, _, hown2, hb2⟩
  have hs2 := hs1.below hb2
  have hb02 := below_all hb1 hb2
  have hnr := newReader_any A2 12 c2 x w2 HXL.out hown2.row (by omega)
  clear hop hs1 hb1 hb2 hown2
  go_wp2_with fail
  refine hnr.mono ?_
  rintro e w3 ⟨g, rfl, hg2, hrd3, hb3⟩
  have hs3 := hs2.below hb3
  have hb03 := below_all hb02 hb3
  have hgw : w.heap.size ≤ g := Nat.le_trans hb02.size hg2
  have hfg : ∀ i, Foot f i → i ≠ g := fun i hi e => by have := (hs2.foot i hi).2; omega
  have hn1' := rnum_any g x 0 4 w3 hrd3
  rw [HX1.out] at hn1'
  have HFG := Lib.hid hfg
  clear hnr hs2 hb02 hb3 hrd3 hfg
  go_wp2_with fail
  refine hn1'.mono ?_
  rintro e w4 ⟨rfl, hrd4, ho4⟩
  have hs4 := hs3.only ho4 HFG.out
  have hb04 := hb03.trans (ho4.belowB (B := w.heap.size) (fun i hi => by rw [hi]; exact hgw) hb03.size)
  have hn2' := rnum_any g _ 0 4 w4 hrd4
  rw [HX2.out] at hn2'
  clear hn1' hs3 hb03 hrd4 ho4
  go_wp2_with fail
  refine hn2'.mono ?_
  rintro e w5 ⟨rfl, hrd5, ho5⟩
  have hs5 := hs4.only ho5 HFG.out
  have hb05 := hb04.trans (ho5.belowB (B := w.heap.size) (fun i hi => by rw [hi]; exact hgw) hb04.size)
  have hn3' := rnum_any g _ 0 4 w5 hrd5
  rw [HX3.out] at hn3'
  clear hn2' hs4 hb04 hrd5 ho5
  go_wp2_with fail
  refine hn3'.mono ?_
  rintro e w6 ⟨rfl, hrd6, ho6⟩
  have hs6 := hs5.only ho6 HFG.out
  have hb06 := hb05.trans (ho6.belowB (B := w.heap.size) (fun i hi => by rw [hi]; exact hgw) hb05.size)
  clear hn3' hs5 hb05 hrd6 ho6
  by_cases hG1 : G < 1
  · go_wp2_with fail
    go_ret2
    exact CopPost.none_ (by rw [HC.out, if_pos (.inl hG1)]) hb06
  by_cases hG2 : 1073741824 < G
  · go_wp2_with fail
    go_ret2
    exact CopPost.none_ (by rw [HC.out, if_pos (.inr (.inl hG2))]) hb06
  go_wp2_with fail
  refine (HLN.out _ hs6).mono ?_
  rintro e w7 ⟨rfl, rfl⟩
  go_wp2_with fail
  refine (HMO.out _).mono ?_
  rintro e w8 ⟨rfl, rfl⟩
  by_cases hL1 : 16 * a < L
  · go_wp2_with fail
    go_ret2
    exact CopPost.none_ (by rw [HC.out, if_pos (.inr (.inr hL1))]) hb06
  have hcif : r = if adler (bd.take L) ≠ C then ([], 0) else (bd.take L, G) := by rw [HC.out, if_neg (by omega)]
  have HCIF := Lib.hid hcif
  clear hcif
  rcases hkk with ⟨rfl, rfl⟩ | ⟨rfl, rfl⟩
  · obtain rfl : oo = 2 := HOO0.out rfl
    go_wp2_with fail
    refine (HLN.out _ hs6).mono ?_
    rintro e w9 ⟨rfl, rfl⟩
    go_wp2_with fail
    refine (HAR.out _).mono ?_
    rintro e w10 ⟨rfl, rfl⟩
    go_wp2_with fail
    refine (HLN.out _ hs6).mono ?_
    rintro e w11 ⟨rfl, rfl⟩
    go_wp2_with fail
    refine (HAR.out _).mono ?_
    rintro e w12 ⟨rfl, rfl⟩
    go_wp2_with fail
    refine (HRD2.out _ hs6).mono ?_
    rintro e w13 ⟨A4, m4, c4', rfl, hl4', hown4, hb13⟩
    obtain rfl : m4 = 16 * a := by rw [← hl4']; exact HBL.out
    have hb013 := hb06.trans (hb13.mono hb06.size)
    have hrow := hown4.row
    have hmc := hown4.2.1
    have htl : (bd.take L).length = L := by rw [List.length_take, HBL.out]; omega
    have hrt : Row w13 A4 (bv (bd.take L)) := by rw [← bv_take]; exact hrow.take _
    have HTL := Lib.hid htl
    have hof := of_any (some ⟨w13.heap.size, 0, none⟩) 1 1 [⟨A4, c4', bd.take L⟩] (w13.alloc (.cells #[.slice A4 (bd.take L).length c4'] 23)) rfl row_new13 (fun p hp => by rw [List.mem_singleton.1 hp]; exact hrt.alloc _) (by omega) (fun p hp => by rw [List.mem_singleton.1 hp, htl]; omega)
    simp only [List.flatMap_cons, List.flatMap_nil, List.append_nil] at hof
    rw [htl] at hof
    have hb014 := hb013.alloc hb013.size (.cells #[.slice A4 L c4'] 23)
    have had := adler_lt (bd.take L)
    obtain ⟨ad', had'⟩ : ∃ ad', ad' = adler (bd.take L) := ⟨_, rfl⟩
    rw [← had'] at hof had HCIF
    have hrt14 := hrt.alloc (.cells #[.slice A4 L c4'] 23)
    clear hl4' hown4 hb13 hb013 hrow htl hrt had' hs6
    go_wp2_with fail
    refine hof.mono ?_
    rintro e w15 ⟨rfl, hb15⟩
    have hb015 := below_all hb014 hb15
    have hrt15 := hrt14.below hb15
    clear hof hb014 hb15 hrt14
    by_cases hq : ad' = C
    · have hr2 : r = (bd.take L, G) := by rw [HCIF.out, if_neg (fun hn => hn hq)]
      have HR2 := Lib.hid hr2
      subst hq
      clear hr2
      go_wp2_with fail
      go_ret2
      rw [HR2.out]
      exact ⟨_, _, _, rfl, HTL.out, Nat.le_refl _, hrt15, hb015⟩
    · have hr2 : r = ([], 0) := by rw [HCIF.out, if_pos hq]
      have HR2 := Lib.hid hr2
      have hq1 : ¬ (ad' : Int) = (C : Int) := by omega
      clear hr2
      go_wp2_with fail
      go_ret2
      exact CopPost.none_ HR2.out hb015
  · obtain rfl : oo = 2 + (a : Int) := HOO1.out rfl
    go_wp2_with fail
    refine (HLN.out _ hs6).mono ?_
    rintro e w9 ⟨rfl, rfl⟩
    go_wp2_with fail
    refine (HAR.out _).mono ?_
    rintro e w10 ⟨rfl, rfl⟩
    go_wp2_with fail
    refine (HLN.out _ hs6).mono ?_
    rintro e w11 ⟨rfl, rfl⟩
    go_wp2_with fail
    refine (HAR.out _).mono ?_
    rintro e w12 ⟨rfl, rfl⟩
    go_wp2_with fail
    refine (HRD2.out _ hs6).mono ?_
    rintro e w13 ⟨A4, m4, c4', rfl, hl4', hown4, hb13⟩
    obtain rfl : m4 = 16 * a := by rw [← hl4']; exact HBL.out
    have hb013 := hb06.trans (hb13.mono hb06.size)
    have hrow := hown4.row
    have hmc := hown4.2.1
    have htl : (bd.take L).length = L := by rw [List.length_take, HBL.out]; omega
    have hrt : Row w13 A4 (bv (bd.take L)) := by rw [← bv_take]; exact hrow.take _
    have HTL := Lib.hid htl
    have hof := of_any (some ⟨w13.heap.size, 0, none⟩) 1 1 [⟨A4, c4', bd.take L⟩] (w13.alloc (.cells #[.slice A4 (bd.take L).length c4'] 23)) rfl row_new13 (fun p hp => by rw [List.mem_singleton.1 hp]; exact hrt.alloc _) (by omega) (fun p hp => by rw [List.mem_singleton.1 hp, htl]; omega)
    simp only [List.flatMap_cons, List.flatMap_nil, List.append_nil] at hof
    rw [htl] at hof
    have hb014 := hb013.alloc hb013.size (.cells #[.slice A4 L c4'] 23)
    have had := adler_lt (bd.take L)
    obtain ⟨ad', had'⟩ : ∃ ad', ad' = adler (bd.take L) := ⟨_, rfl⟩
    rw [← had'] at hof had HCIF
    have hrt14 := hrt.alloc (.cells #[.slice A4 L c4'] 23)
    clear hl4' hown4 hb13 hb013 hrow htl hrt had' hs6
    go_wp2_with fail
    refine hof.mono ?_
    rintro e w15 ⟨rfl, hb15⟩
    have hb015 := below_all hb014 hb15
    have hrt15 := hrt14.below hb15
    clear hof hb014 hb15 hrt14
    by_cases hq : ad' = C
    · have hr2 : r = (bd.take L, G) := by rw [HCIF.out, if_neg (fun hn => hn hq)]
      have HR2 := Lib.hid hr2
      subst hq
      clear hr2
      go_wp2_with fail
      go_ret2
      rw [HR2.out]
      exact ⟨_, _, _, rfl, HTL.out, Nat.le_refl _, hrt15, hb015⟩
    · have hr2 : r = ([], 0) := by rw [HCIF.out, if_pos hq]
      have HR2 := Lib.hid hr2
      have hq1 : ¬ (ad' : Int) = (C : Int) := by omega
      clear hr2
      go_wp2_with fail
      go_ret2
      exact CopPost.none_ HR2.out hb015
end Go.Proofs.Ytbljacafmkdlmaa
