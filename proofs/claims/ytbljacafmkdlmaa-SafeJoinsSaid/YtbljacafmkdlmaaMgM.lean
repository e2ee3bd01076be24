/- Several texts in one: SfA, SfB, SfC. -/
import Derived.Test.YtbljacafmkdlmaaMgH
import Derived.Test.YtbljacafmkdlmaaDos
import Derived.Test.YtbljacafmkdlmaaRdr
import Derived.Test.YtbljacafmkdlmaaMgC
import Derived.OwnWalk
/- safe.area, safe.Most, safe.copied. Conditions: a store as one lies in memory; copies 0 and 1. -/
namespace Go.Proofs.Ytbljacafmkdlmaa
set_option maxRecDepth 100000
open Go.RowKit
set_option linter.unusedSimpArgs false

set_option maxHeartbeats 1000000 in
theorem area_any (n : Int) (w : World) (h0 : 0 ≤ n) (h1 : n ≤ 1099511627776) :
    Calls Try.prog 36 #[.int .i64 n] w fun e w' => e = .returned (.int .i64 (areaN n)) ∧ w' = w := by
  have e : (areaN n : Int) = (if n < 2 then 0 else (n - 2) / 2) := by
    unfold areaN
    split <;> omega
  have HE := Lib.hid e
  clear e
  by_cases h2 : n < 2
  · go_enter Try.func36, Try.ntmps36
    go_wp2_with fail
    go_ret
    exact ⟨ret_int (by rw [HE.out, if_pos h2]), rfl⟩
  · have h3 : 0 ≤ n - 2 := by omega
    go_enter Try.func36, Try.ntmps36
    go_wp2_with fail
    go_ret
    exact ⟨ret_int (by rw [HE.out, if_neg (by omega)]), rfl⟩
set_option maxHeartbeats 1000000 in
theorem most_any (n : Int) (w : World) (h0 : 0 ≤ n) (h1 : n ≤ 1099511627776) :
    Calls Try.prog 13 #[.int .i64 n] w fun e w' => e = .returned (.int .i64 ((16 * areaN n : Nat) : Int)) ∧ w' = w := by
  have hA : areaN n ≤ 1099511627776 := by unfold areaN; omega
  obtain ⟨a, ha⟩ : ∃ a, a = areaN n := ⟨_, rfl⟩
  have har := area_any n w h0 h1
  rw [← ha] at hA har ⊢
  clear ha
  go_enter Try.func13, Try.ntmps13
  go_wp2_with fail
  refine har.mono ?_
  rintro e w1 ⟨rfl, rfl⟩
  go_wp2_with fail
  go_ret
  exact ⟨ret_int (by omega), rfl⟩

/-! ## what is read of a copy -/
theorem rd_cases (s : St) (a n : Int) : (rdS s a n).2 = 0 ∨ (rdS s a n).1 = [] := by
  unfold rdS
  split
  · exact .inr rfl
  split
  · exact .inr rfl
  · exact .inl rfl
theorem opened_short {l m : List UInt8} (h : opened l = some m) : 4 ≤ l.length ∧ m.length = l.length - 4 := by
  have h1 := opened_some h
  rw [← h1, sealed_length]
  omega
theorem mark_some {s : St} (hs : s.OK) {k : Nat} {x : List UInt8} (h : opened (markB s k) = some x) : (rdS s (k : Int) 1).2 = 0 ∧ (markB s k).length = 16 ∧ x.length = 12 ∧ (k : Int) < s.n := by
  obtain ⟨h1, h2⟩ := opened_short h
  have h3 : (rdS s (k : Int) 1).2 = 0 := by
    rcases rd_cases s (k : Int) 1 with h0 | h0
    · exact h0
    · unfold markB at h1
      rw [h0] at h1
      simp at h1
  have h4 : (k : Int) < s.n := by
    have hi : insideB s.n (k : Int) 1 = true := by
      cases hb : insideB s.n (k : Int) 1 with
      | true => rfl
      | false =>
        unfold rdS at h3
        rw [if_neg (by omega), if_pos hb] at h3
        simp at h3
    have := insideB_of hi
    omega
  have h5 : (markB s k).length = 16 := by
    rw [markB_in h4]
    exact sect_len' (fun y hy => (hs.w y hy).2.2) _
  exact ⟨h3, h5, by omega, h4⟩
theorem body_length {s : St} (hs : s.OK) {k : Nat} (hk : k < 2) : (bodyB s k).length = 16 * areaN s.n := by
  by_cases h2 : 2 ≤ s.n
  · rw [bodyB_in hk h2, cat_len' (fun y hy => (hs.w y hy).2.2)]
  · have ha : areaN s.n = 0 := by unfold areaN; omega
    have hr : rdS s ((2 + k * areaN s.n : Nat) : Int) (areaN s.n : Int) = ([], 31) := by
      have hi : insideB s.n 2 0 = false := by
        cases hb : insideB s.n 2 0 with
        | false => rfl
        | true => have := insideB_of hb; omega
      unfold rdS
      rw [ha]
      show (if ((0 : Nat) : Int) < 0 then _ else if insideB s.n ((2 + k * 0 : Nat) : Int) ((0 : Nat) : Int) = false then _ else _) = _
      rw [if_neg (by omega), Nat.mul_zero]
      exact if_pos hi
    unfold bodyB
    rw [hr, ha]
    rfl
theorem nm4 {l : List UInt8} (h : 4 ≤ l.length) : nm l 0 4 = (l.drop 4, 0, un (l.take 4)) := by
  have e : tk l 0 4 (!rt 4) = (l.drop 4, 0, l.take 4) := by
    unfold tk
    rw [if_neg (by omega), if_neg (by decide), if_neg (by omega)]
    rfl
  unfold nm
  rw [e]
  simp only
  rw [if_neg (by rw [List.length_take]; omega)]
theorem u4_lt (x : List UInt8) (i : Nat) : u4 x i < 4294967296 := by
  unfold u4
  have h := un_lt ((x.drop (4 * i)).take 4)
  have h2 : ((x.drop (4 * i)).take 4).length ≤ 4 := List.length_take_le _ _
  have h3 : 256 ^ ((x.drop (4 * i)).take 4).length ≤ 256 ^ 4 := Nat.pow_le_pow_right (by omega) h2
  omega

def CopPost (w : World) (r : List UInt8 × Nat) (e : Ending) (w' : World) : Prop :=
  ∃ A m c, e = .returned (.tuple #[.slice A m c, .int .i64 (r.2 : Int)]) ∧ r.1.length = m ∧ m ≤ c ∧ Row w' A (bv r.1) ∧ Below w.heap.size w w'
theorem CopPost.none_ {w w' : World} {r : List UInt8 × Nat} (h : r = ([], 0)) (hb : Below w.heap.size w w') : CopPost w r (.returned (.tuple #[.slice none 0 0, .int .i64 0])) w' := by
  subst h
  exact ⟨none, 0, 0, rfl, rfl, Nat.le_refl _, Row.nil _ _, hb⟩

set_option maxHeartbeats 2000000 in
theorem copied_none (B : Nat) (f : Fp) (s : St) (w : World) (h : Sto w B f s) (k : Nat) (hk : k < 2) (hno : opened (markB s k) = none) :
    Calls Try.prog 68 #[.pointer (some ⟨f.g, 0, none⟩), .int .i64 k] w (CopPost w (cop s k)) := by
  have hc : cop s k = ([], 0) := by unfold cop; rw [hno]
  have hrd := read_any B f s w h k 1 (by omega) (by omega)
  have hcs := rd_cases s k 1
  unfold markB at hno
  obtain ⟨⟨M, er⟩, hM⟩ : ∃ r, r = rdS s k 1 := ⟨_, rfl⟩
  rw [← hM] at hrd hno hcs
  simp only at hrd hno hcs
  have HNO := Lib.hid hno
  have HC := Lib.hid hc
  have hfit : ∀ m, M.length = m → m ≤ 1000000000000 := fun m hm => by
    have e : M = (rdS s k 1).1 := by rw [← hM]
    rw [← hm, e]
    unfold rdS
    split
    · simp
    split
    · simp
    · have := cat_len' (fun y hy => (h.ok.w y hy).2.2) (k : Int) (1 : Int).toNat
      simp only
      omega
  clear hM hno hc
  have HFIT := Lib.hid hfit
  clear hfit h
  go_enter Try.func68, Try.ntmps68
  go_wp2_with fail
  refine hrd.mono ?_
  rintro e w1 ⟨A, m, c, rfl, hl, hown, hb1⟩
  have hmc := hown.2.1
  have hx := hown.row
  have hm5 := HFIT.out m hl
  have HL := Lib.hid hl
  clear hrd hown hl
  by_cases hm4 : m < 4
  · have hop := fun u => open_short A m c u hm4
    go_wp2_with fail
    refine (hop _).mono ?_
    rintro e w2 ⟨rfl, rfl⟩
    by_cases her : er = 0
    · subst her
      go_wp2_with fail
      go_ret2
      exact CopPost.none_ HC.out hb1
    · go_wp2_with fail
      go_ret2
      exact CopPost.none_ HC.out hb1
  · have hop := open_no A m c M w1 HL.out hmc hx (by omega) (by omega) HNO.out
    go_wp2_with fail
    refine hop.mono ?_
    rintro e w2 ⟨rfl, hb2⟩
    have hb02 := below_all hb1 hb2
    clear hop
    by_cases her : er = 0
    · subst her
      go_wp2_with fail
      go_ret2
      exact CopPost.none_ HC.out hb02
    · go_wp2_with fail
      go_ret2
      exact CopPost.none_ HC.out hb02
end Go.Proofs.Ytbljacafmkdlmaa

/- safe.copied, newest, Load. Conditions: a store as one lies in memory; copies 0 and 1. -/
namespace Go.Proofs.Ytbljacafmkdlmaa
set_option maxRecDepth 100000
open Go.RowKit
set_option linter.unusedSimpArgs false

theorem row_new13 {w : World} {cs : Array Value} {e : TypeId} : Row (w.alloc (.cells cs e)) (some ⟨w.heap.size, 0, none⟩) cs.toList :=
  .inr ⟨_, 0, rfl, fun j u hu => by rw [World.cell?_alloc_new]; simpa using hu⟩

set_option maxHeartbeats 4000000 in
theorem copied_some (B : Nat) (f : Fp) (s : St) (w : World) (h : Sto w B f s) (k : Nat) (kk : Int) (hkk : (k = 0 ∧ kk = 0) ∨ (k = 1 ∧ kk = 1)) (x : List UInt8) (hyes : opened (markB s k) = some x) :
    Calls Try.prog 68 #[.pointer (some ⟨f.g, 0, none⟩), .int .i64 kk] w (CopPost w (cop s k)) := by
  have hk : k < 2 := by omega
  obtain ⟨her, hml, hxl, hkn⟩ := mark_some h.ok hyes
  have hbl := body_length h.ok hk
  have hc : cop s k = copOf s.n (bodyB s k) x := by unfold cop; rw [hyes]
  have hn0 := h.ok.n0
  have hn1 := h.ok.n1
  have ha5 : areaN s.n ≤ 2047 := by unfold areaN; omega
  have hrd := read_any B f s w h kk 1 (by omega) (by omega)
  have e1 : rdS s kk 1 = (markB s k, 0) := by rw [show kk = (k : Int) by omega]; exact Prod.ext rfl her
  rw [e1] at hrd
  have hln := fun u (hu : Sto u B f s) => len_any B f s u hu
  have hmo := fun u => most_any s.n u hn0 (by omega)
  have har := fun u => area_any s.n u hn0 (by omega)
  obtain ⟨oo, hoo⟩ : ∃ oo : Int, oo = ((2 + k * areaN s.n : Nat) : Int) := ⟨_, rfl⟩
  have hrd2 := fun u (hu : Sto u B f s) => read_any B f s u hu oo (areaN s.n : Int) (by rcases hkk with ⟨rfl, _⟩ | ⟨rfl, _⟩ <;> omega) (by omega)
  obtain ⟨er2, he2⟩ : ∃ er2, er2 = (rdS s oo (areaN s.n : Int)).2 := ⟨_, rfl⟩
  have e2 : rdS s oo (areaN s.n : Int) = (bodyB s k, er2) := by rw [hoo] at he2 ⊢; exact Prod.ext rfl he2.symm
  rw [e2] at hrd2
  simp only at hrd2
  have hoo2 : (kk = 0 → oo = 2) ∧ (kk = 1 → oo = 2 + (areaN s.n : Int)) := by
    rw [hoo]
    constructor
    · intro hq; obtain rfl : k = 0 := by omega
      omega
    · intro hq; obtain rfl : k = 1 := by omega
      omega
  clear e1 e2 hoo he2 her hkn
  obtain ⟨a, ha⟩ : ∃ a, a = areaN s.n := ⟨_, rfl⟩
  unfold copOf at hc
  rw [← ha] at hbl hc ha5 hmo har hrd2 hoo2
  obtain ⟨bd, hbd⟩ : ∃ bd, bd = bodyB s k := ⟨_, rfl⟩
  rw [← hbd] at hbl hc hrd2
  obtain ⟨M, hM⟩ : ∃ M, M = markB s k := ⟨_, rfl⟩
  rw [← hM] at hml hyes hrd
  have hx1 : nm x 0 4 = (x.drop 4, 0, u4 x 0) := by rw [nm4 (by omega)]; rfl
  have hx2 : nm (x.drop 4) 0 4 = (x.drop 8, 0, u4 x 1) := by rw [nm4 (by rw [List.length_drop]; omega), List.drop_drop]; rfl
  have hx3 : nm (x.drop 8) 0 4 = (x.drop 12, 0, u4 x 2) := by rw [nm4 (by rw [List.length_drop]; omega), List.drop_drop]; rfl
  have hg4 := u4_lt x 0
  have hl4 := u4_lt x 1
  have hc4 := u4_lt x 2
  obtain ⟨G, hG⟩ : ∃ G, G = u4 x 0 := ⟨_, rfl⟩
  obtain ⟨L, hL⟩ : ∃ L, L = u4 x 1 := ⟨_, rfl⟩
  obtain ⟨C, hC⟩ : ∃ C, C = u4 x 2 := ⟨_, rfl⟩
  rw [← hG] at hc hg4 hx1
  rw [← hL] at hc hl4 hx2
  rw [← hC] at hc hc4 hx3
  obtain ⟨r, hr⟩ : ∃ r, r = cop s k := ⟨_, rfl⟩
  rw [← hr] at hc ⊢
  have HC := Lib.hid hc
  have HBL := Lib.hid hbl
  have HML := Lib.hid hml
  have HYES := Lib.hid hyes
  have HXL := Lib.hid hxl
  have HX1 := Lib.hid hx1
  have HX2 := Lib.hid hx2
  have HX3 := Lib.hid hx3
  have HLN := Lib.hid hln
  have HMO := Lib.hid hmo
  have HAR := Lib.hid har
  have HRD2 := Lib.hid hrd2
  obtain ⟨hoo0, hoo1⟩ := hoo2
  have HOO0 := Lib.hid hoo0
  have HOO1 := Lib.hid hoo1
  have H := Lib.hid h
  obtain ⟨sn, hsn⟩ : ∃ sn, sn = s.n := ⟨_, rfl⟩
  rw [← hsn] at HLN HMO HAR hn0 hn1
  clear hc hbl hml hyes hxl hx1 hx2 hx3 hln hmo har hrd2 hoo0 hoo1 hG hL hC hM hbd ha hr hsn
  go_enter Try.func68, Try.ntmps68
  go_wp2_with fail
  refine hrd.mono ?_
  rintro e w1 ⟨A1, m1, c1, rfl, hl1, hown1, hb1⟩
  obtain rfl : m1 = 16 := by rw [← hl1]; exact HML.out
  have hs1 := h.below hb1
  have hop := open_yes A1 16 c1 M x w1 HML.out hown1.2.1 hown1.row (by omega) HYES.out
  clear hrd hl1 hown1 h
  go_wp2_with fail
  refine hop.mono ?_
  rintro e w2 ⟨A2, c2, rfl, _, _, hown2, hb2⟩
  have hs2 := hs1.below hb2
  have hb02 := below_all hb1 hb2
  have hnr := newReader_any A2 12 c2 x w2 HXL.out hown2.row (by omega)
  clear hop hs1 hb1 hb2 hown2
  go_wp2_with fail
  refine hnr.mono ?_
  rintro e w3 ⟨g, rfl, hg2, hrd3, hb3⟩
  have hs3 := hs2.below hb3
  have hb03 := below_all hb02 hb3
  have hgw : w.heap.size ≤ g := Nat.le_trans hb02.size hg2
  have hfg : ∀ i, Foot f i → i ≠ g := fun i hi e => by have := (hs2.foot i hi).2; omega
  have hn1' := rnum_any g x 0 4 w3 hrd3
  rw [HX1.out] at hn1'
  have HFG := Lib.hid hfg
  clear hnr hs2 hb02 hb3 hrd3 hfg
  go_wp2_with fail
  refine hn1'.mono ?_
  rintro e w4 ⟨rfl, hrd4, ho4⟩
  have hs4 := hs3.only ho4 HFG.out
  have hb04 := hb03.trans (ho4.belowB (B := w.heap.size) (fun i hi => by rw [hi]; exact hgw) hb03.size)
  have hn2' := rnum_any g _ 0 4 w4 hrd4
  rw [HX2.out] at hn2'
  clear hn1' hs3 hb03 hrd4 ho4
  go_wp2_with fail
  refine hn2'.mono ?_
  rintro e w5 ⟨rfl, hrd5, ho5⟩
  have hs5 := hs4.only ho5 HFG.out
  have hb05 := hb04.trans (ho5.belowB (B := w.heap.size) (fun i hi => by rw [hi]; exact hgw) hb04.size)
  have hn3' := rnum_any g _ 0 4 w5 hrd5
  rw [HX3.out] at hn3'
  clear hn2' hs4 hb04 hrd5 ho5
  go_wp2_with fail
  refine hn3'.mono ?_
  rintro e w6 ⟨rfl, hrd6, ho6⟩
  have hs6 := hs5.only ho6 HFG.out
  have hb06 := hb05.trans (ho6.belowB (B := w.heap.size) (fun i hi => by rw [hi]; exact hgw) hb05.size)
  clear hn3' hs5 hb05 hrd6 ho6
  by_cases hG1 : G < 1
  · go_wp2_with fail
    go_ret2
    exact CopPost.none_ (by rw [HC.out, if_pos (.inl hG1)]) hb06
  by_cases hG2 : 1073741824 < G
  · go_wp2_with fail
    go_ret2
    exact CopPost.none_ (by rw [HC.out, if_pos (.inr (.inl hG2))]) hb06
  go_wp2_with fail
  refine (HLN.out _ hs6).mono ?_
  rintro e w7 ⟨rfl, rfl⟩
  go_wp2_with fail
  refine (HMO.out _).mono ?_
  rintro e w8 ⟨rfl, rfl⟩
  by_cases hL1 : 16 * a < L
  · go_wp2_with fail
    go_ret2
    exact CopPost.none_ (by rw [HC.out, if_pos (.inr (.inr hL1))]) hb06
  have hcif : r = if adler (bd.take L) ≠ C then ([], 0) else (bd.take L, G) := by rw [HC.out, if_neg (by omega)]
  have HCIF := Lib.hid hcif
  clear hcif
  rcases hkk with ⟨rfl, rfl⟩ | ⟨rfl, rfl⟩
  · obtain rfl : oo = 2 := HOO0.out rfl
    go_wp2_with fail
    refine (HLN.out _ hs6).mono ?_
    rintro e w9 ⟨rfl, rfl⟩
    go_wp2_with fail
    refine (HAR.out _).mono ?_
    rintro e w10 ⟨rfl, rfl⟩
    go_wp2_with fail
    refine (HLN.out _ hs6).mono ?_
    rintro e w11 ⟨rfl, rfl⟩
    go_wp2_with fail
    refine (HAR.out _).mono ?_
    rintro e w12 ⟨rfl, rfl⟩
    go_wp2_with fail
    refine (HRD2.out _ hs6).mono ?_
    rintro e w13 ⟨A4, m4, c4', rfl, hl4', hown4, hb13⟩
    obtain rfl : m4 = 16 * a := by rw [← hl4']; exact HBL.out
    have hb013 := hb06.trans (hb13.mono hb06.size)
    have hrow := hown4.row
    have hmc := hown4.2.1
    have htl : (bd.take L).length = L := by rw [List.length_take, HBL.out]; omega
    have hrt : Row w13 A4 (bv (bd.take L)) := by rw [← bv_take]; exact hrow.take _
    have HTL := Lib.hid htl
    have hof := of_any (some ⟨w13.heap.size, 0, none⟩) 1 1 [⟨A4, c4', bd.take L⟩] (w13.alloc (.cells #[.slice A4 (bd.take L).length c4'] 23)) rfl row_new13 (fun p hp => by rw [List.mem_singleton.1 hp]; exact hrt.alloc _) (by omega) (fun p hp => by rw [List.mem_singleton.1 hp, htl]; omega)
    simp only [List.flatMap_cons, List.flatMap_nil, List.append_nil] at hof
    rw [htl] at hof
    have hb014 := hb013.alloc hb013.size (.cells #[.slice A4 L c4'] 23)
    have had := adler_lt (bd.take L)
    obtain ⟨ad', had'⟩ : ∃ ad', ad' = adler (bd.take L) := ⟨_, rfl⟩
    rw [← had'] at hof had HCIF
    have hrt14 := hrt.alloc (.cells #[.slice A4 L c4'] 23)
    clear hl4' hown4 hb13 hb013 hrow htl hrt had' hs6
    go_wp2_with fail
    refine hof.mono ?_
    rintro e w15 ⟨rfl, hb15⟩
    have hb015 := below_all hb014 hb15
    have hrt15 := hrt14.below hb15
    clear hof hb014 hb15 hrt14
    by_cases hq : ad' = C
    · have hr2 : r = (bd.take L, G) := by rw [HCIF.out, if_neg (fun hn => hn hq)]
      have HR2 := Lib.hid hr2
      subst hq
      clear hr2
      go_wp2_with fail
      go_ret2
      rw [HR2.out]
      exact ⟨_, _, _, rfl, HTL.out, Nat.le_refl _, hrt15, hb015⟩
    · have hr2 : r = ([], 0) := by rw [HCIF.out, if_pos hq]
      have HR2 := Lib.hid hr2
      have hq1 : ¬ (ad' : Int) = (C : Int) := by omega
      clear hr2
      go_wp2_with fail
      go_ret2
      exact CopPost.none_ HR2.out hb015
  · obtain rfl : oo = 2 + (a : Int) := HOO1.out rfl
    go_wp2_with fail
    refine (HLN.out _ hs6).mono ?_
    rintro e w9 ⟨rfl, rfl⟩
    go_wp2_with fail
    refine (HAR.out _).mono ?_
    rintro e w10 ⟨rfl, rfl⟩
    go_wp2_with fail
    refine (HLN.out _ hs6).mono ?_
    rintro e w11 ⟨rfl, rfl⟩
    go_wp2_with fail
    refine (HAR.out _).mono ?_
    rintro e w12 ⟨rfl, rfl⟩
    go_wp2_with fail
    refine (HRD2.out _ hs6).mono ?_
    rintro e w13 ⟨A4, m4, c4', rfl, hl4', hown4, hb13⟩
    obtain rfl : m4 = 16 * a := by rw [← hl4']; exact HBL.out
    have hb013 := hb06.trans (hb13.mono hb06.size)
    have hrow := hown4.row
    have hmc := hown4.2.1
    have htl : (bd.take L).length = L := by rw [List.length_take, HBL.out]; omega
    have hrt : Row w13 A4 (bv (bd.take L)) := by rw [← bv_take]; exact hrow.take _
    have HTL := Lib.hid htl
    have hof := of_any (some ⟨w13.heap.size, 0, none⟩) 1 1 [⟨A4, c4', bd.take L⟩] (w13.alloc (.cells #[.slice A4 (bd.take L).length c4'] 23)) rfl row_new13 (fun p hp => by rw [List.mem_singleton.1 hp]; exact hrt.alloc _) (by omega) (fun p hp => by rw [List.mem_singleton.1 hp, htl]; omega)
    simp only [List.flatMap_cons, List.flatMap_nil, List.append_nil] at hof
    rw [htl] at hof
    have hb014 := hb013.alloc hb013.size (.cells #[.slice A4 L c4'] 23)
    have had := adler_lt (bd.take L)
    obtain ⟨ad', had'⟩ : ∃ ad', ad' = adler (bd.take L) := ⟨_, rfl⟩
    rw [← had'] at hof had HCIF
    have hrt14 := hrt.alloc (.cells #[.slice A4 L c4'] 23)
    clear hl4' hown4 hb13 hb013 hrow htl hrt had' hs6
    go_wp2_with fail
    refine hof.mono ?_
    rintro e w15 ⟨rfl, hb15⟩
    have hb015 := below_all hb014 hb15
    have hrt15 := hrt14.below hb15
    clear hof hb014 hb15 hrt14
    by_cases hq : ad' = C
    · have hr2 : r = (bd.take L, G) := by rw [HCIF.out, if_neg (fun hn => hn hq)]
      have HR2 := Lib.hid hr2
      subst hq
      clear hr2
      go_wp2_with fail
      go_ret2
      rw [HR2.out]
      exact ⟨_, _, _, rfl, HTL.out, Nat.le_refl _, hrt15, hb015⟩
    · have hr2 : r = ([], 0) := by rw [HCIF.out, if_pos hq]
      have HR2 := Lib.hid hr2
      have hq1 : ¬ (ad' : Int) = (C : Int) := by omega
      clear hr2
      go_wp2_with fail
      go_ret2
      exact CopPost.none_ HR2.out hb015
end Go.Proofs.Ytbljacafmkdlmaa

/- safe.newest, safe.Load. Condition: a store as one lies in memory. -/
namespace Go.Proofs.Ytbljacafmkdlmaa
set_option maxRecDepth 100000
open Go.RowKit
set_option linter.unusedSimpArgs false

theorem copied_any (B : Nat) (f : Fp) (s : St) (w : World) (h : Sto w B f s) (k : Nat) (hk : k < 2) :
    Calls Try.prog 68 #[.pointer (some ⟨f.g, 0, none⟩), .int .i64 k] w (CopPost w (cop s k)) := by
  cases hx : opened (markB s k) with
  | none => exact copied_none B f s w h k hk hx
  | some x => exact copied_some B f s w h k (k : Int) (by omega) x hx

/-- The newest of the first copies. -/
def np (s : St) : Nat → Int × List UInt8 × Nat
  | 0 => (-1, [], 0)
  | j + 1 => if (np s j).2.2 < (cop s j).2 then ((j : Int), cop s j) else np s j
theorem np_two (s : St) : np s 2 = newestP s := by
  have e1 : np s 1 = if 0 < (cop s 0).2 then (0, cop s 0) else (-1, [], 0) := rfl
  have e2 : np s 2 = if (np s 1).2.2 < (cop s 1).2 then (1, cop s 1) else np s 1 := rfl
  rw [e2, e1]
  unfold newestP
  by_cases h0 : 0 < (cop s 0).2
  · rw [if_pos h0]
  · rw [if_neg h0]
    simp only
    by_cases h1 : 0 < (cop s 1).2
    · rw [if_pos h1, if_pos (by omega)]
    · rw [if_neg h1, if_neg (by omega)]

def NewPost (w : World) (r : Int × List UInt8 × Nat) (e : Ending) (w' : World) : Prop :=
  ∃ A m c, e = .returned (.tuple #[.int .i64 r.1, .slice A m c, .int .i64 (r.2.2 : Int)]) ∧ r.2.1.length = m ∧ m ≤ c ∧ Row w' A (bv r.2.1) ∧ Below w.heap.size w w'

set_option maxHeartbeats 2000000 in
theorem newest_any (B : Nat) (f : Fp) (s : St) (w : World) (h : Sto w B f s) :
    Calls Try.prog 34 #[.pointer (some ⟨f.g, 0, none⟩)] w (NewPost w (newestP s)) := by
  rw [← np_two]
  go_enter Try.func34, Try.ntmps34
  go_wp2_with fail
  go_loopw [5, 6, 7, 11] (fun a b x i wr => ∃ (j : Nat) (r : Int × List UInt8 × Nat) (A : Option Addr) (m c : Nat), j ≤ 2 ∧ i = .int .i64 j ∧ a = .int .i64 r.1 ∧ b = .int .i64 (r.2.2 : Int) ∧ x = .slice A m c ∧ Hid (r = np s j) ∧ Hid (r.2.1.length = m) ∧ m ≤ c ∧ Row wr A (bv r.2.1) ∧ Sto wr B f s ∧ Below w.heap.size w wr)
    (fun _ _ _ i _ => 2 - (intOf i).toNat)
  case atStart => exact ⟨0, (-1, [], 0), none, 0, 0, Nat.zero_le _, rfl, rfl, rfl, rfl, Lib.hid rfl, Lib.hid rfl, Nat.le_refl _, Row.nil _ _, h, Below.refl _ _⟩
  case round =>
    obtain ⟨j, ⟨pa, pb, pg⟩, A, m, c, hj, rfl, rfl, rfl, rfl, HR, HM, hmc, hx, hs, hbr⟩ := hrel
    by_cases hlt : j < 2
    · have hcp := copied_any B f s wr hs j hlt
      have hnx : np s (j + 1) = if (np s j).2.2 < (cop s j).2 then ((j : Int), cop s j) else np s j := rfl
      rw [← HR.out] at hnx
      obtain ⟨⟨cb, cg⟩, hcc⟩ : ∃ r, r = cop s j := ⟨_, rfl⟩
      rw [← hcc] at hcp hnx
      simp only at hnx
      clear hcc
      by_cases hg : pg < cg
      · rw [if_pos hg] at hnx
        have HNX := Lib.hid hnx
        clear hnx
        go_wp2_with fail
        refine hcp.mono ?_
        rintro e w2 ⟨A2, m2, c2, rfl, hl2, hmc2, hx2, hb2⟩
        have HL2 := Lib.hid hl2
        have hs2 := hs.below hb2
        have hb02 := below_all hbr hb2
        clear hl2 hcp hs hbr hx
        go_wp2_with fail
        go_roundw
        case rel => exact ⟨j + 1, ((j : Int), cb, cg), A2, m2, c2, by omega, by go_num, rfl, rfl, rfl, Lib.hid HNX.out.symm, HL2, hmc2, hx2, hs2, hb02⟩
        case measure => simp [intOf]; omega
      · rw [if_neg hg] at hnx
        have HNX := Lib.hid hnx
        clear hnx
        go_wp2_with fail
        refine hcp.mono ?_
        rintro e w2 ⟨A2, m2, c2, rfl, hl2, hmc2, hx2, hb2⟩
        have hs2 := hs.below hb2
        have hb02 := below_all hbr hb2
        have hx2' := hx.below hb2
        clear hl2 hcp hs hbr hx hx2
        go_wp2_with fail
        go_roundw
        case rel => exact ⟨j + 1, (pa, pb, pg), A, m, c, by omega, by go_num, rfl, rfl, rfl, Lib.hid HNX.out.symm, HM, hmc, hx2', hs2, hb02⟩
        case measure => simp [intOf]; omega
    · obtain rfl : j = 2 := by omega
      go_wp2_with fail
      go_ret3
      rw [← HR.out]
      exact ⟨A, m, c, rfl, HM.out, hmc, hx, hbr⟩

def LoadPost (w : World) (r : List UInt8 × Nat × Int) (e : Ending) (w' : World) : Prop :=
  ∃ A m c, e = .returned (.tuple #[.slice A m c, .int .i64 (r.2.1 : Int), .int .i64 r.2.2]) ∧ r.1.length = m ∧ m ≤ c ∧ Row w' A (bv r.1) ∧ Below w.heap.size w w'

set_option maxHeartbeats 2000000 in
theorem load_any (B : Nat) (f : Fp) (s : St) (w : World) (h : Sto w B f s) :
    Calls Try.prog 11 #[.pointer (some ⟨f.g, 0, none⟩)] w (LoadPost w (loadP s)) := by
  have hnw := newest_any B f s w h
  have hl : loadP s = if (newestP s).1 < 0 then ([], 0, 130) else ((newestP s).2.1, (newestP s).2.2, 0) := rfl
  obtain ⟨⟨pa, pb, pg⟩, hp⟩ : ∃ r, r = newestP s := ⟨_, rfl⟩
  rw [← hp] at hnw hl
  simp only at hl
  clear hp h
  by_cases ha : pa < 0
  · rw [if_pos ha] at hl
    rw [hl]
    clear hl
    go_enter Try.func11, Try.ntmps11
    go_wp2_with fail
    refine hnw.mono ?_
    rintro e w1 ⟨A, m, c, rfl, _, _, _, hb⟩
    go_wp2_with fail
    go_ret3
    exact ⟨none, 0, 0, rfl, rfl, Nat.le_refl _, Row.nil _ _, hb⟩
  · rw [if_neg ha] at hl
    rw [hl]
    clear hl
    go_enter Try.func11, Try.ntmps11
    go_wp2_with fail
    refine hnw.mono ?_
    rintro e w1 ⟨A, m, c, rfl, hm, hmc, hx, hb⟩
    have HM := Lib.hid hm
    clear hm
    go_wp2_with fail
    go_ret3
    exact ⟨A, m, c, rfl, HM.out, hmc, hx, hb⟩
end Go.Proofs.Ytbljacafmkdlmaa
