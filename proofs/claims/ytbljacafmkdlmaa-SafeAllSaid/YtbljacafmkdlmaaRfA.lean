/- pentimentoref13.Area, Copied. Conditions: a store as data; copies 0 and 1. -/
import Derived.Test.YtbljacafmkdlmaaSfA
import Derived.Test.YtbljacafmkdlmaaRfP
import Derived.Test.YtbljacafmkdlmaaRefR
import Derived.Test.YtbljacafmkdlmaaRef2
import Derived.Test.YtbljacafmkdlmaaSeqS
namespace Go.Proofs.Ytbljacafmkdlmaa
set_option maxRecDepth 100000
open Go.RowKit
set_option linter.unusedSimpArgs false
set_option linter.unusedVariables false

set_option maxHeartbeats 1000000 in
theorem rArea_any (n : Int) (w : World) (h0 : 0 ≤ n) (h1 : n ≤ 1099511627776) :
    Calls Try.prog 14 #[.int .i64 n] w fun e w' => e = .returned (.int .i64 (areaN n)) ∧ w' = w := by
  have e : (areaN n : Int) = (if n < 2 then 0 else (n - 2) / 2) := by
    unfold areaN
    split <;> omega
  have HE := Lib.hid e
  clear e
  by_cases h2 : n < 2
  · go_enter Try.func14, Try.ntmps14
    go_wp2_with fail
    go_ret
    exact ⟨ret_int (by rw [HE.out, if_pos h2]), rfl⟩
  · have h3 : 0 ≤ n - 2 := by omega
    go_enter Try.func14, Try.ntmps14
    go_wp2_with fail
    go_ret
    exact ⟨ret_int (by rw [HE.out, if_neg (by omega)]), rfl⟩

/-- A store as data, handed over. -/
abbrev sagg (s : St) (A : Option Addr) (m c : Nat) : Value := .agg #[.int .i64 s.n, .int .i64 s.room, .slice A m c, .int .i64 s.k]
theorem rRead_st {s : St} (hok : s.OK) {A : Option Addr} {m c : Nat} (hm : s.l.length = m) (hsz : m ≤ 5000000000000) (a long : Int) (hl : long ≤ 9223372036854775807) (w : World) (hr : Row w A (rcells s.l)) :
    Calls Try.prog 21 #[sagg s A m c, .int .i64 a, .int .i64 long] w fun e w' => e = .returned (.tuple #[.string (str (rdS s a long).1), .int .i64 (rdS s a long).2]) ∧ Below w.heap.size w w' :=
  rRead_any s.n s.room A m c s.k s.l a long w ⟨hok.n0, hok.n1⟩ hm hr (by omega) (fun x hx => (hok.w x hx).2.2) hl

def RCopPost (w : World) (r : List UInt8 × Nat) (e : Ending) (w' : World) : Prop := e = .returned (.tuple #[.string (str r.1), .int .i64 (r.2 : Int)]) ∧ Below w.heap.size w w'

set_option maxHeartbeats 2000000 in
theorem rCopied_none {s : St} (hok : s.OK) {A : Option Addr} {m c : Nat} (hm : s.l.length = m) (hsz : m ≤ 5000000000000) (k : Nat) (hk : k < 2) (w : World) (hr : Row w A (rcells s.l)) (hno : opened (markB s k) = none) :
    Calls Try.prog 35 #[sagg s A m c, .int .i64 k] w (RCopPost w (cop s k)) := by
  have hc : cop s k = ([], 0) := by unfold cop; rw [hno]
  rw [hc]
  have hb0 : Below w.heap.size w (w.alloc (.cells #[.int .i64 s.n, .int .i64 s.room, .slice A m c, .int .i64 s.k] 27)) := (Below.refl _ w).alloc (Nat.le_refl _) _
  have hrd := rRead_st hok hm hsz k 1 (by omega) (c := c) _ (hr.alloc (.cells #[.int .i64 s.n, .int .i64 s.room, .slice A m c, .int .i64 s.k] 27))
  have hml : (markB s k).length ≤ 16 := by
    by_cases h : (k : Int) < s.n
    · rw [markB_in h, sect_len' (fun y hy => (hok.w y hy).2.2)]
      exact Nat.le_refl _
    · have : markB s k = [] := by
        unfold markB rdS
        have hi : insideB s.n (k : Int) 1 = false := by
          cases hb : insideB s.n (k : Int) 1 with
          | false => rfl
          | true => have := insideB_of hb; omega
        rw [if_neg (by omega), if_pos hi]
      rw [this]
      exact Nat.zero_le _
  unfold markB at hno hml
  obtain ⟨⟨M, er⟩, hM⟩ : ∃ r, r = rdS s k 1 := ⟨_, rfl⟩
  rw [← hM] at hrd hno hml
  simp only at hrd hno hml
  have hop := fun u => rOpen_any M u (by omega)
  rw [hno] at hop
  have HOP := Lib.hid hop
  obtain ⟨sn, sr, sl, sk⟩ := s
  simp only at hrd hb0
  clear hM hno hc hop hm hok hr hml
  go_enter Try.func35, Try.ntmps35
  go_wp2_with fail
  refine hrd.mono ?_
  rintro e w1 ⟨rfl, hb1⟩
  have hb01 := below_all hb0 hb1
  clear hrd hb0 hb1
  go_wp2_with fail
  refine (HOP.out _).mono ?_
  rintro e w2 ⟨rfl, hb2⟩
  have hb02 := below_all hb01 hb2
  by_cases her : er = 0
  · subst her
    go_wp2_with fail
    go_ret2
    exact ⟨rfl, hb02⟩
  · go_wp2_with fail
    go_ret2
    exact ⟨rfl, hb02⟩

set_option maxHeartbeats 4000000 in
theorem rCopied_some {s : St} (hok : s.OK) {A : Option Addr} {m c : Nat} (hm : s.l.length = m) (hsz : m ≤ 5000000000000) (k : Nat) (kk : Int) (hkk : (k = 0 ∧ kk = 0) ∨ (k = 1 ∧ kk = 1)) (w : World) (hr : Row w A (rcells s.l)) (x : List UInt8) (hyes : opened (markB s k) = some x) :
    Calls Try.prog 35 #[sagg s A m c, .int .i64 kk] w (RCopPost w (cop s k)) := by
  have hk : k < 2 := by omega
  obtain ⟨her, hml, hxl, hkn⟩ := mark_some hok hyes
  have hbl := body_length hok hk
  have hc : cop s k = copOf s.n (bodyB s k) x := by unfold cop; rw [hyes]
  have hn0 := hok.n0
  have hn1 := hok.n1
  have ha5 : areaN s.n ≤ 2047 := by unfold areaN; omega
  have hrd := fun u (hu : Row u A (rcells s.l)) => rRead_st hok hm hsz kk 1 (by omega) (c := c) u hu
  have e1 : rdS s kk 1 = (markB s k, 0) := by rw [show kk = (k : Int) by omega]; exact Prod.ext rfl her
  rw [e1] at hrd
  have har := fun u => rArea_any s.n u hn0 (by omega)
  obtain ⟨oo, hoo⟩ : ∃ oo : Int, oo = ((2 + k * areaN s.n : Nat) : Int) := ⟨_, rfl⟩
  have hrd2 := fun u (hu : Row u A (rcells s.l)) => rRead_st hok hm hsz oo (areaN s.n : Int) (by omega) (c := c) u hu
  obtain ⟨er2, he2⟩ : ∃ er2, er2 = (rdS s oo (areaN s.n : Int)).2 := ⟨_, rfl⟩
  have e2 : rdS s oo (areaN s.n : Int) = (bodyB s k, er2) := by rw [hoo] at he2 ⊢; exact Prod.ext rfl he2.symm
  rw [e2] at hrd2
  simp only at hrd2 hrd
  have hoo2 : (kk = 0 → oo = 2) ∧ (kk = 1 → oo = 2 + (areaN s.n : Int)) := by
    rw [hoo]
    constructor
    · intro hq; obtain rfl : k = 0 := by omega
      omega
    · intro hq; obtain rfl : k = 1 := by omega
      omega
  have hop := fun u => rOpen_any (markB s k) u (by omega)
  have hob : openedB (markB s k) = x := by unfold openedB; rw [hyes]; rfl
  rw [hob, hyes] at hop
  clear e1 e2 hoo he2 her hkn hob hyes
  obtain ⟨a, ha⟩ : ∃ a, a = areaN s.n := ⟨_, rfl⟩
  unfold copOf at hc
  rw [← ha] at hbl hc ha5 har hrd2 hoo2
  obtain ⟨bd, hbd⟩ : ∃ bd, bd = bodyB s k := ⟨_, rfl⟩
  rw [← hbd] at hbl hc hrd2
  obtain ⟨M, hM⟩ : ∃ M, M = markB s k := ⟨_, rfl⟩
  rw [← hM] at hml hrd hop
  have hx12 : x.drop 12 = [] := by rw [List.drop_eq_nil_iff]; omega
  have hx1 : nm x 0 4 = (x.drop 4, 0, u4 x 0) := by rw [nm4 (by omega)]; rfl
  have hx2 : nm (x.drop 4) 0 4 = (x.drop 8, 0, u4 x 1) := by rw [nm4 (by rw [List.length_drop]; omega), List.drop_drop]; rfl
  have hx3 : nm (x.drop 8) 0 4 = ([], 0, u4 x 2) := by rw [nm4 (by rw [List.length_drop]; omega), List.drop_drop, hx12]; rfl
  have hg4 := u4_lt x 0
  have hl4 := u4_lt x 1
  have hc4 := u4_lt x 2
  obtain ⟨G, hG⟩ : ∃ G, G = u4 x 0 := ⟨_, rfl⟩
  obtain ⟨L, hL⟩ : ∃ L, L = u4 x 1 := ⟨_, rfl⟩
  obtain ⟨C, hC⟩ : ∃ C, C = u4 x 2 := ⟨_, rfl⟩
  rw [← hG] at hc hg4 hx1
  rw [← hL] at hc hl4 hx2
  rw [← hC] at hc hc4 hx3
  obtain ⟨r, hrr⟩ : ∃ r, r = cop s k := ⟨_, rfl⟩
  rw [← hrr] at hc ⊢
  have hn1' := fun u => rReadNum_any x 0 4 u (by omega)
  have hn2' := fun u => rReadNum_any (x.drop 4) 0 4 u (by rw [List.length_drop]; omega)
  have hn3' := fun u => rReadNum_any (x.drop 8) 0 4 u (by rw [List.length_drop]; omega)
  simp only [hx1] at hn1'
  simp only [hx2] at hn2'
  simp only [hx3] at hn3'
  have hs0 : (str []).size = 0 := str_size []
  have hsb : (str bd).size = 16 * a := by rw [str_size, hbl]
  have hof : L ≤ 16 * a → ∀ u, Calls Try.prog 47 #[.string ((str bd).extract 0 L)] u fun e w' => e = .returned (.int .i64 (adler (bd.take L) : Int)) ∧ u = w' := fun hL u => by
    rw [str_front]
    exact rOf_any (bd.take L) u (by rw [List.length_take]; omega)
  have hfr : (str bd).extract 0 L = str (bd.take L) := str_front _ _
  have had := adler_lt (bd.take L)
  obtain ⟨ad, had'⟩ : ∃ ad, ad = adler (bd.take L) := ⟨_, rfl⟩
  rw [← had'] at hof had hc
  have HC := Lib.hid hc
  have HFR := Lib.hid hfr
  have HOF := Lib.hid hof
  have HRD := Lib.hid hrd
  have HRD2 := Lib.hid hrd2
  have HOP := Lib.hid hop
  have HAR := Lib.hid har
  have HN1 := Lib.hid hn1'
  have HN2 := Lib.hid hn2'
  have HN3 := Lib.hid hn3'
  obtain ⟨hoo0, hoo1⟩ := hoo2
  have HOO0 := Lib.hid hoo0
  have HOO1 := Lib.hid hoo1
  obtain ⟨sn, sr, sl, sk⟩ := s
  simp only at HRD HRD2 HAR hn0 hn1 hr
  have hb0 : Below w.heap.size w (w.alloc (.cells #[.int .i64 sn, .int .i64 sr, .slice A m c, .int .i64 sk] 27)) := (Below.refl _ w).alloc (Nat.le_refl _) _
  have hr0 := hr.alloc (.cells #[.int .i64 sn, .int .i64 sr, .slice A m c, .int .i64 sk] 27)
  have hG0 := Blk.new w 27 #[.int .i64 sn, .int .i64 sr, .slice A m c, .int .i64 sk]
  obtain ⟨g0, hg0⟩ : ∃ g0, g0 = w.heap.size := ⟨_, rfl⟩
  rw [← hg0] at hG0
  obtain ⟨w0, hw0⟩ : ∃ w0, w0 = w.alloc (.cells #[.int .i64 sn, .int .i64 sr, .slice A m c, .int .i64 sk] 27) := ⟨_, rfl⟩
  have hB0 : Below w0.heap.size w0 w0 := Below.refl _ _
  rw [← hw0] at hb0 hr0 hG0
  have HW0 := Lib.hid hw0
  have HG0 := Lib.hid hg0
  clear hc hbl hml hxl hx1 hx2 hx3 hx12 har hrd hrd2 hop hoo0 hoo1 hn1' hn2' hn3' hG hL hC hM hbd ha hrr hof hfr had' hr hok hm hk hg0 hw0
  go_enter Try.func35, Try.ntmps35
  obtain ⟨⟨c0, c1, c2, c3⟩, _⟩ := hG0.four
  go_upto_region 1 with fail
  rw [← HW0.out, ← HG0.out]
  clear HW0
  go_wp2_with fail
  refine (HRD.out _ hr0).mono ?_
  rintro e w1 ⟨rfl, hb1⟩
  have hB1 := below_all hB0 hb1
  clear hb1 hB0 c0 c1 c2 c3
  go_wp2_with fail
  refine (HOP.out _).mono ?_
  rintro e w2 ⟨rfl, hb2⟩
  have hB2 := below_all hB1 hb2
  clear hB1 hb2
  go_wp2_with fail
  refine (HN1.out _).mono ?_
  rintro e w3 ⟨rfl, hb3⟩
  have hB3 := below_all hB2 hb3
  have hgw := hB3.size
  have hR3 := Blk.new w3 121 #[.string (str (List.drop 4 x)), .int .i64 0]
  have hB3' := hB3.alloc hB3.size (.cells #[.string (str (List.drop 4 x)), .int .i64 0] 121)
  obtain ⟨gr, hgr⟩ : ∃ gr, gr = w3.heap.size := ⟨_, rfl⟩
  rw [← hgr] at hR3 hgw
  obtain ⟨w4, hw4⟩ : ∃ w4, w4 = w3.alloc (.cells #[.string (str (List.drop 4 x)), .int .i64 0] 121) := ⟨_, rfl⟩
  rw [← hw4] at hR3 hB3'
  have HW4 := Lib.hid hw4
  have HGR := Lib.hid hgr
  clear hB2 hb3 hB3 hw4 hgr
  go_upto_region 6 with fail
  rw [← HW4.out, ← HGR.out]
  clear HW4
  obtain ⟨q1, q2, q3, q4, q5⟩ := hR3.two
  go_wp2_with fail
  refine (HN2.out _).mono ?_
  rintro e w5 ⟨rfl, hb5⟩
  have hB5 := below_all hB3' hb5
  have hR5 := hR3.belowAll hb5
  clear hB3' hb5 hR3 q1 q2 q3 q4 q5
  obtain ⟨q1, q2, q3, q4, q5⟩ := hR5.two
  have hR6 : Blk ((w5.setCell ⟨gr, 0, none⟩ (.string (str (List.drop 8 x)))).setCell ⟨gr, 1, none⟩ (.int .i64 0)) gr 121 #[.string (str (List.drop 8 x)), .int .i64 0] := (hR5.set_ 0 _).set_ 1 _
  have hB6 := (hB5.setCell (p := ⟨gr, 0, none⟩) hgw (.string (str (List.drop 8 x)))).setCell (p := ⟨gr, 1, none⟩) hgw (.int .i64 0)
  obtain ⟨w6, hw6⟩ : ∃ w6, w6 = (w5.setCell ⟨gr, 0, none⟩ (.string (str (List.drop 8 x)))).setCell ⟨gr, 1, none⟩ (.int .i64 0) := ⟨_, rfl⟩
  rw [← hw6] at hR6 hB6
  have HW6 := Lib.hid hw6
  clear hw6 hB5 hR5
  go_upto_region 7 with fail
  rw [← HW6.out]
  clear HW6 q1 q2 q3 q4 q5
  obtain ⟨q1, q2, q3, q4, q5⟩ := hR6.two
  go_wp2_with fail
  refine (HN3.out _).mono ?_
  rintro e w7 ⟨rfl, hb7⟩
  have hB7 := below_all hB6 hb7
  have hR7 := hR6.belowAll hb7
  clear hB6 hb7 hR6 q1 q2 q3 q4 q5
  obtain ⟨q1, q2, q3, q4, q5⟩ := hR7.two
  have hR8 : Blk ((w7.setCell ⟨gr, 0, none⟩ (.string (str []))).setCell ⟨gr, 1, none⟩ (.int .i64 0)) gr 121 #[.string (str []), .int .i64 0] := (hR7.set_ 0 _).set_ 1 _
  have hB8 := (hB7.setCell (p := ⟨gr, 0, none⟩) hgw (.string (str []))).setCell (p := ⟨gr, 1, none⟩) hgw (.int .i64 0)
  obtain ⟨w8, hw8⟩ : ∃ w8, w8 = (w7.setCell ⟨gr, 0, none⟩ (.string (str []))).setCell ⟨gr, 1, none⟩ (.int .i64 0) := ⟨_, rfl⟩
  rw [← hw8] at hR8 hB8
  have HW8 := Lib.hid hw8
  clear hw8 hB7 hR7
  go_upto_region 8 with fail
  rw [← HW8.out]
  clear HW8 q1 q2 q3 q4 q5
  have hb8 : Below w.heap.size w w8 := hb0.trans (hB8.mono hb0.size)
  have hG8 := hG0.belowAll hB8
  have hr8 := hr0.below hB8
  obtain ⟨⟨c0, c1, c2, c3⟩, _⟩ := hG8.four
  obtain ⟨q1, q2, q3, q4, q5⟩ := hR8.two
  clear hb0 hG0 hr0 hB8
  by_cases hG1 : G < 1
  · have HR := Lib.hid (show r = ([], 0) by rw [HC.out, if_pos (.inl hG1)])
    go_wp2_with fail
    go_ret2
    exact ⟨by rw [HR.out]; rfl, hb8⟩
  by_cases hG2 : 1073741824 < G
  · have HR := Lib.hid (show r = ([], 0) by rw [HC.out, if_pos (.inr (.inl hG2))])
    go_wp2_with fail
    go_ret2
    exact ⟨by rw [HR.out]; rfl, hb8⟩
  go_wp2_with fail
  refine (HAR.out _).mono ?_
  rintro e w9 ⟨rfl, rfl⟩
  by_cases hL1 : 16 * a < L
  · have HR := Lib.hid (show r = ([], 0) by rw [HC.out, if_pos (.inr (.inr hL1))])
    go_wp2_with fail
    go_ret2
    exact ⟨by rw [HR.out]; rfl, hb8⟩
  have hcif : r = if ad ≠ C then ([], 0) else (bd.take L, G) := by rw [HC.out, if_neg (by omega)]
  have HCIF := Lib.hid hcif
  have hL2 : L ≤ 16 * a := by omega
  clear hcif
  rcases hkk with ⟨rfl, rfl⟩ | ⟨rfl, rfl⟩
  · obtain rfl : oo = 2 := HOO0.out rfl
    have hGd := hG8.drew
    have hrd := hr8.drew
    obtain ⟨q1, q2, q3, q4, q5⟩ := hR8.drew.two
    have hb9 := hb8.drew
    obtain ⟨⟨c0, c1, c2, c3⟩, _⟩ := hGd.four
    go_wp2_with fail
    refine wp_region_seq true (.take 0 .load (.take 1 .copy (.take 2 .addr (.take 3 .load (.take 7 .addr (.take 8 .load (.alone 4 (.take 5 .int2 (.take 6 .int2 (.alone 9 (.alone 10 (.take 11 .copy (.take 12 .copy (.take 13 .copy (.take 14 .copy (.take 15 .copy .fin)))))))))))))))) (by kernel_rfl) (by kernel_rfl) (by kernel_rfl) ?_
    simp only [pre, nxt, List.getElem?_toArray, List.getElem?_cons_zero, List.getElem?_cons_succ, opAt, ghosts, List.nil_append, gInt, ghost, List.cons_append]
    go_wp2_with fail
    refine (HAR.out _).mono ?_
    rintro e w10 ⟨rfl, rfl⟩
    go_wp2_with fail
    refine next_keep (Keep.refl _) ?_
    go_wp2_with fail
    refine (HAR.out _).mono ?_
    rintro e w11 ⟨rfl, rfl⟩
    go_wp2_with fail
    refine next_keep (Keep.refl _) ?_
    go_wp2_with fail
    refine (HRD2.out _ hrd).mono ?_
    rintro e w12 ⟨rfl, hb12⟩
    have hb012 := below_all hb9 hb12
    obtain ⟨z1, z2, z3, z4, z5⟩ := (hR8.drew.belowAll hb12).two
    go_wp2_with fail
    refine next_keep (Keep.below hb12) ?_
    go_wp2_with fail
    refine ends_normal ?_
    have hof := HOF.out hL2
    go_wp2_with fail
    refine (hof _).mono ?_
    rintro e w13 ⟨rfl, rfl⟩
    by_cases hq : ad = C
    · have HR := Lib.hid (show r = (bd.take L, G) by rw [HCIF.out, if_neg (fun hn => hn hq)])
      subst hq
      have hfr := HFR.out
      go_wp2_with fail
      go_ret2
      exact ⟨by rw [HR.out]; rfl, hb012⟩
    · have HR := Lib.hid (show r = ([], 0) by rw [HCIF.out, if_pos hq])
      have hq1 : ¬ (ad : Int) = (C : Int) := by omega
      go_wp2_with fail
      go_ret2
      exact ⟨by rw [HR.out]; rfl, hb012⟩
  · obtain rfl : oo = 2 + (a : Int) := HOO1.out rfl
    have hGd := hG8.drew
    have hrd := hr8.drew
    obtain ⟨q1, q2, q3, q4, q5⟩ := hR8.drew.two
    have hb9 := hb8.drew
    obtain ⟨⟨c0, c1, c2, c3⟩, _⟩ := hGd.four
    go_wp2_with fail
    refine wp_region_seq true (.take 0 .load (.take 1 .copy (.take 2 .addr (.take 3 .load (.take 7 .addr (.take 8 .load (.alone 4 (.take 5 .int2 (.take 6 .int2 (.alone 9 (.alone 10 (.take 11 .copy (.take 12 .copy (.take 13 .copy (.take 14 .copy (.take 15 .copy .fin)))))))))))))))) (by kernel_rfl) (by kernel_rfl) (by kernel_rfl) ?_
    simp only [pre, nxt, List.getElem?_toArray, List.getElem?_cons_zero, List.getElem?_cons_succ, opAt, ghosts, List.nil_append, gInt, ghost, List.cons_append]
    go_wp2_with fail
    refine (HAR.out _).mono ?_
    rintro e w10 ⟨rfl, rfl⟩
    go_wp2_with fail
    refine next_keep (Keep.refl _) ?_
    go_wp2_with fail
    refine (HAR.out _).mono ?_
    rintro e w11 ⟨rfl, rfl⟩
    go_wp2_with fail
    refine next_keep (Keep.refl _) ?_
    go_wp2_with fail
    refine (HRD2.out _ hrd).mono ?_
    rintro e w12 ⟨rfl, hb12⟩
    have hb012 := below_all hb9 hb12
    obtain ⟨z1, z2, z3, z4, z5⟩ := (hR8.drew.belowAll hb12).two
    go_wp2_with fail
    refine next_keep (Keep.below hb12) ?_
    go_wp2_with fail
    refine ends_normal ?_
    have hof := HOF.out hL2
    go_wp2_with fail
    refine (hof _).mono ?_
    rintro e w13 ⟨rfl, rfl⟩
    by_cases hq : ad = C
    · have HR := Lib.hid (show r = (bd.take L, G) by rw [HCIF.out, if_neg (fun hn => hn hq)])
      subst hq
      have hfr := HFR.out
      go_wp2_with fail
      go_ret2
      exact ⟨by rw [HR.out]; rfl, hb012⟩
    · have HR := Lib.hid (show r = ([], 0) by rw [HCIF.out, if_pos hq])
      have hq1 : ¬ (ad : Int) = (C : Int) := by omega
      go_wp2_with fail
      go_ret2
      exact ⟨by rw [HR.out]; rfl, hb012⟩

theorem rCopied_any {s : St} (hok : s.OK) {A : Option Addr} {m c : Nat} (hm : s.l.length = m) (hsz : m ≤ 5000000000000) (k : Nat) (hk : k < 2) (w : World) (hr : Row w A (rcells s.l)) :
    Calls Try.prog 35 #[sagg s A m c, .int .i64 k] w (RCopPost w (cop s k)) := by
  cases hx : opened (markB s k) with
  | none => exact rCopied_none hok hm hsz k hk w hr hx
  | some x => exact rCopied_some hok hm hsz k (k : Int) (by omega) w hr x hx

def RLoadPost (w : World) (r : List UInt8 × Nat × Int) (e : Ending) (w' : World) : Prop := e = .returned (.tuple #[.string (str r.1), .int .i64 (r.2.1 : Int), .int .i64 r.2.2]) ∧ Below w.heap.size w w'

set_option maxHeartbeats 2000000 in
theorem rLoad_any {s : St} (hok : s.OK) {A : Option Addr} {m c : Nat} (hm : s.l.length = m) (hsz : m ≤ 5000000000000) (w : World) (hr : Row w A (rcells s.l)) :
    Calls Try.prog 12 #[sagg s A m c] w (RLoadPost w (loadP s)) := by
  have h0 := fun u (hu : Row u A (rcells s.l)) => rCopied_any hok hm hsz 0 (by omega) (c := c) u hu
  have h1 := fun u (hu : Row u A (rcells s.l)) => rCopied_any hok hm hsz 1 (by omega) (c := c) u hu
  have hl := loadP_ref s
  obtain ⟨⟨b0, m0⟩, he0⟩ : ∃ r, r = cop s 0 := ⟨_, rfl⟩
  obtain ⟨⟨b1, m1⟩, he1⟩ : ∃ r, r = cop s 1 := ⟨_, rfl⟩
  obtain ⟨r, hrr⟩ : ∃ r, r = loadP s := ⟨_, rfl⟩
  rw [← hrr] at hl ⊢
  rw [← he0, ← he1] at hl
  simp only [← he0] at h0
  simp only [← he1] at h1
  simp only at hl
  have HL := Lib.hid hl
  have H0 := Lib.hid h0
  have H1 := Lib.hid h1
  obtain ⟨sn, sr, sl, sk⟩ := s
  simp only at hr H0 H1
  have hb0 : Below w.heap.size w (w.alloc (.cells #[.int .i64 sn, .int .i64 sr, .slice A m c, .int .i64 sk] 27)) := (Below.refl _ w).alloc (Nat.le_refl _) _
  have hr0 := hr.alloc (.cells #[.int .i64 sn, .int .i64 sr, .slice A m c, .int .i64 sk] 27)
  have hG0 := Blk.new w 27 #[.int .i64 sn, .int .i64 sr, .slice A m c, .int .i64 sk]
  clear hl h0 h1 he0 he1 hrr hr hok hm
  go_enter Try.func12, Try.ntmps12
  go_wp2_with fail
  refine (H0.out _ hr0).mono ?_
  rintro e w1 ⟨rfl, hb1⟩
  have hb01 := below_all hb0 hb1
  have hr1 := hr0.below hb1
  have hG1 := hG0.belowAll hb1
  clear hb1 hr0 hG0 hb0
  obtain ⟨⟨c0, c1, c2, c3⟩, _⟩ := hG1.four
  go_wp2_with fail
  refine (H1.out _ hr1).mono ?_
  rintro e w2 ⟨rfl, hb2⟩
  have hb02 := below_all hb01 hb2
  clear hb2 hr1 hG1 hb01 c0 c1 c2 c3
  by_cases hz0 : m0 = 0
  · by_cases hz1 : m1 = 0
    · have HR := Lib.hid (show r = ([], 0, 130) by rw [HL.out, if_pos ⟨hz0, hz1⟩])
      clear HL
      subst hz0 hz1
      go_wp2_with fail
      go_ret3
      exact ⟨by rw [HR.out]; rfl, hb02⟩
    · have HR := Lib.hid (show r = (b1, m1, 0) by rw [HL.out, if_neg (fun h => hz1 h.2), if_neg (by omega)])
      clear HL
      subst hz0
      have hz2 : ¬ (m1 : Int) = 0 := by omega
      go_wp2_with fail
      go_ret3
      exact ⟨by rw [HR.out]; rfl, hb02⟩
  · have hz2 : ¬ (m0 : Int) = 0 := by omega
    by_cases hge : m1 ≤ m0
    · have HR := Lib.hid (show r = (b0, m0, 0) by rw [HL.out, if_neg (fun h => hz0 h.1), if_pos hge])
      clear HL
      go_wp2_with fail
      go_ret3
      exact ⟨by rw [HR.out]; rfl, hb02⟩
    · have HR := Lib.hid (show r = (b1, m1, 0) by rw [HL.out, if_neg (fun h => hz0 h.1), if_neg hge])
      clear HL
      go_wp2_with fail
      go_ret3
      exact ⟨by rw [HR.out]; rfl, hb02⟩
end Go.Proofs.Ytbljacafmkdlmaa
