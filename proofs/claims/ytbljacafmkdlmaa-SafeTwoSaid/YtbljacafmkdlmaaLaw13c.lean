/- The law SafeTwo. Condition: the lengths fit memory. -/
import Derived.Test.YtbljacafmkdlmaaAl13
namespace Go.Proofs.Ytbljacafmkdlmaa
set_option maxRecDepth 100000
open Go.RowKit
set_option linter.unusedSimpArgs false
set_option linter.unusedVariables false

theorem two_facts (a b : List UInt8) (ha : a.length ≤ 200) (hb : b.length ≤ 200) : ∃ oa ob s1 s2, beginP ⟨60, 1000, [], 0⟩ a = (oa, 0) ∧ beginP ⟨60, 1000, [], 0⟩ b = (ob, 0) ∧ oa.length ≤ 2051 ∧ ob.length ≤ 2051 ∧ exec oa ⟨60, 1000, [], 0⟩ = (s1, 0) ∧ exec ob s1 = (s2, 0) ∧ loadP s2 = (b, 1, 0) := by
  have h0 : St.OK ⟨60, 1000, [], 0⟩ := St.OK.new (by omega) (by omega) (by omega)
  have ha9 : areaN 60 = 29 := by decide
  have hnw := newest_new 60 1000 (by omega)
  have hko : kOf ⟨60, 1000, [], 0⟩ = 0 := by unfold kOf; rw [hnw]; rfl
  have hbg : ∀ x : List UInt8, x.length ≤ 200 → beginP ⟨60, 1000, [], 0⟩ x = (opsOf 60 0 1 x, 0) := fun x hx => by
    unfold beginP
    rw [if_neg (by rw [ha9]; omega), hnw, if_neg (by decide), hko]
  have hla := ops_len h0 a
  have hlb := ops_len h0 b
  rw [hbg a ha] at hla
  rw [hbg b hb] at hlb
  obtain ⟨p1, p2, p3, p4, p5, p6, _⟩ := save_run h0 a 0 1 (by omega) (by decide) (by rw [ha9]; omega) (by omega)
  have hok1 := exec_ok h0 (opsOf 60 0 1 a)
  simp only at p1 p2 p3 p4 p5 p6
  obtain ⟨⟨s1, e1⟩, hs1⟩ : ∃ r, r = exec (opsOf 60 0 1 a) ⟨60, 1000, [], 0⟩ := ⟨_, rfl⟩
  rw [← hs1] at p1 p2 p3 p4 p5 p6 hok1
  simp only at p1 p2 p3 p4 p5 p6 hok1
  have he1 : e1 = 0 := p4 (by decide)
  subst he1
  obtain ⟨q1, q2, q3, q4, q5, q6, _⟩ := save_run hok1 b 0 1 (by omega) (by omega) (by rw [p1, ha9]; omega) (by omega)
  rw [p1] at q3 q4 q5 q6
  obtain ⟨⟨s2, e2⟩, hs2⟩ : ∃ r, r = exec (opsOf 60 0 1 b) s1 := ⟨_, rfl⟩
  rw [← hs2] at q3 q4 q5 q6
  simp only at q3 q4 q5 q6
  have he2 : e2 = 0 := q4 (by rw [p2]; decide)
  subst he2
  refine ⟨_, _, s1, s2, hbg a ha, hbg b hb, hla, hlb, hs1.symm, hs2.symm, loadP_of (k := 0) (newest_of (k := 0) (by omega) (q6 rfl) ?_)⟩
  have : cop s2 (1 - 0) = ([], 0) := by rw [q5, p5]; exact cop_new 60 1000 1 (by decide)
  rw [this]
  exact (by decide : (0 : Nat) < 1)

/-- A saver beside another that does a step. -/
theorem Sv.other {w w' : World} {B : Nat} {f : Fp} {s : St} {gv g2 sg : Nat} {l l2 : List SOp} {e e2 : Int} {sg1 : Nat} (h : Sv w g2 sg l2 e2) (hs : Sto w B f s) (hv : Sv w gv sg1 l e) (hne : g2 ≠ gv) (ho : Only w w' (fun k => Foot f k ∨ k = gv)) : Sv w' g2 sg l2 e2 := by
  have h' := h
  obtain ⟨A, c, vs, hb, _⟩ := h'
  obtain ⟨A', c', vs', hb', _⟩ := hv
  refine h.only ho (fun k hk => ?_) (fun hk => ?_) (fun k cur lh hk e => ?_)
  · rcases hk with hk | rfl
    · exact hs.far4 k hk
    · exact hb'.far4 (by decide)
  · rcases hk with hk | hk
    · exact hs.not_of hb (by decide) (by decide) hk
    · exact hne hk
  · rcases hk with hk | rfl
    · rcases hs.types hk e with e | e
      · exact absurd e (by decide)
      · exact absurd e (by decide)
    · unfold Blk at hb'
      rw [hb'] at e
      injection e with e
      injection e with _ e
      exact absurd e (by decide)

set_option maxHeartbeats 4000000 in
theorem two_law (A : Option Addr) (na ca : Nat) (a : List UInt8) (Bb : Option Addr) (nb cb : Nat) (b : List UInt8) (w : World) (hna : a.length = na) (hra : Row w A (bv a)) (hac : na ≤ ca) (ha47 : na ≤ 140737488355328) (hnb : b.length = nb) (hrb : Row w Bb (bv b)) (hbc : nb ≤ cb) (hb47 : nb ≤ 140737488355328) :
    Calls Try.prog 6 #[.slice A na ca, .slice Bb nb cb] w fun e w' => e = .returned (.bool true) ∧ Below w.heap.size w w' := by
  have HNA := Lib.hid hna
  have HNB := Lib.hid hnb
  clear hna hnb
  go_enter Try.func6, Try.ntmps6
  go_wp2_with fail
  refine (new_yes 60 1000 w (by omega)).mono ?_
  rintro e w1 ⟨f, rfl, hs1, hb1⟩
  by_cases hla : 200 < na
  · go_wp2_with fail
    refine (alive_any _).mono ?_
    rintro e w3 ⟨rfl, hb3⟩
    go_wp2_with fail
    go_ret
    exact ⟨rfl, below_all hb1 hb3⟩
  have hla1 : decide (200 < (na : Int)) = false := decide_eq_false (by omega)
  have hla2 : decide (200 < na) = false := decide_eq_false hla
  have hla3 : na ≤ 200 := by omega
  have HLA3 := Lib.hid hla3
  clear hla hla3
  by_cases hlb : 200 < nb
  · go_wp2_with fail
    refine (alive_any _).mono ?_
    rintro e w3 ⟨rfl, hb3⟩
    go_wp2_with fail
    go_ret
    exact ⟨rfl, below_all hb1 hb3⟩
  have hlb1 : decide (200 < (nb : Int)) = false := decide_eq_false (by omega)
  have hlb2 : decide (200 < nb) = false := decide_eq_false hlb
  have hlb3 : nb ≤ 200 := by omega
  have HLB3 := Lib.hid hlb3
  clear hlb hlb3
  obtain ⟨oa, ob, s1, s2, q1, q2, q3, q4, q5, q6, q7⟩ := two_facts a b (by rw [HNA.out]; exact HLA3.out) (by rw [HNB.out]; exact HLB3.out)
  have hbg1 := begin_any w.heap.size f _ w1 hs1 A na ca a HNA.out hac (hra.below hb1) ha47
  rw [q1] at hbg1
  have hbg2 := fun u (hu : Sto u w.heap.size f ⟨60, 1000, [], 0⟩) (hr : Row u Bb (bv b)) => begin_any w.heap.size f _ u hu Bb nb cb b HNB.out hbc hr hb47
  rw [q2] at hbg2
  have HBG2 := Lib.hid hbg2
  have Q5 := Lib.hid q5
  have Q6 := Lib.hid q6
  have Q7 := Lib.hid q7
  obtain ⟨na', hna'⟩ : ∃ n, n = oa.length := ⟨_, rfl⟩
  obtain ⟨nb', hnb'⟩ : ∃ n, n = ob.length := ⟨_, rfl⟩
  rw [← hna'] at q3
  rw [← hnb'] at q4
  have HOA := Lib.hid hna'
  have HOB := Lib.hid hnb'
  clear q1 q2 q5 q6 q7 hbg2 hna' hnb'
  go_wp2_with fail
  refine hbg1.mono ?_
  rintro e w2 ⟨hb2, ⟨_, gv, rfl, hv2, hgv⟩ | ⟨h0, _⟩⟩
  rotate_left
  · exact absurd rfl h0
  simp only at hv2
  have hgv0 : w.heap.size ≤ gv := Nat.le_trans hb1.size hgv
  have hs2 := hs1.below hb2
  have hb02 := below_all hb1 hb2
  clear hbg1 hs1 hb1 hb2
  go_wp2_with fail
  refine (HBG2.out _ hs2 (hrb.below hb02)).mono ?_
  rintro e w3 ⟨hb3, ⟨_, gw, rfl, hv3, hgw⟩ | ⟨h0, _⟩⟩
  rotate_left
  · exact absurd rfl h0
  simp only at hv3
  have hne : gw ≠ gv := by have := hv2.lt; omega
  have hv23 := hv2.below hb3
  have hs3 := hs2.below hb3
  have hb03 := below_all hb02 hb3
  have hgw0 : w.heap.size ≤ gw := by have := hb02.size; omega
  have ht3 : Turned w3 w3 f f := Turned.refl _ _
  have hvl := vleft_any gv f.g oa 0 w3 hv23
  rw [← HOA.out] at hvl
  clear hs2 hb02 hb3 hv2 HBG2 hla1 hla2 hlb1 hlb2 hgv hgw
  have HNE := Lib.hid hne
  clear hne
  go_wp2_with fail
  refine hvl.mono ?_
  rintro e w4 ⟨rfl, rfl⟩
  clear hvl ht3
  go_wp2_with fail
  go_loopw [71] (fun i wr => ∃ (j : Nat) (t : St × List SOp × Int) (f' : Fp), j ≤ na' ∧ i = .int .i64 j ∧ Hid (t = stepsV j (⟨60, 1000, [], 0⟩, oa, 0)) ∧ Sto wr w.heap.size f' t.1 ∧ Sv wr gv f'.g t.2.1 t.2.2 ∧ Sv wr gw f'.g ob 0 ∧ Below w.heap.size w wr ∧ f'.g = f.g ∧ t.1.l.length ≤ 0 + 4096 * j)
    (fun i _ => na' - (intOf i).toNat)
  case atStart => exact ⟨0, (⟨60, 1000, [], 0⟩, oa, 0), f, Nat.zero_le _, rfl, Lib.hid rfl, hs3, hv23, hv3, hb03, rfl, by simp⟩
  case round =>
    obtain ⟨j, t, f', hj, rfl, HT, hs, hv, hvo, hbr, hfg, htl⟩ := hrel
    clear hs3 hv23 hb03 hv3
    by_cases hlt : j < na'
    · have hst := vstep_any w.heap.size f' t.1 gv t.2.1 t.2.2 wr hs hv (by omega)
      have hnx : stepV t = stepsV (j + 1) (⟨60, 1000, [], 0⟩, oa, 0) := by rw [HT.out]; rfl
      have htl2 : (stepV t).1.l.length ≤ 0 + 4096 * (j + 1) := Nat.le_trans (stepV_len hs.ok) (by omega)
      have htt : ((t.1, t.2.1, t.2.2) : St × List SOp × Int) = t := rfl
      rw [htt] at hst
      obtain ⟨t2, ht2⟩ : ∃ t2, t2 = stepV t := ⟨_, rfl⟩
      obtain ⟨d2, hd2⟩ : ∃ d2, d2 = stepD t := ⟨_, rfl⟩
      have hst2 : Calls Try.prog 18 #[.pointer (some ⟨gv, 0, none⟩)] wr fun e w' => ∃ f2, e = .returned (.tuple #[.bool d2, .int .i64 t2.2.2]) ∧ Sto w' w.heap.size f2 t2.1 ∧ Sv w' gv f'.g t2.2.1 t2.2.2 ∧ Only wr w' (fun k => Foot f' k ∨ k = gv) ∧ (∀ k, Foot f2 k → Foot f' k ∨ wr.heap.size ≤ k) ∧ f2.g = f'.g := by
        rw [ht2, hd2]
        exact hst
      rw [← ht2] at hnx htl2
      have hnb : ∀ k, (Foot f' k ∨ k = gv) → w.heap.size ≤ k := fun k hk => by
        rcases hk with hk | rfl
        · exact (hs.foot k hk).1
        · exact hgv0
      have HNX := Lib.hid hnx
      have HFG := Lib.hid hfg
      have HNB2 := Lib.hid hnb
      have HHV := Lib.hid hv
      have HHS := Lib.hid hs
      clear hst ht2 hd2 htt hnx hfg hnb hv hs HT
      go_wp2_with fail
      refine hst2.mono ?_
      rintro e w5 ⟨f2, rfl, hs5, hv5, ho5, hgr5, hg5⟩
      have hb5 := hbr.trans (ho5.belowB HNB2.out hbr.size)
      have hvo5 := hvo.other HHS.out HHV.out HNE.out ho5
      rw [← hg5] at hvo5
      have HVO5 := Lib.hid hvo5
      clear hvo hvo5
      have HF2 := Lib.hid (hg5.trans HFG.out)
      rw [← hg5] at hv5
      have HV5 := Lib.hid hv5
      clear hst2 ho5 hgr5 hg5 hv5 hbr
      go_wp2_with fail
      go_roundw
      case rel => exact ⟨j + 1, t2, f2, by omega, by go_num, HNX, hs5, HV5.out, HVO5.out, hb5, HF2.out, htl2⟩
      case measure => simp [intOf]; omega
    · obtain rfl : j = na' := by omega
      have hall : t = ((exec oa ⟨60, 1000, [], 0⟩).1, [], (exec oa ⟨60, 1000, [], 0⟩).2) := by rw [HT.out, HOA.out]; exact stepsV_all oa _
      rw [Q5.out] at hall
      obtain ⟨f6, hf6⟩ : ∃ f6, f6 = f' := ⟨_, rfl⟩
      rw [← hf6] at hs hvo hfg
      have hs6 : Sto wr w.heap.size f6 s1 := by rw [hall] at hs; exact hs
      have htl6 : s1.l.length ≤ 8400896 + 4096 * 0 := by rw [hall] at htl; simp only at htl; omega
      have hv6 := hvo
      have hvl2 := vleft_any gw f6.g ob 0 wr hv6
      rw [← HOB.out] at hvl2
      clear HT hs hv hvo hall htl hf6
      go_wp2_with fail
      refine hvl2.mono ?_
      rintro e w7 ⟨rfl, rfl⟩
      have hbO := hbr
      have hfgO := hfg
      clear hvl2 hbr hfg
      go_wp2_with fail
      go_loopw [78] (fun i wr => ∃ (j : Nat) (t : St × List SOp × Int) (f' : Fp), j ≤ nb' ∧ i = .int .i64 j ∧ Hid (t = stepsV j (s1, ob, 0)) ∧ Sto wr w.heap.size f' t.1 ∧ Sv wr gw f'.g t.2.1 t.2.2 ∧ Below w.heap.size w wr ∧ f'.g = f.g ∧ t.1.l.length ≤ 8400896 + 4096 * j)
        (fun i _ => nb' - (intOf i).toNat)
      case atStart => exact ⟨0, (s1, ob, 0), f6, Nat.zero_le _, rfl, Lib.hid rfl, hs6, hv6, hbO, hfgO, htl6⟩
      case round =>
        obtain ⟨j, t, f', hj, rfl, HT, hs, hv, hbr, hfg, htl⟩ := hrel
        clear hs6 hv6 hbO hfgO htl6
        by_cases hlt : j < nb'
        · have hst := vstep_any w.heap.size f' t.1 gw t.2.1 t.2.2 wr hs hv (by omega)
          have hnx : stepV t = stepsV (j + 1) (s1, ob, 0) := by rw [HT.out]; rfl
          have htl2 : (stepV t).1.l.length ≤ 8400896 + 4096 * (j + 1) := Nat.le_trans (stepV_len hs.ok) (by omega)
          have htt : ((t.1, t.2.1, t.2.2) : St × List SOp × Int) = t := rfl
          rw [htt] at hst
          obtain ⟨t2, ht2⟩ : ∃ t2, t2 = stepV t := ⟨_, rfl⟩
          obtain ⟨d2, hd2⟩ : ∃ d2, d2 = stepD t := ⟨_, rfl⟩
          have hst2 : Calls Try.prog 18 #[.pointer (some ⟨gw, 0, none⟩)] wr fun e w' => ∃ f2, e = .returned (.tuple #[.bool d2, .int .i64 t2.2.2]) ∧ Sto w' w.heap.size f2 t2.1 ∧ Sv w' gw f'.g t2.2.1 t2.2.2 ∧ Only wr w' (fun k => Foot f' k ∨ k = gw) ∧ (∀ k, Foot f2 k → Foot f' k ∨ wr.heap.size ≤ k) ∧ f2.g = f'.g := by
            rw [ht2, hd2]
            exact hst
          rw [← ht2] at hnx htl2
          have hnb : ∀ k, (Foot f' k ∨ k = gw) → w.heap.size ≤ k := fun k hk => by
            rcases hk with hk | rfl
            · exact (hs.foot k hk).1
            · exact hgw0
          have HNX := Lib.hid hnx
          have HFG := Lib.hid hfg
          have HNB2 := Lib.hid hnb
          have HHV := Lib.hid hv
          have HHS := Lib.hid hs
          clear hst ht2 hd2 htt hnx hfg hnb hv hs HT
          go_wp2_with fail
          refine hst2.mono ?_
          rintro e w5 ⟨f2, rfl, hs5, hv5, ho5, hgr5, hg5⟩
          have hb5 := hbr.trans (ho5.belowB HNB2.out hbr.size)
          have HF2 := Lib.hid (hg5.trans HFG.out)
          rw [← hg5] at hv5
          have HV5 := Lib.hid hv5
          clear hst2 ho5 hgr5 hg5 hv5 hbr
          go_wp2_with fail
          go_roundw
          case rel => exact ⟨j + 1, t2, f2, by omega, by go_num, HNX, hs5, HV5.out, hb5, HF2.out, htl2⟩
          case measure => simp [intOf]; omega
        · obtain rfl : j = nb' := by omega
          have hall : t = ((exec ob s1).1, [], (exec ob s1).2) := by rw [HT.out, HOB.out]; exact stepsV_all ob s1
          rw [Q6.out] at hall
          have hs8 : Sto wr w.heap.size f' s2 := by rw [hall] at hs; exact hs
          have hld := load_any w.heap.size f' s2 wr hs8
          rw [Q7.out, hfg] at hld
          clear HT hs hv hall htl hs8 hfg
          go_wp2_with fail
          refine hld.mono ?_
          rintro e w9 ⟨A9, m9, c9, rfl, hm9, _, hx9, hb9⟩
          have hb09 := below_all hbr hb9
          obtain rfl : m9 = nb := by rw [← hm9]; exact HNB.out
          clear hld hbr hb9 hm9
          go_wp2_with fail
          refine (alive_any _).mono ?_
          rintro e w10 ⟨rfl, hb10⟩
          have hb010 := below_all hb09 hb10
          have hst1 := run_string (P := Try.prog) HNB.out 23 9 5 (c := c9) Try.underlying23 Try.underlying5 Try.underlying9 (hx9.below hb10)
          have hst2 := run_string (P := Try.prog) HNB.out 23 9 5 (c := cb) Try.underlying23 Try.underlying5 Try.underlying9 (hrb.below hb010)
          clear hb09 hb10 hx9
          go_wp2_with fail
          go_ret
          exact ⟨rfl, hb010⟩
end Go.Proofs.Ytbljacafmkdlmaa
