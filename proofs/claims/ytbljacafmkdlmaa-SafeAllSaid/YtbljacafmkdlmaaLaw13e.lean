/- The law SafeAll. Condition: the lengths fit memory. -/
import Derived.Test.YtbljacafmkdlmaaJob
namespace Go.Proofs.Ytbljacafmkdlmaa
set_option maxRecDepth 100000
open Go.RowKit
set_option linter.unusedSimpArgs false
set_option linter.unusedVariables false

theorem OpvIn.good {w : World} {o : SOp} {p : Opv} (h : OpvIn w o p) : Row w p.D (bv p.o.b) ∧ p.o.b.length ≤ p.dc ∧ p.o.b.length ≤ 9000000000000000000 ∧ Row w p.K (iv p.o.keep) ∧ p.o.keep.length ≤ 9000000000000000000 ∧ (∀ x ∈ p.o.keep, -9223372036854775808 ≤ x ∧ x ≤ 9223372036854775807) ∧ p.o.n ≤ 9223372036854775807 := by
  obtain ⟨h1, h2⟩ := h.keep0
  have h3 := h.len
  rw [h1, h2]
  exact ⟨h.row, h.cap, by omega, Row.nil _ _, by decide, fun x hx => (by cases hx), by decide⟩
theorem doS_n (s : St) (o : SOp) : (doS s o).1.n = s.n := by
  cases o with
  | flush => rfl
  | write a b =>
    show (doW s a b).1.n = s.n
    unfold doW
    (repeat' split) <;> rfl
theorem step_eq (s : St) (o : SOp) (r : List SOp) : stepV (s, o :: r, 0) = ((doS s o).1, (if (doS s o).2 = 0 then r else []), (doS s o).2) := by
  by_cases h : (doS s o).2 = 0
  · rw [step_ok h, if_pos h, h]
  · rw [step_no h, if_neg h]

set_option maxHeartbeats 16000000 in
theorem safeall_law (sec : Int) (S : Option Addr) (n c : Nat) (ps : List Opv) (Bb : Option Addr) (nb cb : Nat) (b : List UInt8) (w : World) (hn : ps.length = n) (hr : Row w S (ocells ps)) (hn47 : n ≤ 140737488355328) (hg : ∀ p ∈ ps, Opv.Good w p) (hnb : b.length = nb) (hrb : Row w Bb (bv b)) (hbc : nb ≤ cb) (hb47 : nb ≤ 140737488355328) :
    Calls Try.prog 3 #[.int .i64 sec, .slice S n c, .slice Bb nb cb] w fun e w' => e = .returned (.bool true) ∧ Below w.heap.size w w' := by
  have hmd := made13_any sec S n c ps w hn hr hn47 hg
  have HNB := Lib.hid hnb
  clear hn hr hg hnb hn47
  go_enter Try.func3, Try.ntmps3
  go_wp2_with fail
  refine hmd.mono ?_
  rintro e w1 ⟨hb1, rfl | ⟨f, s, A, m, c', rfl, hs1, hsn, hlm, hm4, hA1, hn60, hsec⟩⟩
  · have hb2 := hb1.alloc hb1.size (.cells #[.int .i64 sec, .int .i64 1000, .slice none 0 0, .int .i64 0] 27)
    go_wp2_with fail
    refine (alive_any _).mono ?_
    rintro e w2 ⟨rfl, hb3⟩
    go_wp2_with fail
    go_ret
    exact ⟨rfl, below_all hb2 hb3⟩
  obtain rfl : sec = s.n := hsn.symm
  clear hmd hsn
  have hb2 := hb1.alloc hb1.size (.cells #[.int .i64 s.n, .int .i64 s.room, .slice A m c', .int .i64 s.k] 27)
  by_cases hlong : 1000 < nb
  · go_wp2_with fail
    refine (alive_any _).mono ?_
    rintro e w2 ⟨rfl, hb3⟩
    go_wp2_with fail
    go_ret
    exact ⟨rfl, below_all hb2 hb3⟩
  have hok := hs1.ok
  have hn0 := hok.n0
  have hn1 := hok.n1
  have hsz : m ≤ 5000000000000 := by omega
  have hs2 := hs1.alloc (.cells #[.int .i64 s.n, .int .i64 s.room, .slice A m c', .int .i64 s.k] 27)
  have hA2 := hA1.below ((Below.refl _ w1).alloc (Nat.le_refl _) (.cells #[.int .i64 s.n, .int .i64 s.room, .slice A m c', .int .i64 s.k] 27))
  have hK2 := Blk.new w1 27 #[.int .i64 s.n, .int .i64 s.room, .slice A m c', .int .i64 s.k]
  obtain ⟨g8, hg8⟩ : ∃ g8, g8 = w1.heap.size := ⟨_, rfl⟩
  have hlo8 : w.heap.size ≤ g8 := by rw [hg8]; exact hb1.size
  have hA8 : rcells s.l ≠ [] → ∀ a, A = some a → a.block ≠ g8 := fun hx a ha e => by
    have := hA1.row.lt hx a ha
    omega
  have HA8 := Lib.hid hA8
  rw [← hg8] at hK2
  obtain ⟨w2, hw2⟩ : ∃ w2, w2 = w1.alloc (.cells #[.int .i64 s.n, .int .i64 s.room, .slice A m c', .int .i64 s.k] 27) := ⟨_, rfl⟩
  rw [← hw2] at hs2 hA2 hK2 hb2
  have HW2 := Lib.hid hw2
  have HG8 := Lib.hid hg8
  have hld := load_any w.heap.size f s w2 hs2
  have hrl := fun u (hu : Row u A (rcells s.l)) => rLoad_any hok hlm hsz (c := c') u hu
  obtain ⟨⟨lb, lg, le⟩, hl⟩ : ∃ r, r = loadP s := ⟨_, rfl⟩
  simp only [← hl] at hld hrl
  have hmo := fun u => most_any s.n u hn0 (by omega)
  have har := fun u => rArea_any s.n u hn0 (by omega)
  have ha5 : areaN s.n ≤ 2047 := by unfold areaN; omega
  obtain ⟨a, ha⟩ : ∃ a, a = areaN s.n := ⟨_, rfl⟩
  rw [← ha] at hmo har ha5
  have hbg := fun u (hu : Sto u w.heap.size f s) (hrb : Row u Bb (bv b)) => begin_any w.heap.size f s u hu Bb nb cb b HNB.out hbc hrb hb47
  have hst := fun u (hu : Row u A (rcells s.l)) => rSteps_any hok hlm hsz (c := c') u hu b (by rw [HNB.out]; omega)
  have hol := begin_len hok b
  obtain ⟨⟨ops, er⟩, hbp⟩ : ∃ r, r = beginP s b := ⟨_, rfl⟩
  simp only [← hbp] at hbg hst
  rw [← hbp] at hol
  simp only at hol
  have HRL := Lib.hid hrl
  have HMO := Lib.hid hmo
  have HAR := Lib.hid har
  have HBG := Lib.hid hbg
  have HST := Lib.hid hst
  have HLM := Lib.hid hlm
  clear hw2 hg8 hrl hmo har hbg hst hl ha hbp hs1 hA1 hlm hA8
  go_upto_region 4 with fail
  rw [← HW2.out, ← HG8.out]
  clear HW2
  go_wp2_with fail
  refine hld.mono ?_
  rintro e w3 ⟨A3, m3, c3, rfl, hl3, hmc3, hx3, hb3⟩
  have hs3 := hs2.below hb3
  have hA3 := hA2.below hb3
  have hK3 := hK2.belowAll hb3
  have hb03 := below_all hb2 hb3
  have HL3 := Lib.hid hl3
  clear hld hs2 hA2 hK2 hb2 hb3 hl3
  obtain ⟨⟨i0, i1, i2, i3⟩, _⟩ := hK3.four
  go_wp2_with fail
  refine (HRL.out _ hA3.row).mono ?_
  rintro e w4 ⟨rfl, hb4⟩
  have hs4 := hs3.below hb4
  have hA4 := hA3.below hb4
  have hK4 := hK3.belowAll hb4
  have hb04 := below_all hb03 hb4
  have hcv := run_string (P := Try.prog) HL3.out 23 9 5 (c := c3) Try.underlying23 Try.underlying5 Try.underlying9 (hx3.below hb4)
  clear hs3 hA3 hK3 hb03 hb4 hx3 i0 i1 i2 i3
  go_wp2_with fail
  refine (HMO.out _).mono ?_
  rintro e w5 ⟨rfl, rfl⟩
  go_wp2_with fail
  refine (HAR.out _).mono ?_
  rintro e w5 ⟨rfl, rfl⟩
  have hbg := HBG.out w5 hs4 (hrb.below hb04)
  clear hcv
  go_wp2_with fail
  refine hbg.mono ?_
  rintro e w6 ⟨hb6, ⟨her, gv, rfl, hv6, hgv⟩ | ⟨her, rfl⟩⟩
  rotate_left
  · have hA6 := hA4.below hb6
    have hK6 := hK4.belowAll hb6
    have hb06 := below_all hb04 hb6
    have hcs := run_string (P := Try.prog) HNB.out 23 9 5 (c := cb) Try.underlying23 Try.underlying5 Try.underlying9 (hrb.below hb06)
    obtain ⟨⟨i0, i1, i2, i3⟩, _⟩ := hK6.four
    clear hbg hs4 hA4 hK4 hb04 hb6
    simp only at her
    go_wp2_with fail
    refine (HST.out _ hA6.row).mono ?_
    rintro e w7 ⟨hb7, Al, n7, c7, qs, rfl, hl7, hc7, hins, horow, hotyp⟩
    have hb07 := below_all hb06 hb7
    clear hl7 hins horow hotyp hcs
    go_wp2_with fail
    refine (alive_any _).mono ?_
    rintro e w8 ⟨rfl, hb8⟩
    go_wp2_with fail
    go_ret
    exact ⟨ret_bool (by simp), below_all hb07 hb8⟩
  obtain rfl : er = 0 := her
  have hA6 := hA4.below hb6
  have hK6 := hK4.belowAll hb6
  have hs6 := hs4.below hb6
  have hb06 := below_all hb04 hb6
  have hcs := run_string (P := Try.prog) HNB.out 23 9 5 (c := cb) Try.underlying23 Try.underlying5 Try.underlying9 (hrb.below hb06)
  obtain ⟨⟨i0, i1, i2, i3⟩, _⟩ := hK6.four
  have hlov : w.heap.size ≤ gv := Nat.le_trans hb04.size hgv
  have hAT : Away w6 A (rcells s.l) (Turns f gv) := ⟨hA6.1, fun hx a ha hF => by
    rcases hF with hF | hF
    · exact hA6.2 hx a ha hF
    · have := hA4.1.lt hx a ha
      omega⟩
  clear hbg hs4 hA4 hK4 hb04 hb6
  simp only at hv6
  go_wp2_with fail
  refine (HST.out _ hA6.row).mono ?_
  rintro e w7 ⟨hb7, Al, n7, c7, qs, rfl, hl7, hc7, hins, horow, hotyp⟩
  simp only at hl7 hins
  have hJ0 : Job w w7 g8 gv f.g ops (ops.drop 0) 0 qs Al f s s A m c' (4096 * (60 + 0)) :=
    ⟨hs6.below hb7, rfl, hok, hK6.belowAll hb7, HLM.out, by omega, hAT.below hb7, HA8.out, hv6.below hb7, ⟨hins, horow, hotyp⟩, below_all hb06 hb7, hlo8, hlov⟩
  have hvl := vleft_any gv f.g ops 0 w7 (hv6.below hb7)
  rw [hl7] at hvl
  rw [hl7] at hol
  have HL7 := Lib.hid hl7
  have hql : qs.length = n7 := by rw [hins.length]; exact hl7
  have HQL := Lib.hid hql
  clear hs6 hK6 hv6 hb06 hb7 hA6 hAT hins horow hotyp hcs i0 i1 i2 i3 hl7 hql
  go_wp2_with fail
  refine hvl.mono ?_
  rintro e w8 ⟨rfl, rfl⟩
  clear hvl
  go_wp2_with fail
  go_loopw [123] (fun i wr => ∃ (j : Nat) (sj : St) (A' : Option Addr) (m' c'' : Nat) (f' : Fp), j ≤ n7 ∧ i = .int .i64 j ∧ sj.n = s.n ∧ Job w wr g8 gv f.g ops (ops.drop j) 0 qs Al f' sj sj A' m' c'' (4096 * (60 + j)))
    (fun i _ => n7 - (intOf i).toNat)
  case atStart => exact ⟨0, s, A, m, c', f, Nat.zero_le _, rfl, rfl, hJ0⟩
  case round =>
    obtain ⟨j, sj, A', m', c'', f', hj, rfl, hjn, hJ⟩ := hrel
    have HJN := Lib.hid hjn
    clear hJ0 hjn
    by_cases hlt : j < n7
    · have hjl : j < ops.length := by rw [HL7.out]; exact hlt
      have hjq : j < qs.length := by rw [HQL.out]; exact hlt
      have hdr : ops.drop j = ops[j] :: ops.drop (j + 1) := List.drop_eq_getElem_cons hjl
      obtain ⟨g, o, rfl, hgw, c0, c1, c2, c3, c4⟩ := hJ.ops.row.opv hjq
      have hop := hJ.ops.ins.get hjq hjl
      obtain ⟨p, hp⟩ : ∃ p, p = qs[j] := ⟨_, rfl⟩
      obtain ⟨so, hso⟩ : ∃ so, so = ops[j] := ⟨_, rfl⟩
      rw [← hp] at c0 c1 c2 c3 c4 hop
      rw [← hso] at hop hdr
      rw [hdr] at hJ
      have hrl : (ops.drop (j + 1)).length = n7 - (j + 1) := by rw [List.length_drop, HL7.out]
      obtain ⟨rest, hrest⟩ : ∃ rest, rest = ops.drop (j + 1) := ⟨_, rfl⟩
      rw [← hrest] at hJ hrl
      have HREST := Lib.hid hrest
      clear hp hso hdr hrest
      have h21 := Blk.new wr 45 #[.int .i64 p.o.kind, .int .i64 p.o.at_, .int .i64 p.o.n, .slice p.D p.o.b.length p.dc, .slice p.K p.o.keep.length p.kc]
      have hJ1 := hJ.alloc (.cells #[.int .i64 p.o.kind, .int .i64 p.o.at_, .int .i64 p.o.n, .slice p.D p.o.b.length p.dc, .slice p.K p.o.keep.length p.kc] 45)
      have hop1 := hop.below ((Below.refl _ wr).alloc (Nat.le_refl _) (.cells #[.int .i64 p.o.kind, .int .i64 p.o.at_, .int .i64 p.o.n, .slice p.D p.o.b.length p.dc, .slice p.K p.o.keep.length p.kc] 45))
      obtain ⟨g21, hg21⟩ : ∃ g21, g21 = wr.heap.size := ⟨_, rfl⟩
      rw [← hg21] at h21
      have h21o : ∀ k, Turns f' gv k → k ≠ g21 := fun k hk e => by
        rcases hk with hk | hk
        · have := (hJ.sto.foot k hk).2
          omega
        · have := hJ.sv.lt
          omega
      obtain ⟨w10, hw10⟩ : ∃ w10, w10 = wr.alloc (.cells #[.int .i64 p.o.kind, .int .i64 p.o.at_, .int .i64 p.o.n, .slice p.D p.o.b.length p.dc, .slice p.K p.o.keep.length p.kc] 45) := ⟨_, rfl⟩
      rw [← hw10] at h21 hJ1 hop1
      have HW10 := Lib.hid hw10
      have HG21 := Lib.hid hg21
      have hfit := hJ.fit
      have hsj := hJ1.sv
      rw [← hJ1.same] at hsj
      have hvs := vstep_any w.heap.size f' sj gv (so :: rest) 0 w10 hJ1.sto hsj (by rw [hJ1.len]; omega)
      have hst : ∃ d2, d2 = stepD (sj, so :: rest, 0) := ⟨_, rfl⟩
      obtain ⟨d2, hd2⟩ := hst
      have hd3 : d2 = (decide ((doS sj so).2 = 0) && (if (doS sj so).2 = 0 then rest else []).isEmpty) := by rw [hd2]; unfold stepD; rw [step_eq]
      have hlen := doS_len hJ1.rok so
      have hokd := doS_ok hJ1.rok so
      have hdn := doS_n sj so
      have hdo := doO_opn sj so
      rw [← hop.op] at hdo
      unfold StepPost at hvs
      rw [step_eq, ← hd2, hJ1.same] at hvs
      simp only at hvs
      obtain ⟨⟨⟨sn, sr, sl, sk⟩, e2⟩, hse⟩ : ∃ r, r = doS sj so := ⟨_, rfl⟩
      rw [← hse] at hvs hd3 hlen hokd hdn hdo
      simp only at hvs hd3 hlen hokd hdn hdo
      have hDo := fun u (hu : Row u A' (rcells sj.l)) (h : OpvIn u so p) => rDo_any sj p.o A' m' c'' p.D p.o.b.length p.dc p.K p.o.keep.length p.kc u hJ1.rok hJ1.len hu (by have := hJ1.fit; omega) rfl h.good.2.1 h.good.2.2.1 h.good.1 rfl h.good.2.2.2.2.1 h.good.2.2.2.1 h.good.2.2.2.2.2.1 h.good.2.2.2.2.2.2
      simp only [hdo] at hDo
      have HDO := Lib.hid hDo
      have HD3 := Lib.hid hd3
      have HDN := Lib.hid (hdn.trans HJN.out)
      have HOK := Lib.hid hokd
      rw [hJ1.len] at hlen
      have hlen2 : sl.length ≤ 4096 * (60 + (j + 1)) := by have := hJ1.fit; omega
      have HLEN := Lib.hid hlen2
      have H21O := Lib.hid h21o
      clear hw10 hg21 hJ hop hsj hd2 hd3 hdn hdo hDo hse hokd hlen hlen2 hfit hjl hjq h21o
      go_upto_region 17 with fail
      rw [← HW10.out, ← HG21.out]
      clear HW10 c0 c1 c2 c3 c4
      go_wp2_with fail
      refine hvs.mono ?_
      rintro e w11 ⟨f2, rfl, hs11, hv11, ho11, hgr11, hf11⟩
      have hJ2 := hJ1.step hs11 hv11 ho11 hgr11 (hf11.trans hJ1.same.symm)
      have h212 := h21.only ho11 (fun hk => H21O.out _ hk rfl)
      have hop2 := hop1.only ho11 (turns_far4 hJ1.sto hJ1.sv)
      obtain ⟨k0, k1, k2, k3, k4⟩ := h212.five
      obtain ⟨⟨i0, i1, i2, i3⟩, _⟩ := hJ2.blk.four
      have hDo := HDO.out w11 hJ2.row.1 hop2
      clear hvs hJ1 h21 hop1 hs11 hv11 ho11 hgr11 hf11
      go_wp2_with fail
      refine hDo.mono ?_
      rintro e w12 ⟨A4, m4, c4', rfl, hl12, hrn12, hb12⟩
      simp only at hl12 hrn12
      clear hDo k0 k1 k2 k3 k4 i0 i1 i2 i3 h212 hop2
      have hK13 := (hJ2.blk.belowAll hb12).alloc (.cells #[.int .i64 sn, .int .i64 sr, .slice A4 m4 c4', .int .i64 sk] 27)
      have h24 := Blk.new w12 27 #[.int .i64 sn, .int .i64 sr, .slice A4 m4 c4', .int .i64 sk]
      have hb13 : Below w11.heap.size w11 (w12.alloc (.cells #[.int .i64 sn, .int .i64 sr, .slice A4 m4 c4', .int .i64 sk] 27)) := hb12.alloc hb12.size _
      have hrn13 : RNew w11 (w12.alloc (.cells #[.int .i64 sn, .int .i64 sr, .slice A4 m4 c4', .int .i64 sk] 27)) A' sj.l A4 sl := ⟨hrn12.1.alloc _, hrn12.2⟩
      have hne24 : g8 ≠ w12.heap.size := by have := hb12.size; have := hJ2.blk.lt; omega
      obtain ⟨w13, hw13⟩ : ∃ w13, w13 = w12.alloc (.cells #[.int .i64 sn, .int .i64 sr, .slice A4 m4 c4', .int .i64 sk] 27) := ⟨_, rfl⟩
      have HW13 := Lib.hid hw13
      rw [← hw13] at hK13 h24 hb13 hrn13
      clear hw13 hb12 hrn12
      obtain ⟨⟨i0, i1, i2, i3⟩, z0, z1, z2, z3⟩ := hK13.four
      obtain ⟨⟨l0, l1, l2, l3⟩, _⟩ := h24.four
      have ho8 : Only w13 ((((w13.setCell ⟨g8, 0, none⟩ (.int .i64 sn)).setCell ⟨g8, 1, none⟩ (.int .i64 sr)).setCell ⟨g8, 2, none⟩ (.slice A4 m4 c4')).setCell ⟨g8, 3, none⟩ (.int .i64 sk)) (fun i => i = g8) :=
        ((((Only.refl w13 (fun i => i = g8)).setCell (p := ⟨g8, 0, none⟩) (.inl rfl) _).setCell (p := ⟨g8, 1, none⟩) (.inl rfl) _).setCell (p := ⟨g8, 2, none⟩) (.inl rfl) _).setCell (p := ⟨g8, 3, none⟩) (.inl rfl) _
      have hK14 : Blk ((((w13.setCell ⟨g8, 0, none⟩ (.int .i64 sn)).setCell ⟨g8, 1, none⟩ (.int .i64 sr)).setCell ⟨g8, 2, none⟩ (.slice A4 m4 c4')).setCell ⟨g8, 3, none⟩ (.int .i64 sk)) g8 27 #[.int .i64 sn, .int .i64 sr, .slice A4 m4 c4', .int .i64 sk] := (((hK13.set_ 0 _).set_ 1 _).set_ 2 _).set_ 3 _
      have hJ3 := hJ2.next (r' := ⟨sn, sr, sl, sk⟩) (m' := m4) (c' := c4') (N' := 4096 * (60 + (j + 1))) hrn13 hb13 HOK.out hl12 (by have h1 := HLEN.out; have h2 : sl.length = m4 := hl12; omega) ho8 hK14
      go_upto_region 19 with fail
      rw [← HW13.out]
      clear HW13
      go_upto_region 20 with fail
      obtain ⟨w14, hw14⟩ : ∃ w14, w14 = ((((w13.setCell ⟨g8, 0, none⟩ (.int .i64 sn)).setCell ⟨g8, 1, none⟩ (.int .i64 sr)).setCell ⟨g8, 2, none⟩ (.slice A4 m4 c4')).setCell ⟨g8, 3, none⟩ (.int .i64 sk)) := ⟨_, rfl⟩
      rw [← hw14] at hJ3 ⊢
      clear hw14 i0 i1 i2 i3 z0 z1 z2 z3 l0 l1 l2 l3 ho8 hK13 hK14 h24 hb13 hrn13 hJ2 hl12
      by_cases he2 : e2 = 0
      rotate_left
      · have hd4 : d2 = false := by rw [HD3.out]; simp [he2]
        subst hd4
        rw [if_neg he2] at hJ3
        go_wp2_with fail
        refine (alive_any _).mono ?_
        rintro e w15 ⟨rfl, hb15⟩
        have hvl := vleft_any gv f.g [] e2 w15 (hJ3.sv.below hb15)
        have hb015 := below_all hJ3.bel hb15
        clear hJ3
        go_wp2_with fail
        refine hvl.mono ?_
        rintro e w16 ⟨rfl, rfl⟩
        go_wp2_with fail
        go_ret
        exact ⟨ret_bool (by simp), hb015⟩
      subst he2
      rw [if_pos rfl] at hJ3
      have hrd := fun u (hu : Sto u w.heap.size f2 ⟨sn, sr, sl, sk⟩) => read_any w.heap.size f2 ⟨sn, sr, sl, sk⟩ u hu 0 s.n (by omega) (by omega)
      have hrr := fun u (hu : Row u A4 (rcells sl)) => rRead_st HOK.out (c := c4') hJ3.len (by have := hJ3.fit; omega) 0 s.n (by omega) u hu
      obtain ⟨⟨r1, r2⟩, hr12⟩ : ∃ r, r = rdS ⟨sn, sr, sl, sk⟩ 0 s.n := ⟨_, rfl⟩
      simp only [← hr12] at hrd hrr
      have hlo : ∀ u, Sto u w.heap.size f2 ⟨sn, sr, sl, sk⟩ → Calls Try.prog 22 #[.pointer (some ⟨f.g, 0, none⟩)] u fun e w' => e = .returned (.int .i64 ((m4 : Int) - sk)) ∧ w' = u := fun u hu => by
        have h1 := loose_any w.heap.size f2 ⟨sn, sr, sl, sk⟩ u hu
        have h2 : sl.length = m4 := hJ3.len
        have h3 : sk ≤ sl.length := hu.ok.k
        rw [show (((⟨sn, sr, sl, sk⟩ : St).l.length - (⟨sn, sr, sl, sk⟩ : St).k : Nat) : Int) = (m4 : Int) - sk by show ((sl.length - sk : Nat) : Int) = _; omega, hJ3.same] at h1
        exact h1
      have hsk4 : sk ≤ m4 := by have h2 : sl.length = m4 := hJ3.len; rw [← h2]; exact HOK.out.k
      have hm4' : m4 ≤ 10000000000 := by have := hJ3.fit; omega
      have hvl : ∀ u, Sv u gv f.g rest 0 → Calls Try.prog 17 #[.pointer (some ⟨gv, 0, none⟩)] u fun e' w' => e' = .returned (.int .i64 ((n7 : Int) - 1 - j)) ∧ w' = u := fun u hu => by
        have h1 := vleft_any gv f.g rest 0 u hu
        rw [hrl, show ((n7 - (j + 1) : Nat) : Int) = (n7 : Int) - 1 - j by omega] at h1
        exact h1
      have hrd0 := hrd w14 hJ3.sto
      rw [hJ3.same] at hrd0
      have HRR := Lib.hid hrr
      have HLO := Lib.hid hlo
      have HVL := Lib.hid hvl
      clear hrd hrr hlo hvl hr12
      go_wp2_with fail
      refine hrd0.mono ?_
      rintro e w15 ⟨A15, m15, c15, rfl, hl15, hown15, hb15⟩
      have hJ4 := hJ3.below hb15
      have hx15 := hown15.row
      have HL15 := Lib.hid hl15
      clear hrd0 hJ3 hown15 hb15 hl15
      obtain ⟨⟨i0, i1, i2, i3⟩, _⟩ := hJ4.blk.four
      go_wp2_with fail
      refine (HRR.out _ hJ4.row.1).mono ?_
      rintro e w16 ⟨rfl, hb16⟩
      have hJ5 := hJ4.below hb16
      have hx16 := hx15.below hb16
      have hcv := run_string (P := Try.prog) HL15.out 23 9 5 (c := c15) Try.underlying23 Try.underlying5 Try.underlying9 hx16.drew
      clear hJ4 hx15 hb16 i0 i1 i2 i3
      have hJ6 := hJ5.drew
      obtain ⟨⟨i0, i1, i2, i3⟩, _⟩ := hJ6.blk.four
      go_upto_region 24 with fail
      by_cases hlast : j + 1 = n7
      · have hd4 : d2 = true := by
          rw [HD3.out]
          have : rest = [] := List.eq_nil_of_length_eq_zero (by omega)
          rw [this]
          rfl
        subst hd4
        have hq : (j : Int) = (n7 : Int) - 1 := by omega
        refine wp_region_seq true (.take 0 .copy (.take 1 .copy (.take 2 .int2 (.take 3 .copy (.take 4 .copy (.take 5 .copy (.take 6 .copy (.take 7 (.len 22) (.take 8 .int2 (.take 9 .int2 (.take 10 .bool2 (.take 11 .copy (.take 12 .copy (.take 13 .copy (.take 15 .copy (.take 16 (.len 22) (.take 17 .int2 (.take 18 .copy (.take 19 .int2 (.alone 14 (.take 20 .int2 (.take 21 .copy (.take 22 .copy (.take 23 .copy (.take 24 (.text 23 5 9) (.take 25 .copy (.take 26 (.str2 9) (.take 27 .copy (.take 28 .copy (.take 29 .copy (.take 31 .addr (.take 32 .load (.take 33 (.len 25) (.take 34 .addr (.take 35 .load (.take 36 .int2 (.alone 30 (.take 37 .int2 (.take 38 .copy .fin))))))))))))))))))))))))))))))))))))))) (by kernel_rfl) (by kernel_rfl) (by kernel_rfl) ?_
        simp only [pre, nxt, List.getElem?_toArray, List.getElem?_cons_zero, List.getElem?_cons_succ, opAt, ghosts, List.nil_append, gInt, gStr, gBool, ghost, List.cons_append]
        go_wp2_with fail
        refine (HVL.out _ hJ6.sv).mono ?_
        rintro e w17 ⟨rfl, rfl⟩
        go_wp2_with fail
        refine next_keep (Keep.refl _) ?_
        go_wp2_with fail
        refine (HLO.out _ hJ6.sto).mono ?_
        rintro e w18 ⟨rfl, rfl⟩
        go_wp2_with fail
        refine next_keep (Keep.refl _) ?_
        go_wp2_with fail
        refine ends_normal ?_
        rw [HREST.out] at hJ6
        go_wp2_with fail
        go_roundw
        case rel => exact ⟨j + 1, ⟨sn, sr, sl, sk⟩, A4, m4, c4', f2, by omega, by go_num, HDN.out, hJ6⟩
        case measure => simp [intOf]; omega
      · have hd4 : d2 = false := by
          rw [HD3.out]
          have h1 : ¬ rest = [] := fun h => by rw [h] at hrl; simp at hrl; omega
          simp [h1]
        subst hd4
        have hq : ¬ (j : Int) = (n7 : Int) - 1 := by omega
        refine wp_region_seq true (.take 0 .copy (.take 1 .copy (.take 2 .int2 (.take 3 .copy (.take 4 .copy (.take 5 .copy (.take 6 .copy (.take 7 (.len 22) (.take 8 .int2 (.take 9 .int2 (.take 10 .bool2 (.take 11 .copy (.take 12 .copy (.take 13 .copy (.take 15 .copy (.take 16 (.len 22) (.take 17 .int2 (.take 18 .copy (.take 19 .int2 (.alone 14 (.take 20 .int2 (.take 21 .copy (.take 22 .copy (.take 23 .copy (.take 24 (.text 23 5 9) (.take 25 .copy (.take 26 (.str2 9) (.take 27 .copy (.take 28 .copy (.take 29 .copy (.take 31 .addr (.take 32 .load (.take 33 (.len 25) (.take 34 .addr (.take 35 .load (.take 36 .int2 (.alone 30 (.take 37 .int2 (.take 38 .copy .fin))))))))))))))))))))))))))))))))))))))) (by kernel_rfl) (by kernel_rfl) (by kernel_rfl) ?_
        simp only [pre, nxt, List.getElem?_toArray, List.getElem?_cons_zero, List.getElem?_cons_succ, opAt, ghosts, List.nil_append, gInt, gStr, gBool, ghost, List.cons_append]
        go_wp2_with fail
        refine (HVL.out _ hJ6.sv).mono ?_
        rintro e w17 ⟨rfl, rfl⟩
        go_wp2_with fail
        refine next_keep (Keep.refl _) ?_
        go_wp2_with fail
        refine (HLO.out _ hJ6.sto).mono ?_
        rintro e w18 ⟨rfl, rfl⟩
        go_wp2_with fail
        refine next_keep (Keep.refl _) ?_
        go_wp2_with fail
        refine ends_normal ?_
        rw [HREST.out] at hJ6
        go_wp2_with fail
        go_roundw
        case rel => exact ⟨j + 1, ⟨sn, sr, sl, sk⟩, A4, m4, c4', f2, by omega, by go_num, HDN.out, hJ6⟩
        case measure => simp [intOf]; omega
    · obtain rfl : j = n7 := by omega
      have hdr : ops.drop j = [] := List.drop_eq_nil_of_le (by rw [HL7.out]; exact Nat.le_refl _)
      rw [hdr] at hJ
      have hsj := hJ.sv
      rw [← hJ.same] at hsj
      have hvs := vstep_any w.heap.size f' sj gv [] 0 wr hJ.sto hsj (by rw [hJ.len]; have := hJ.fit; omega)
      unfold StepPost at hvs
      rw [show stepV (sj, [], 0) = (sj, [], 0) from rfl, show stepD (sj, [], 0) = true from rfl, hJ.same] at hvs
      simp only at hvs
      clear hsj hdr
      go_wp2_with fail
      refine hvs.mono ?_
      rintro e w11 ⟨f2, rfl, hs11, hv11, ho11, hgr11, hf11⟩
      have hJ2 := hJ.step hs11 hv11 ho11 hgr11 (hf11.trans hJ.same.symm)
      clear hvs hJ hs11 hv11 ho11 hgr11 hf11
      go_wp2_with fail
      refine (alive_any _).mono ?_
      rintro e w12 ⟨rfl, hb12⟩
      go_wp2_with fail
      go_ret
      exact ⟨ret_bool (by simp), below_all hJ2.bel hb12⟩
end Go.Proofs.Ytbljacafmkdlmaa
