/- The law StoreCopies. Condition: the script's length fits memory. -/
import Derived.Test.YtgblekjkphnjfaaCat
namespace Go.Proofs.Ytgblekjkphnjfaa
open Go.RowKit
set_option linter.unusedSimpArgs false

theorem Opv.Good.below' {w w' : World} {p : Opv} (h : p.Good w) (hb : Below w.heap.size w w') : p.Good w' := { h with rb := h.rb.below hb, rk := h.rk.below hb }
theorem rdS_whole {s : St} {sec : Int} (hs : s.OK) (h : s.n = sec) : rdS s 0 sec = (cat s.l 0 sec.toNat, 0) := by
  subst h
  have h0 := hs.n0
  have hi : insideB s.n 0 s.n = true := by
    unfold insideB
    simp only [Bool.and_eq_true, decide_eq_true_eq]
    omega
  unfold rdS
  rw [if_neg (by omega), hi, if_neg (by simp)]

set_option maxHeartbeats 8000000 in
theorem copies_law (sec : Int) (S : Option Addr) (n c : Nat) (ps : List Opv) (M : Option Addr) (n2 cm : Nat) (qs : List Opv) (w : World) (hn : ps.length = n) (hr : Row w S (ocells ps)) (hn20 : n ≤ 1100000000) (hg : ∀ p ∈ ps, Opv.Good w p)
    (hn2 : qs.length = n2) (hr2 : Row w M (ocells qs)) (hn47 : n2 ≤ 140737488355328) (hg2 : ∀ p ∈ qs, Opv.Good w p) :
    Calls Try.prog 9 #[.int .i64 sec, .slice S n c, .slice M n2 cm] w fun e w' => e = .returned (.bool true) ∧ Below w.heap.size w w' := by
  by_cases hsec : 0 ≤ sec ∧ sec ≤ 4096
  rotate_left
  · have hmn := made_no sec S n c w hsec
    clear hsec hg hg2 hn hn2
    go_enter Try.func9, Try.ntmps9
    go_wp2_with fail
    refine hmn.mono ?_
    rintro e w1 ⟨rfl, rfl⟩
    go_wp2_with fail
    refine (alive_any _).mono ?_
    rintro e w3 ⟨rfl, hb3⟩
    go_wp2_with fail
    go_ret
    exact ⟨rfl, hb3⟩
  have hm := made_any sec S n c ps w hsec hn hr hn20 hg
  have hfw := fun u (hu : Row u S (ocells ps)) => few_any sec S n c ps u hn hu (by omega) (fun p hp => ⟨(hg p hp).lb, (hg p hp).lk⟩)
  have hfw2 := fun u (hu : Row u M (ocells qs)) => few_any sec M n2 cm qs u hn2 hu hn47 (fun p hp => ⟨(hg2 p hp).lb, (hg2 p hp).lk⟩)
  have HFW := Lib.hid hfw
  have HFW2 := Lib.hid hfw2
  have HN2 := Lib.hid hn2
  have HG2 := Lib.hid hg2
  clear hg hn hfw hfw2 hn2 hg2
  go_enter Try.func9, Try.ntmps9
  go_wp2_with fail
  refine hm.mono ?_
  rintro e w1 ⟨f, s, rfl, hs1, h8, hsl, hb1⟩
  have H8 := Lib.hid h8
  have HSL := Lib.hid hsl
  clear hm h8 hsl
  go_wp2_with fail
  refine (HFW.out _ (hr.below hb1)).mono ?_
  rintro e w2 ⟨fb, rfl, hfb, hb2⟩
  have hb02 := below_all hb1 hb2
  have hs2 := hs1.below hb2
  clear hs1 hb1 hb2 hfb
  cases fb
  · go_wp2_with fail
    refine (alive_any _).mono ?_
    rintro e w3 ⟨rfl, hb3⟩
    go_wp2_with fail
    go_ret
    exact ⟨rfl, below_all hb02 hb3⟩
  go_wp2_with fail
  refine (HFW2.out _ (hr2.below hb02)).mono ?_
  rintro e w3 ⟨fb, rfl, hfb, hb3⟩
  have hb03 := below_all hb02 hb3
  have hs3 := hs2.below hb3
  clear hs2 hb02 hb3 HFW HFW2
  cases fb
  · clear hfb
    go_wp2_with fail
    refine (alive_any _).mono ?_
    rintro e w4 ⟨rfl, hb4⟩
    go_wp2_with fail
    go_ret
    exact ⟨rfl, below_all hb03 hb4⟩
  have hn60 : n2 ≤ 60 := hfb rfl
  clear hfb
  have hsl3 : s.l.length ≤ 4096 * n := HSL.out
  have hcp := copy_any w.heap.size f s w3 hs3 (by omega)
  have hfl := fun k hk => (hs3.foot k hk).2
  go_wp2_with fail
  refine hcp.mono ?_
  rintro e w4 ⟨f2, rfl, hc4, hb4⟩
  have hne4 : ∀ k, Foot f k → ¬ Foot f2 k := fun k hk hk2 => by
    have h1 := hfl k hk
    have h2 := (hc4.foot k hk2).1
    omega
  have hs4 := hs3.below hb4
  have hb04 := below_all hb03 hb4
  have hc4 := hc4.less (B' := w.heap.size) hb03.size
  clear hcp hfl hs3 hb03 hb4
  have e1 := rdS_whole hs4.ok H8.out
  have hrd := fun u (h : Sto u w.heap.size f s) => read_any w.heap.size f s u h 0 sec (by omega) (by omega)
  rw [e1] at hrd
  obtain ⟨WS, hWS⟩ : ∃ WS, WS = cat s.l 0 sec.toNat := ⟨_, rfl⟩
  rw [← hWS] at hrd
  have HRD := Lib.hid hrd
  clear hWS e1 hrd
  go_wp2_with fail
  refine (HRD.out _ hs4).mono ?_
  rintro e w5 ⟨A1, m1, c1, rfl, hl1, hown1, hb5⟩
  have hs5 := hs4.below hb5
  have hc5 := hc4.below hb5
  have hb05 := below_all hb04 hb5
  have hx5 := hown1.row
  have hfr5 : ∀ a, A1 = some a → bv WS ≠ [] → w4.heap.size ≤ a.block := fun a ha hx => by
    obtain ⟨hl, hnc, _, h0 | ⟨g, cur, lo, hi, he, hB, _⟩⟩ := hown1
    · subst h0
      have : m1 = 0 := by omega
      subst this
      exact absurd (List.eq_nil_of_length_eq_zero (by simpa using hl)) hx
    · rw [ha] at he
      injection he with he
      rw [he]
      exact hB
  have hw5 : Away w5 A1 (bv WS) (Foot f2) := ⟨hx5, fun hx a ha hf => by
    have h1 := hfr5 a ha hx
    have h2 := (hc4.foot _ hf).2
    omega⟩
  have HL1 := Lib.hid hl1
  clear hs4 hc4 hb04 hb5 hown1 hx5 hfr5 hl1
  have hlo := loose_any w.heap.size f s w5 hs5
  go_wp2_with fail
  refine hlo.mono ?_
  rintro e w6 ⟨rfl, rfl⟩
  clear hlo
  obtain ⟨lz, hlz⟩ : ∃ lz, lz = s.l.length - s.k := ⟨_, rfl⟩
  rw [← hlz]
  have HLZ := Lib.hid hlz
  clear hlz
  go_wp2_with fail
  go_loopw [52] (fun i wr => ∃ (j : Nat) (s2 : St) (f' : Fp), j ≤ n2 ∧ i = .int .i64 j ∧ f'.g = f2.g ∧ Sto wr w.heap.size f s ∧ Sto wr w.heap.size f' s2 ∧ (∀ k, Foot f k → ¬ Foot f' k) ∧ s2.l.length ≤ 4096 * n + 4096 * j ∧ Away wr A1 (bv WS) (Foot f') ∧ Below w.heap.size w wr)
    (fun i _ => n2 - (intOf i).toNat)
  case atStart => exact ⟨0, s, f2, Nat.zero_le _, rfl, rfl, hs5, hc5, hne4, by omega, hw5, hb05⟩
  case round =>
    obtain ⟨j, s2, f', hj, rfl, hfg, hs, hc, hne, hsl, hwa, hbr⟩ := hrel
    by_cases hlt : j < n2
    · have hjl : j < qs.length := by rw [HN2.out]; exact hlt
      have hrr := hr2.below hbr
      obtain ⟨g, o, rfl, hgw, c0, c1, c2, c3, c4⟩ := hrr.opv hjl
      have hgood := HG2.out qs[j] (List.getElem_mem hjl)
      obtain ⟨p, hp⟩ : ∃ p, p = qs[j] := ⟨_, rfl⟩
      rw [← hp] at c0 c1 c2 c3 c4 hgood
      have hs1 := hs.alloc (.cells #[.int .i64 p.o.kind, .int .i64 p.o.at_, .int .i64 p.o.n, .slice p.D p.o.b.length p.dc, .slice p.K p.o.keep.length p.kc] 35)
      have hc1 := hc.alloc (.cells #[.int .i64 p.o.kind, .int .i64 p.o.at_, .int .i64 p.o.n, .slice p.D p.o.b.length p.dc, .slice p.K p.o.keep.length p.kc] 35)
      have hw1 := hwa.below ((Below.refl _ wr).alloc (Nat.le_refl _) (.cells #[.int .i64 p.o.kind, .int .i64 p.o.at_, .int .i64 p.o.n, .slice p.D p.o.b.length p.dc, .slice p.K p.o.keep.length p.kc] 35))
      have hb1 := hbr.alloc hbr.size (.cells #[.int .i64 p.o.kind, .int .i64 p.o.at_, .int .i64 p.o.n, .slice p.D p.o.b.length p.dc, .slice p.K p.o.keep.length p.kc] 35)
      have hlen := doO_len hc.ok p.o
      have hdoes := does_any w.heap.size f' s2 p.o p.D p.o.b.length p.dc p.K p.o.keep.length p.kc _ hc1 (by omega) rfl hgood.hb (by have := hgood.lb; omega) (Away.of hgood.rb hc1 (Nat.le_refl _) hb1) rfl (by have := hgood.lk; omega) (Away.of hgood.rk hc1 (Nat.le_refl _) hb1) hgood.in_.2 hgood.ia
      obtain ⟨⟨s3, x, er⟩, hxe⟩ : ∃ r, r = doO s2 p.o := ⟨_, rfl⟩
      rw [← hxe] at hdoes hlen
      rw [hfg] at hdoes
      simp only at hlen
      have hsl' : s3.l.length ≤ 4096 * n + 4096 * (j + 1) := Nat.le_trans hlen (by rw [Nat.mul_succ, ← Nat.add_assoc]; exact Nat.add_le_add_right hsl 4096)
      clear hlen
      have HNE := Lib.hid hne
      clear hp hrr hxe hgood hs hc hwa hne
      go_wp2_with fail
      refine hdoes.mono ?_
      rintro e w4 ⟨f4, rfl, hc4, ht4⟩
      simp only at hc4
      obtain ⟨hs4, hne4'⟩ := ht4.other hs1 HNE.out
      have hw4 := hw1.turned ht4
      have hb4 := hb1.trans (ht4.belowB hc1)
      have hfg4 : f4.g = f2.g := ht4.same.trans hfg
      clear hdoes ht4 hs1 hc1 hw1 hb1 c0 c1 c2 c3 c4
      have HNE4 := Lib.hid hne4'
      clear hne4'
      go_wp2_with fail
      go_roundw
      case rel => exact ⟨j + 1, s3, f4, by omega, by go_num, hfg4, hs4, hc4, HNE4.out, hsl', hw4, hb4⟩
      case measure => simp [intOf]; omega
    · obtain rfl : j = n2 := by omega
      have hx := hwa.row
      clear hne hwa hc hfg
      go_wp2_with fail
      refine (HRD.out _ hs).mono ?_
      rintro e w7 ⟨A3, m3, c3, rfl, hl3, hown3, hb7⟩
      have hm3 : m3 = m1 := by rw [← hl3]; exact HL1.out
      subst hm3
      have hs7 := hs.below hb7
      have hb07 := below_all hbr hb7
      have hx17 := hx.below hb7
      have hx37 := hown3.row
      clear hs hbr hb7 hx hown3 hl3
      go_wp2_with fail
      refine (alive_any _).mono ?_
      rintro e w8 ⟨rfl, hb8⟩
      have hs8 := hs7.below hb8
      have hb08 := below_all hb07 hb8
      have hr1 := run_string (P := Try.prog) HL1.out 29 9 5 (c := c1) Try.underlying29 Try.underlying5 Try.underlying9 (hx17.below hb8)
      have hr3 := run_string (P := Try.prog) HL1.out 29 9 5 (c := c3) Try.underlying29 Try.underlying5 Try.underlying9 (hx37.below hb8)
      have hlo := loose_any w.heap.size f s w8 hs8
      rw [← HLZ.out] at hlo
      have hln := len_any w.heap.size f s w8 hs8
      rw [H8.out] at hln
      clear hs7 hb07 hx17 hx37 hb8
      go_wp2_with fail
      refine hlo.mono ?_
      rintro e w9 ⟨rfl, rfl⟩
      go_wp2_with fail
      refine hln.mono ?_
      rintro e w9 ⟨rfl, rfl⟩
      go_wp2_with fail
      go_ret
      exact ⟨rfl, hb08⟩
end Go.Proofs.Ytgblekjkphnjfaa
