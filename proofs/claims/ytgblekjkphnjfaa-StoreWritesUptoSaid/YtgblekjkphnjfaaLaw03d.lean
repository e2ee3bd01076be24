/- The law StoreWrites. Condition: the script's length fits memory. -/
import Derived.Test.YtgblekjkphnjfaaCat
namespace Go.Proofs.Ytgblekjkphnjfaa
open Go.RowKit
set_option linter.unusedSimpArgs false

theorem Opv.Good.below {w w' : World} {p : Opv} (h : p.Good w) (hb : Below w.heap.size w w') : p.Good w' := { h with rb := h.rb.below hb, rk := h.rk.below hb }
theorem doW_no {s : St} {a : Int} {b : List UInt8} : ¬ (doW s a b).2 = 0 → (doW s a b).1 = s := by
  unfold doW
  (repeat' split) <;> intro h <;> first | rfl | exact absurd rfl h
theorem doW_yes {s : St} {a : Int} {b : List UInt8} : (doW s a b).2 = 0 → b.length % 16 = 0 ∧ b.length ≠ 0 ∧ insideB s.n a ((b.length / 16 : Nat) : Int) = true ∧ (doW s a b).1 = { s with l := s.l ++ chs a b (b.length / 16) } := by
  unfold doW
  split
  · intro h; cases h
  split
  · intro h; cases h
  split
  · intro h; cases h
  · rename_i h1 h2 h3
    intro _
    exact ⟨by omega, by omega, by simpa using h2, rfl⟩
theorem sect_chs (l : List Wrt) (a : Int) (b : List UInt8) (m : Nat) (x : Int) : sect (l ++ chs a b m) x = if a ≤ x ∧ x < a + m then (b.drop (16 * (x - a).toNat)).take 16 else sect l x := by
  unfold sect
  rw [lastW_chs]
  split <;> rfl
theorem cat_chs (l : List Wrt) (a : Int) (b : List UInt8) (m : Nat) : ∀ j, j ≤ m → cat (l ++ chs a b m) a j = b.take (16 * j)
  | 0, _ => rfl
  | j + 1, h => by
    show cat (l ++ chs a b m) a j ++ sect _ (a + j) = _
    rw [cat_chs l a b m j (by omega), sect_chs, if_pos (by omega), show (a + (j : Int) - a).toNat = j by omega, Nat.mul_succ, List.take_add]
/-- What is read behind a write. -/
theorem cat_parts {s : St} (h : ∀ x ∈ s.l, x.2.length = 16) {b : List UInt8} {k m : Nat} (hb : b.length = 16 * m) (h8 : k + m ≤ 8) :
    (cat (s.l ++ chs k b m) 0 8).take (16 * k) = (cat s.l 0 8).take (16 * k) ∧ ((cat (s.l ++ chs k b m) 0 8).drop (16 * k)).take (16 * m) = b ∧ (cat (s.l ++ chs k b m) 0 8).drop (16 * k + 16 * m) = (cat s.l 0 8).drop (16 * k + 16 * m) := by
  have h' : ∀ x ∈ s.l ++ chs k b m, x.2.length = 16 := fun x hx => by
    rcases List.mem_append.1 hx with hx | hx
    · exact h x hx
    · obtain ⟨j, hj, rfl⟩ := chs_mem hx
      simp only [List.length_take, List.length_drop]
      omega
  refine ⟨?_, ?_, ?_⟩
  · have e5 := cat_take h' 0 k (8 - k)
    have e6 := cat_take h 0 k (8 - k)
    rw [show k + (8 - k) = 8 by omega] at e5 e6
    rw [e5, e6]
    refine cat_congr fun j hj => ?_
    rw [sect_chs, if_neg (by omega)]
  · have e5 := cat_drop h' 0 k (8 - k)
    rw [show k + (8 - k) = 8 by omega] at e5
    have e6 := cat_take h' (0 + k) m (8 - k - m)
    rw [show m + (8 - k - m) = 8 - k by omega] at e6
    rw [e5, e6, show (0 : Int) + k = k by omega, cat_chs _ _ _ _ m (Nat.le_refl _), List.take_of_length_le (by omega)]
  · have e5 := cat_drop h' 0 (k + m) (8 - (k + m))
    have e6 := cat_drop h 0 (k + m) (8 - (k + m))
    rw [show k + m + (8 - (k + m)) = 8 by omega, show 16 * (k + m) = 16 * k + 16 * m by omega] at e5 e6
    rw [e5, e6]
    refine cat_congr fun j hj => ?_
    rw [sect_chs, if_neg (by omega)]

set_option maxHeartbeats 8000000 in
theorem writes_law (S : Option Addr) (n c : Nat) (ps : List Opv) (kd a m : Int) (D : Option Addr) (b : List UInt8) (q dc : Nat) (K : Option Addr) (r kc : Nat) (w : World) (hn : ps.length = n) (hr : Row w S (ocells ps)) (hn20 : n ≤ 1100000000) (hg : ∀ p ∈ ps, Opv.Good w p)
    (hq : b.length = q) (hqc : q ≤ dc) (hq47 : q ≤ 140737488355328) (hrb : Row w D (bv b)) (hia : -9223372036854775808 ≤ a ∧ a ≤ 9223372036854775807) :
    Calls Try.prog 4 #[.slice S n c, .agg #[.int .i64 kd, .int .i64 a, .int .i64 m, .slice D q dc, .slice K r kc]] w fun e w' => e = .returned (.bool true) ∧ Below w.heap.size w w' := by
  have hm := fun u (hu : Below w.heap.size w u) => made_any 8 S n c ps u (by omega) hn (hr.below hu) hn20 (fun p hp => (hg p hp).below hu)
  have hfw := fun u (hu : Row u S (ocells ps)) => few_any 8 S n c ps u hn hu (by omega) (fun p hp => ⟨(hg p hp).lb, (hg p hp).lk⟩)
  have HFW := Lib.hid hfw
  have HM := Lib.hid hm
  have HQ := Lib.hid hq
  clear hg hn hfw hm hq
  have hbx0 : Below w.heap.size w (w.alloc (.cells #[.int .i64 kd, .int .i64 a, .int .i64 m, .slice D q dc, .slice K r kc] 35)) := (Below.refl _ _).alloc (Nat.le_refl _) _
  have h12 := Blk.new w 35 #[.int .i64 kd, .int .i64 a, .int .i64 m, .slice D q dc, .slice K r kc]
  obtain ⟨g12, hg12⟩ : ∃ g12, g12 = w.heap.size := ⟨_, rfl⟩
  rw [← hg12] at h12
  have HG12 := Lib.hid hg12
  obtain ⟨w0, hw0⟩ : ∃ w0, w0 = w.alloc (.cells #[.int .i64 kd, .int .i64 a, .int .i64 m, .slice D q dc, .slice K r kc] 35) := ⟨_, rfl⟩
  rw [← hw0] at h12 hbx0
  have HW0 := Lib.hid hw0
  clear hg12 hw0
  go_enter Try.func4, Try.ntmps4
  go_upto_region 1 with fail
  rw [← HW0.out, ← HG12.out]
  clear HW0
  go_wp2_with fail
  refine (HM.out _ hbx0).mono ?_
  rintro e w1 ⟨f, s, rfl, hs1, h8, hsl, hb1⟩
  clear HM
  have hk1 := h12.belowAll hb1
  have hb01 := below_all hbx0 hb1
  have hfa := hs1.apart hk1 (by decide) (by decide)
  have hk0lt : g12 < w0.heap.size := h12.lt
  clear h12
  obtain ⟨c0, c1, c2, c3, c4⟩ := hk1.five
  go_wp2_with fail
  refine (HFW.out _ (hr.below hb01)).mono ?_
  rintro e w2 ⟨fb, rfl, hfb, hb2⟩
  have hk2 := hk1.belowAll hb2
  have hb02 := below_all hb01 hb2
  have hs2 := hs1.below hb2
  clear hs1 hb1 hb2 hfb hk1 hb01 c0 c1 c2 c3 c4
  obtain ⟨c0, c1, c2, c3, c4⟩ := hk2.five
  cases fb
  · go_wp2_with fail
    refine (alive_any _).mono ?_
    rintro e w3 ⟨rfl, hb3⟩
    go_wp2_with fail
    go_ret
    exact ⟨rfl, below_all hb02 hb3⟩
  by_cases hlo : 1000 < q
  · go_wp2_with fail
    refine (alive_any _).mono ?_
    rintro e w3 ⟨rfl, hb3⟩
    go_wp2_with fail
    go_ret
    exact ⟨rfl, below_all hb02 hb3⟩
  have h16 := fun x (hx : x ∈ s.l) => (hs2.ok.w x hx).2.2
  have e1 := rdS_all h8
  have hrd := read_any w0.heap.size f s w2 hs2 0 8 (by omega) (by omega)
  rw [e1] at hrd
  have hW1 : (cat s.l 0 8).length = 128 := cat_length h16 0 8
  have HSL := Lib.hid hsl
  have H8 := Lib.hid h8
  obtain ⟨WS, hWS⟩ : ∃ WS, WS = cat s.l 0 8 := ⟨_, rfl⟩
  rw [← hWS] at hrd hW1 e1
  have HWS := Lib.hid hWS
  have HW1 := Lib.hid hW1
  have E1 := Lib.hid e1
  have H16 := Lib.hid h16
  clear hsl hWS hW1 e1 h8 h16
  go_wp2_with fail
  refine hrd.mono ?_
  rintro e w3 ⟨A1, m1, c1', rfl, hl1, hown1, hb3⟩
  have hm1 : m1 = 128 := by rw [← hl1]; exact HW1.out
  subst hm1
  have hs3 := hs2.below hb3
  have hb03 := below_all hb02 hb3
  have hk3 := hk2.belowAll hb3
  have hx1 := hown1.row
  have hc1 := hown1.2.1
  obtain ⟨g1, rfl⟩ : ∃ g1, A1 = some ⟨g1, 0, none⟩ := by
    obtain ⟨_, _, _, h0 | ⟨g, cur, lo, hi, he, hB, _⟩⟩ := hown1
    · omega
    · exact ⟨g, he⟩
  have hw1 : Away w3 (some ⟨g1, 0, none⟩) (bv WS) (Foot f) := ⟨hx1, fun _ a' ha hf => by
    have h2 := (hs2.foot _ hf).2
    obtain ⟨_, _, _, h0 | ⟨g, cur, lo, hi, he, hB, _⟩⟩ := hown1
    · omega
    · rw [ha] at he
      injection he with he
      rw [he] at h2
      simp only at h2
      omega⟩
  have hsl3 : s.l.length + 4096 ≤ 5000000000000 := by have := HSL.out; omega
  have hwB : w.heap.size ≤ w0.heap.size := hbx0.size
  have hawB : Away w3 D (bv b) (Foot f) := Away.of hrb hs3 hwB hb03
  have hwr := write_any w0.heap.size f s w3 hs3 a D q dc b HQ.out hqc (by omega) hawB hsl3
  obtain ⟨c0, c1, c2, c3, c4⟩ := hk3.five
  clear hrd hl1 hown1 hs2 hb3 hb02 hk2 hx1 hsl3
  have hno := fun h => doW_no (s := s) (a := a) (b := b) h
  have hyes := fun h => doW_yes (s := s) (a := a) (b := b) h
  obtain ⟨⟨s4, er⟩, hse⟩ : ∃ r, r = doW s a b := ⟨_, rfl⟩
  rw [← hse] at hwr hno hyes
  simp only at hno hyes
  clear hse
  by_cases her : er = 0
  rotate_left
  · have he4 : s4 = s := hno her
    subst he4
    have HER := Lib.hid her
    clear hno hyes
    go_wp2_with fail
    refine hwr.mono ?_
    rintro e w4 ⟨f4, rfl, hs4, ht4⟩
    simp only at hs4
    have hw4 := hw1.turned ht4
    have hb04 := hb03.trans (ht4.belowB (hs3.less hwB))
    have hk4 := hk3.only ht4.only (fun h => hfa h)
    have hf4 : f4.g = f.g := ht4.same
    have hrd2 := read_any w0.heap.size f4 s4 w4 hs4 0 8 (by omega) (by omega)
    rw [E1.out, hf4] at hrd2
    have her := HER.out
    clear hwr hw1 hb03 hs3 ht4 hk3 c0 c1 c2 c3 c4 hawB
    go_wp2_with fail
    refine hrd2.mono ?_
    rintro e w5 ⟨A3, m3, c3', rfl, hl3, hown3, hb5⟩
    have hm3 : m3 = 128 := by rw [← hl3]; exact HW1.out
    subst hm3
    have hb05 := below_all hb04 hb5
    have hx15 := hw4.row.below hb5
    have hx35 := hown3.row
    clear hrd2 hl3 hown3 hw4 hb04 hs4 hb5 hk4
    go_wp2_with fail
    refine (alive_any _).mono ?_
    rintro e w7 ⟨rfl, hb7⟩
    have hb07 := below_all hb05 hb7
    have hx17 := hx15.below hb7
    have hx37 := hx35.below hb7
    have hr1 := run_string (P := Try.prog) (n := 128) HW1.out 29 9 5 (c := c1') Try.underlying29 Try.underlying5 Try.underlying9 hx17
    have hr3 := run_string (P := Try.prog) (n := 128) HW1.out 29 9 5 (c := c3') Try.underlying29 Try.underlying5 Try.underlying9 hx37
    go_wp2_with fail
    go_ret
    exact ⟨rfl, hb07⟩
  subst her
  obtain ⟨hq16, hq0, hins, hs4e⟩ := hyes rfl
  have hin := insideB_of hins
  rw [H8.out] at hin
  obtain ⟨k, rfl⟩ : ∃ k : Nat, a = k := ⟨a.toNat, by omega⟩
  obtain ⟨m4, hm4⟩ : ∃ m4, m4 = b.length / 16 := ⟨_, rfl⟩
  rw [← hm4] at hs4e hin
  have hb16 : b.length = 16 * m4 := by omega
  have hkm : k + m4 ≤ 8 := by omega
  obtain ⟨hP1, hP2, hP3⟩ := cat_parts H16.out hb16 hkm
  have hs4l : s4.l = s.l ++ chs k b m4 := by rw [hs4e]
  have h84 : s4.n = 8 := by rw [hs4e]; exact H8.out
  have e4 := rdS_all h84
  rw [← hs4l, ← HWS.out] at hP1 hP3
  rw [← hs4l] at hP2
  have hq4 : q = 16 * m4 := by rw [← HQ.out]; exact hb16
  have hm0 : 0 < m4 := by omega
  obtain ⟨NW, hNW⟩ : ∃ NW, NW = cat s4.l 0 8 := ⟨_, rfl⟩
  rw [← hNW] at hP1 hP2 hP3 e4
  have HNW := Lib.hid hNW
  have HP1 := Lib.hid hP1
  have HP2 := Lib.hid hP2
  have HP3 := Lib.hid hP3
  have E4 := Lib.hid e4
  have HB16 := Lib.hid hb16
  have HS4E := Lib.hid hs4e
  clear hNW hP1 hP2 hP3 e4 hb16 hs4e hs4l h84 hm4 hins hin hq16 hq0 hno hyes HQ
  subst hq4
  go_wp2_with fail
  refine hwr.mono ?_
  rintro e w4 ⟨f4, rfl, hs4, ht4⟩
  simp only at hs4
  have hw4 := hw1.turned ht4
  have hw4b := hawB.turned ht4
  have hb04 := hb03.trans (ht4.belowB (hs3.less hwB))
  have hk4 := hk3.only ht4.only (fun h => hfa h)
  have hf4 : f4.g = f.g := ht4.same
  have hrd2 := read_any w0.heap.size f4 s4 w4 hs4 0 8 (by omega) (by omega)
  rw [E4.out, hf4] at hrd2
  have hNl : NW.length = 128 := by rw [HNW.out]; exact cat_length (fun x hx => (hs4.ok.w x hx).2.2) 0 8
  have HNL := Lib.hid hNl
  clear hNl hwr hw1 hb03 hs3 ht4 hk3 c0 c1 c2 c3 c4 hawB
  go_wp2_with fail
  refine hrd2.mono ?_
  rintro e w5 ⟨A3, m3, c3', rfl, hl3, hown3, hb5⟩
  have hm3 : m3 = 128 := by rw [← hl3]; exact HNL.out
  subst hm3
  have hb05 := below_all hb04 hb5
  have hx15 := hw4.row.below hb5
  have hxb5 := hw4b.row.below hb5
  have hx35 := hown3.row
  have hk5 := hk4.belowAll hb5
  have hc3 := hown3.2.1
  obtain ⟨g3, rfl⟩ : ∃ g3, A3 = some ⟨g3, 0, none⟩ := by
    obtain ⟨_, _, _, h0 | ⟨g, cur, lo, hi, he, hB, _⟩⟩ := hown3
    · omega
    · exact ⟨g, he⟩
  obtain ⟨c0, c1, c2, c3, c4⟩ := hk5.five
  clear hrd2 hl3 hown3 hw4 hw4b hb04 hs4 hb5 hk4 hf4
  have HC3 := Lib.hid hc3
  have HC1 := Lib.hid hc1
  clear hc1 hc3
  go_wp2_with fail
  refine wp_region_seq true (.alone 0 (.take 1 .copy (.take 2 .copy (.take 3 .int2 (.take 4 .copy (.take 5 .copy (.take 6 .copy (.take 7 .copy (.take 8 .cut (.take 9 (.text 29 5 9) (.take 10 .copy (.take 11 .copy (.take 12 .cut (.take 13 (.text 29 5 9) (.take 14 (.str2 9) (.take 15 .copy (.take 16 .copy (.take 17 .copy (.take 18 .copy (.take 19 .copy (.take 20 .addr (.take 21 .load (.take 22 (.len 29) (.take 23 .int2 (.take 24 .cut (.take 25 (.text 29 5 9) (.take 26 .addr (.take 27 .load (.take 28 (.text 29 5 9) (.take 29 (.str2 9) (.take 30 .copy (.take 31 .copy (.take 32 .copy (.take 33 .copy (.take 34 .addr (.take 35 .load (.take 36 (.len 29) (.take 37 .int2 (.take 38 .cut (.take 39 (.text 29 5 9) (.take 40 .copy (.take 41 .copy (.take 42 .addr (.take 43 .load (.take 44 (.len 29) (.take 45 .int2 (.take 46 .cut (.take 47 (.text 29 5 9) (.take 48 (.str2 9) (.take 49 .copy (.take 50 .copy .fin))))))))))))))))))))))))))))))))))))))))))))))))))) (by kernel_rfl) (by kernel_rfl) (by kernel_rfl) ?_
  simp only [pre, nxt, List.getElem?_toArray, List.getElem?_cons_zero, List.getElem?_cons_succ, opAt, ghosts, List.nil_append, gInt, gStr, ghost, List.cons_append]
  go_wp2_with fail
  refine (alive_any _).mono ?_
  rintro e w7 ⟨rfl, hb7⟩
  have hb07 := below_all hb05.drew hb7
  have hx17 := hx15.drew.below hb7
  have hx37 := hx35.drew.below hb7
  have hxb7 := hxb5.drew.below hb7
  have hk7 := hk5.drew.belowAll hb7
  clear c0 c1 c2 c3 c4
  obtain ⟨c0, c1, c2, c3, c4⟩ := hk7.five
  have hw1l := HW1.out
  have hn1l := HNL.out
  have hp1 : NW.take (k * 16) = WS.take (k * 16) := by rw [Nat.mul_comm]; exact HP1.out
  have hs1 := run_string (P := Try.prog) (n := k * 16) (by rw [List.length_take, hw1l]; omega) 29 9 5 (c := c1') Try.underlying29 Try.underlying5 Try.underlying9 ((bv_take WS (k * 16)) ▸ hx17.take (k * 16))
  have hs3 := run_string (P := Try.prog) (n := k * 16) (by rw [List.length_take, hn1l]; omega) 29 9 5 (c := c3') Try.underlying29 Try.underlying5 Try.underlying9 ((bv_take NW (k * 16)) ▸ hx37.take (k * 16))
  rw [hp1] at hs3
  clear hp1
  have hc3 := HC3.out
  have hd5 : Row w7 (some ⟨g3, k * 16, none⟩) (bv b) := by
    have h := hx37.drop (k * 16) c3' (by rw [bv_length]; omega)
    rw [bv_drop, if_neg (by omega)] at h
    have h := h.take (16 * m4)
    have h2 : (NW.drop (k * 16)).take (16 * m4) = b := by rw [Nat.mul_comm k 16]; exact HP2.out
    rw [bv_take, h2] at h
    by_cases hk0 : k * 16 = 0
    · rw [hk0] at h ⊢
      exact h
    · simpa [Addr.add, hk0] using h
  have hs5 := run_string (P := Try.prog) (n := 16 * m4) HB16.out 29 9 5 (c := c3' - k * 16) Try.underlying29 Try.underlying5 Try.underlying9 hd5
  have hs6 := run_string (P := Try.prog) (n := 16 * m4) HB16.out 29 9 5 (c := dc) Try.underlying29 Try.underlying5 Try.underlying9 hxb7
  have hadd : ∀ (g x : Nat), ((some (⟨g, 0, none⟩ : Addr)).map (·.add x)) = some ⟨g, x, none⟩ := fun g x => by rw [Option.map_some, addr_add, Nat.zero_add]
  have hr7 : Row w7 (some ⟨g3, k * 16 + 16 * m4, none⟩) (bv (WS.drop (k * 16 + 16 * m4))) := by
    have h := hx37.drop (k * 16 + 16 * m4) (c3' + 1) (by rw [bv_length]; omega)
    have h2 : NW.drop (k * 16 + 16 * m4) = WS.drop (k * 16 + 16 * m4) := by rw [Nat.mul_comm k 16]; exact HP3.out
    rw [bv_drop, if_neg (by omega), h2, hadd] at h
    exact h
  have hr8 : Row w7 (some ⟨g1, k * 16 + 16 * m4, none⟩) (bv (WS.drop (k * 16 + 16 * m4))) := by
    have h := hx17.drop (k * 16 + 16 * m4) (c1' + 1) (by rw [bv_length]; have := HC1.out; omega)
    rw [bv_drop, if_neg (by have := HC1.out; omega), hadd] at h
    exact h
  have hdl : (WS.drop (k * 16 + 16 * m4)).length = 128 - (k * 16 + 16 * m4) := by rw [List.length_drop, hw1l]
  have hs7 := run_string (P := Try.prog) hdl 29 9 5 (c := c3' - (k * 16 + 16 * m4)) Try.underlying29 Try.underlying5 Try.underlying9 hr7
  have hs8 := run_string (P := Try.prog) hdl 29 9 5 (c := c1' - (k * 16 + 16 * m4)) Try.underlying29 Try.underlying5 Try.underlying9 hr8
  clear hc3 hd5 hr7 hr8 hdl hadd hw1l hn1l
  have hc1 := HC1.out
  have hc3 := HC3.out
  rcases Nat.lt_or_ge (k * 16 + 16 * m4) 128 with hz | hz
  · go_wp2_with fail
    refine next_keep (Keep.below hb7) ?_
    go_wp2_with fail
    refine ends_normal ?_
    go_wp2_with fail
    go_ret
    exact ⟨rfl, hb07⟩
  · clear hs7 hs8
    have hs7 := fun (A : Option Addr) (c : Nat) => run_string (P := Try.prog) (A := A) (w := w7) (n := 0) (l := []) rfl 29 9 5 (c := c) Try.underlying29 Try.underlying5 Try.underlying9 (.inl rfl)
    go_wp2_with fail
    refine next_keep (Keep.below hb7) ?_
    go_wp2_with fail
    all_goals
      refine ends_normal ?_
      go_wp2_with fail
      go_ret
      exact ⟨rfl, hb07⟩
end Go.Proofs.Ytgblekjkphnjfaa
