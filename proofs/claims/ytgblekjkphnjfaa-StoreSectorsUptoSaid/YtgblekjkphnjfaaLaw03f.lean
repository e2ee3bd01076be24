/- The law StoreSafe. Condition: the script's length fits memory. -/
import Derived.Test.YtgblekjkphnjfaaLaw03e
namespace Go.Proofs.Ytgblekjkphnjfaa
open Go.RowKit
set_option linter.unusedSimpArgs false

/-- More was written behind a flush. -/
structure Ext (s s2 : St) : Prop where
  n : s2.n = s.n
  k : s2.k = s.l.length
  l : ∃ x, s2.l = s.l ++ x
theorem Ext.flush (s : St) : Ext s (doF s) := ⟨rfl, rfl, [], (List.append_nil _).symm⟩
theorem Ext.write {s s2 : St} (h : Ext s s2) {o : Opn} (hk : o.kind = 0) : Ext s (doO s2 o).1 := by
  have e : (doO s2 o).1 = (doW s2 o.at_ o.b).1 := by unfold doO; rw [if_pos hk]
  rw [e]
  unfold doW
  split
  · exact h
  split
  · exact h
  split
  · exact h
  · obtain ⟨h1, h2, x, h3⟩ := h
    exact ⟨h1, h2, x ++ chs o.at_ o.b (o.b.length / 16), by simp only; rw [h3, List.append_assoc]⟩
theorem kp_nil {α : Type} (l : List α) : ∀ j, kp [] l j = []
  | 0 => rfl
  | j + 1 => by unfold kp; rw [kp_nil l j]; rfl
theorem kp_all {α : Type} (keep : List Int) (l : List α) (h : ∀ j : Nat, j < l.length → keep.contains (j : Int) = true) : ∀ j, j ≤ l.length → kp keep l j = l.take j
  | 0, _ => rfl
  | j + 1, hj => by rw [kp_step keep l (by omega), kp_all keep l h j (by omega), h j (by omega), if_pos rfl, List.take_succ_eq_append_getElem (by omega)]
theorem Ext.none_ {s s2 : St} (h : Ext s s2) : (doC s2 []).l = s.l := by
  obtain ⟨_, h2, x, h3⟩ := h
  show s2.l.take s2.k ++ kp [] _ _ = _
  rw [kp_nil, List.append_nil, h3, h2, List.take_left]
def iota (m : Nat) : List Int := (List.range m).map Int.ofNat
theorem iota_length (m : Nat) : (iota m).length = m := by simp [iota]
theorem iota_succ (m : Nat) : iv (iota m) ++ [.int .i64 (m : Int)] = iv (iota (m + 1)) := by
  unfold iota
  rw [List.range_succ, List.map_append, iv_append]
  rfl
theorem iota_has {m j : Nat} (h : j < m) : (iota m).contains (j : Int) = true := by
  rw [List.contains_iff_mem]
  exact List.mem_map.2 ⟨j, List.mem_range.2 h, rfl⟩
theorem all_crash (s2 : St) : (doC s2 (iota (s2.l.length - s2.k))).l = s2.l := by
  show s2.l.take s2.k ++ kp _ (s2.l.drop s2.k) (s2.l.length - s2.k) = _
  rw [kp_all _ _ (fun j hj => iota_has (by rwa [List.length_drop] at hj)) _ (by rw [List.length_drop]; exact Nat.le_refl _), List.take_of_length_le (l := s2.l.drop s2.k) (by rw [List.length_drop]; exact Nat.le_refl _), List.take_append_drop]

theorem read_whole (B : Nat) (f : Fp) (s : St) (w : World) (h : Sto w B f s) (sec : Int) (hn : s.n = sec) (WS : List UInt8) (hw : cat s.l 0 sec.toNat = WS) :
    Calls Try.prog 14 #[.pointer (some ⟨f.g, 0, none⟩), .int .i64 0, .int .i64 sec] w
    fun e w' => ∃ A m c, e = .returned (.tuple #[.slice A m c, .int .i64 0]) ∧ WS.length = m ∧ Row w' A (bv WS) ∧ Below w.heap.size w w' ∧ (bv WS ≠ [] → ∀ a, A = some a → w.heap.size ≤ a.block) := by
  have h1 := h.ok.n1
  have hr := read_any B f s w h 0 sec (by omega) (by omega)
  rw [rdS_whole h.ok hn, hw] at hr
  refine hr.mono ?_
  rintro e w' ⟨A, m, c, rfl, hl, hown, hb⟩
  refine ⟨A, m, c, rfl, hl, hown.row, hb, fun hx a ha => ?_⟩
  obtain ⟨hl', hnc, _, h0 | ⟨g, cur, lo, hi, he, hB, _⟩⟩ := hown
  · subst h0
    have : m = 0 := by omega
    subst this
    exact absurd (List.eq_nil_of_length_eq_zero (by simpa using hl')) hx
  · rw [ha] at he
    injection he with he
    rw [he]
    exact hB
theorem Away.later {w w' : World} {B : Nat} {f : Fp} {s : St} {A : Option Addr} {xs : List Value} (hc : Sto w B f s) (hr : Row w' A xs) (hf : xs ≠ [] → ∀ a, A = some a → w.heap.size ≤ a.block) : Away w' A xs (Foot f) :=
  ⟨hr, fun hx a ha hk => by
    have h1 := hf hx a ha
    have h2 := (hc.foot _ hk).2
    omega⟩

set_option maxHeartbeats 1000000 in
theorem safe_law (sec : Int) (S : Option Addr) (n c : Nat) (ps : List Opv) (M : Option Addr) (n2 cm : Nat) (qs : List Opv) (w : World) (hn : ps.length = n) (hr : Row w S (ocells ps)) (hn20 : n ≤ 1100000000) (hg : ∀ p ∈ ps, Opv.Good w p)
    (hn2 : qs.length = n2) (hr2 : Row w M (ocells qs)) (hn47 : n2 ≤ 140737488355328) (hg2 : ∀ p ∈ qs, Opv.Good w p) :
    Calls Try.prog 8 #[.int .i64 sec, .slice S n c, .slice M n2 cm] w fun e w' => e = .returned (.bool true) ∧ Below w.heap.size w w' := by
  obtain ⟨i0, hi0, hz0, hz1, hz2⟩ := info_parts info_int
  by_cases hsec : 0 ≤ sec ∧ sec ≤ 4096
  rotate_left
  · have hmn := made_no sec S n c w hsec
    clear hsec hg hg2 hn hn2 hz0 hz1 hz2
    go_enter Try.func8, Try.ntmps8
    go_wp2_with fail
    refine hmn.mono ?_
    rintro e w1 ⟨rfl, rfl⟩
    go_wp2_with fail
    refine (alive_any _).mono ?_
    rintro e w3 ⟨rfl, hb3⟩
    go_wp2_with fail
    go_ret
    exact ⟨rfl, hb3⟩
  have hm := made_any sec S n c ps w hsec hn hr hn20 hg
  have hfw := fun u (hu : Row u S (ocells ps)) => few_any sec S n c ps u hn hu (by omega) (fun p hp => ⟨(hg p hp).lb, (hg p hp).lk⟩)
  have hfw2 := fun u (hu : Row u M (ocells qs)) => few_any sec M n2 cm qs u hn2 hu hn47 (fun p hp => ⟨(hg2 p hp).lb, (hg2 p hp).lk⟩)
  have HFW := Lib.hid hfw
  have HFW2 := Lib.hid hfw2
  have HN2 := Lib.hid hn2
  have HG2 := Lib.hid hg2
  have HZ0 := Lib.hid hz0
  have HZ1 := Lib.hid hz1
  have HZ2 := Lib.hid hz2
  have HI0 := Lib.hid hi0
  clear hg hn hfw hfw2 hn2 hg2 hz0 hz1 hz2 hi0
  go_enter Try.func8, Try.ntmps8
  go_wp2_with fail
  refine hm.mono ?_
  rintro e w1 ⟨f, s, rfl, hs1, h8, hsl, hb1⟩
  have H8 := Lib.hid h8
  have HSL := Lib.hid hsl
  clear hm h8 hsl
  go_wp2_with fail
  refine (HFW.out _ (hr.below hb1)).mono ?_
  rintro e w2 ⟨fb, rfl, hfb, hb2⟩
  have hb02 := below_all hb1 hb2
  have hs2 := hs1.below hb2
  clear hs1 hb1 hb2 hfb
  cases fb
  · go_wp2_with fail
    refine (alive_any _).mono ?_
    rintro e w3 ⟨rfl, hb3⟩
    go_wp2_with fail
    go_ret
    exact ⟨rfl, below_all hb02 hb3⟩
  go_wp2_with fail
  refine (HFW2.out _ (hr2.below hb02)).mono ?_
  rintro e w3 ⟨fb, rfl, hfb, hb3⟩
  have hb03 := below_all hb02 hb3
  have hs3 := hs2.below hb3
  clear hs2 hb02 hb3 HFW HFW2
  cases fb
  · clear hfb
    go_wp2_with fail
    refine (alive_any _).mono ?_
    rintro e w4 ⟨rfl, hb4⟩
    go_wp2_with fail
    go_ret
    exact ⟨rfl, below_all hb03 hb4⟩
  have hn60 : n2 ≤ 60 := hfb rfl
  clear hfb
  have hsl3 : s.l.length ≤ 4096 * n := HSL.out
  have hfl := flush_any w.heap.size f s w3 hs3
  go_wp2_with fail
  refine hfl.mono ?_
  rintro e w4 ⟨f4, rfl, hs4, ht4⟩
  have hb04 := hb03.trans (ht4.belowB hs3)
  have hfg4 : f4.g = f.g := ht4.same
  have hx4 := Ext.flush s
  have hx4l : (doF s).l.length ≤ 4096 * n := hsl3
  have hnF : (doF s).n = sec := H8.out
  obtain ⟨WS, hWS⟩ : ∃ WS, cat s.l 0 sec.toNat = WS := ⟨_, rfl⟩
  have hrd := read_whole w.heap.size f4 (doF s) w4 hs4 sec H8.out WS hWS
  rw [hfg4] at hrd
  have HWS := Lib.hid hWS
  obtain ⟨s4, hs4e⟩ : ∃ s4, s4 = doF s := ⟨_, rfl⟩
  rw [← hs4e] at hs4 hx4 hx4l hnF
  have HX4 := Lib.hid hx4
  have HNF := Lib.hid hnF
  clear hfl hs3 hb03 ht4 hWS hs4e hx4 hnF
  go_wp2_with fail
  refine hrd.mono ?_
  rintro e w5 ⟨A1, m1, c1, rfl, hl1, hrow5, hb5, hfr5⟩
  have hw5 := Away.later hs4 hrow5 hfr5
  have hs5 := hs4.below hb5
  have hb05 := below_all hb04 hb5
  have HL1 := Lib.hid hl1
  clear hrd hs4 hb04 hb5 hrow5 hfr5 hl1
  go_wp2_with fail
  go_loopw [54] (fun i wr => ∃ (j : Nat) (s2 : St) (f' : Fp), j ≤ n2 ∧ i = .int .i64 j ∧ f'.g = f.g ∧ Sto wr w.heap.size f' s2 ∧ Ext s s2 ∧ s2.l.length ≤ 4096 * n + 4096 * j ∧ Away wr A1 (bv WS) (Foot f') ∧ Below w.heap.size w wr)
    (fun i _ => n2 - (intOf i).toNat)
  case atStart => exact ⟨0, s4, f4, Nat.zero_le _, rfl, hfg4, hs5, HX4.out, by omega, hw5, hb05⟩
  case round =>
    obtain ⟨j, s2, f', hj, rfl, hfg, hc, hext, hsl, hwa, hbr⟩ := hrel
    clear hx4l hw5 hs5 hb05
    by_cases hlt : j < n2
    · have hjl : j < qs.length := by rw [HN2.out]; exact hlt
      have hrr := hr2.below hbr
      obtain ⟨g, o, rfl, hgw, c0, c1, c2, c3, c4⟩ := hrr.opv hjl
      have hgood := HG2.out qs[j] (List.getElem_mem hjl)
      obtain ⟨p, hp⟩ : ∃ p, p = qs[j] := ⟨_, rfl⟩
      rw [← hp] at c0 c1 c2 c3 c4 hgood
      have hc1 := hc.alloc (.cells #[.int .i64 p.o.kind, .int .i64 p.o.at_, .int .i64 p.o.n, .slice p.D p.o.b.length p.dc, .slice p.K p.o.keep.length p.kc] 35)
      have hw1 := hwa.below ((Below.refl _ wr).alloc (Nat.le_refl _) (.cells #[.int .i64 p.o.kind, .int .i64 p.o.at_, .int .i64 p.o.n, .slice p.D p.o.b.length p.dc, .slice p.K p.o.keep.length p.kc] 35))
      have hb1 := hbr.alloc hbr.size (.cells #[.int .i64 p.o.kind, .int .i64 p.o.at_, .int .i64 p.o.n, .slice p.D p.o.b.length p.dc, .slice p.K p.o.keep.length p.kc] 35)
      have hlen := doO_len hc.ok p.o
      have hsl' : (doO s2 p.o).1.l.length ≤ 4096 * n + 4096 * (j + 1) := Nat.le_trans hlen (by rw [Nat.mul_succ, ← Nat.add_assoc]; exact Nat.add_le_add_right hsl 4096)
      have hdoes := does_any w.heap.size f' s2 p.o p.D p.o.b.length p.dc p.K p.o.keep.length p.kc _ hc1 (by omega) rfl hgood.hb (by have := hgood.lb; omega) (Away.of hgood.rb hc1 (Nat.le_refl _) hb1) rfl (by have := hgood.lk; omega) (Away.of hgood.rk hc1 (Nat.le_refl _) hb1) hgood.in_.2 hgood.ia
      have hext' := fun h => hext.write (o := p.o) h
      have hslj : s2.l.length ≤ 4096 * n + 4096 * (j + 1) := Nat.le_trans hsl (by rw [Nat.mul_succ, ← Nat.add_assoc]; exact Nat.le_add_right _ _)
      obtain ⟨⟨s3, x, er⟩, hxe⟩ : ∃ r, r = doO s2 p.o := ⟨_, rfl⟩
      rw [← hxe] at hdoes hsl' hext'
      rw [hfg] at hdoes
      simp only at hsl' hext'
      have HFG := Lib.hid hfg
      clear hp hrr hxe hgood hc hwa hlen hsl hfg
      by_cases hk : p.o.kind = 0
      · have hext3 := hext' hk
        rw [hk] at hc1 hw1 hb1 hdoes c0
        have HEXT := Lib.hid hext3
        clear hext' hext3 hext hk
        go_wp2_with fail
        refine hdoes.mono ?_
        rintro e w4 ⟨f5, rfl, hc4, ht4⟩
        simp only at hc4
        have hw4 := hw1.turned ht4
        have hb4 := hb1.trans (ht4.belowB hc1)
        have hfg5 : f5.g = f.g := ht4.same.trans HFG.out
        clear hdoes ht4 hc1 hw1 hb1 c0 c1 c2 c3 c4
        go_wp2_with fail
        go_roundw
        case rel => exact ⟨j + 1, s3, f5, by omega, by go_num, hfg5, hc4, HEXT.out, hsl', hw4, hb4⟩
        case measure => simp [intOf]; omega
      · have HEXT := Lib.hid hext
        clear hext' hext hdoes
        go_wp2_with fail
        go_roundw
        case rel => exact ⟨j + 1, s2, f', by omega, by go_num, HFG.out, hc1, HEXT.out, hslj, hw1, hb1⟩
        case measure => simp [intOf]; omega
    · obtain rfl : j = n2 := by omega
      have h2n : s2.n = sec := hext.n.trans H8.out
      obtain ⟨NW, hNW⟩ : ∃ NW, cat s2.l 0 sec.toNat = NW := ⟨_, rfl⟩
      have hrd := read_whole w.heap.size f' s2 wr hc sec h2n NW hNW
      rw [hfg] at hrd
      have HNW := Lib.hid hNW
      have H2N := Lib.hid h2n
      have HEXT := Lib.hid hext
      clear hNW h2n hext HX4 HNF
      have hslz : s2.l.length ≤ 5000000000000 := by omega
      have hsl60 : s2.l.length - s2.k ≤ 5000000000000 := by omega
      clear hsl
      go_wp2_with fail
      refine hrd.mono ?_
      rintro e w6 ⟨A2, m2, c2, rfl, hl2, hrow6, hb6, hfr6⟩
      have hx16 := hwa.row.below hb6
      have hc6 := hc.below hb6
      have hb06 := below_all hbr hb6
      have HL2 := Lib.hid hl2
      have hcp := copy_any w.heap.size f' s2 w6 hc6 hslz
      rw [hfg] at hcp
      have HFG := Lib.hid hfg
      clear hrd hc hbr hb6 hwa hl2 hfr6 hfg
      go_wp2_with fail
      refine hcp.mono ?_
      rintro e w7 ⟨f3, rfl, hs7, hb7⟩
      have hw17 := Away.arg hx16 (hx16.below hb7) hs7 (Nat.le_refl _)
      have hw27 := Away.arg hrow6 (hrow6.below hb7) hs7 (Nat.le_refl _)
      have hc7 := hc6.below hb7
      have hb07 := below_all hb06 hb7
      have hs7 := hs7.less (B' := w.heap.size) hb06.size
      have hcp2 := copy_any w.heap.size f' s2 w7 hc7 hslz
      rw [HFG.out] at hcp2
      clear hcp hc6 hb06 hb7 hx16 hrow6
      go_wp2_with fail
      refine hcp2.mono ?_
      rintro e w8 ⟨f5, rfl, hs8, hb8⟩
      have hw18 := hw17.below hb8
      have hw28 := hw27.below hb8
      have hw18' := Away.arg hw17.row (hw17.row.below hb8) hs8 (Nat.le_refl _)
      have hw28' := Away.arg hw27.row (hw27.row.below hb8) hs8 (Nat.le_refl _)
      have hne : ∀ k, Foot f5 k → ¬ Foot f3 k := fun k hk hk2 => by
        have h1 := (hs8.foot k hk).1
        have h2 := (hs7.foot k hk2).2
        omega
      have hc8 := hc7.below hb8
      have hs78 := hs7.below hb8
      have hb08 := below_all hb07 hb8
      have hs8 := hs8.less (B' := w.heap.size) hb07.size
      have hlo := loose_any w.heap.size f' s2 w8 hc8
      obtain ⟨lz, hlz⟩ : ∃ lz, lz = s2.l.length - s2.k := ⟨_, rfl⟩
      rw [HFG.out, ← hlz] at hlo
      have hlz5 : lz ≤ 5000000000000 := by omega
      have HLZ := Lib.hid hlz
      have HNE := Lib.hid hne
      clear hcp2 hc7 hb07 hb8 hw17 hw27 hs7 hne hlz hslz hsl60 hc8
      go_wp2_with fail
      refine hlo.mono ?_
      rintro e w9 ⟨rfl, rfl⟩
      clear hlo
      have hi0 := HI0.out
      have hz0 := HZ0.out
      have hz1 := HZ1.out
      have hz2 := HZ2.out
      go_wp2_with fail
      go_loopw [17, 83] (fun v i wr => ∃ (k : Nat) (A' : Option Addr) (c' : Nat), k ≤ lz ∧ i = .int .i64 k ∧ v = .slice A' k c' ∧ Own wr w9.heap.size 3 1 A' k c' (iv (iota k)) ∧ Below w9.heap.size w9 wr) (fun _ i _ => lz - (intOf i).toNat)
      case atStart => exact ⟨0, none, 0, Nat.zero_le _, rfl, rfl, Own.nil _ _ _ _ _, Below.refl _ _⟩
      case round =>
        obtain ⟨k, A', c', hk, rfl, rfl, hown, hb⟩ := hrel
        by_cases hlt : k < lz
        · have HTS := Lib.hid (iota_succ k)
          go_wp2_with (at_builtin; refine wpList_app _ rfl _ _ 23 23 rfl w9.heap.size 3 i0 _ 1 8 Try.underlying23 hi0 hz0 hz1 hz2 rfl A' k c' _ rfl (hown.alloc _) _ 1 _ rfl (Src.new Try.underlying23 rfl (by simp [Value.oneCell'])) (by simp only [maxLen]; omega) (by omega) (Nat.le_trans hb.size (by simp)) ?_; intro A3 c3 w3 hown3 hg3 hb3; rw [show (#[Value.int .i64 (k : Int)] : Array Value).toList = [.int .i64 (k : Int)] from rfl, HTS.out] at hown3)
          go_roundw
          case rel => exact ⟨k + 1, A3, c3, by omega, by go_num, rfl, hown3, (hb.alloc hb.size _).grown hg3 (Nat.le_trans hb.size (by simp)) (fun i hi => (hown.lt i hi).1)⟩
          case measure => simp [intOf]; omega
        · obtain rfl : k = lz := by omega
          have hs7 := hs78.below hb
          have hs9 := hs8.below hb
          have hw1 := hw18.below hb
          have hw2 := hw28.below hb
          have hw1' := hw18'.below hb
          have hw2' := hw28'.below hb
          have hb09 := below_all hb08 hb
          have hlt3 := fun i hi => (hs78.foot i hi).2
          have hlt5 := fun i hi => (hs8.foot i hi).2
          have hkl := hown.lt
          have hcr := crash_any w.heap.size f3 s2 _ hs7 none 0 0 [] rfl ⟨Row.nil _ _, fun h => absurd rfl h⟩ (by omega)
          have hz3 : (doC s2 []).l = s.l := HEXT.out.none_
          have hz5 : (doC s2 (iota k)).l = s2.l := by rw [HLZ.out]; exact all_crash s2
          have hn3 : (doC s2 []).n = sec := H2N.out
          have hn5 : (doC s2 (iota k)).n = sec := H2N.out
          have hq3 : cat (doC s2 []).l 0 sec.toNat = WS := by rw [hz3]; exact HWS.out
          have hq5 : cat (doC s2 (iota k)).l 0 sec.toNat = NW := by rw [hz5]; exact HNW.out
          have hf3 : (doC s2 []).l.length - (doC s2 []).k = 0 := Nat.sub_self _
          have hf5 : (doC s2 (iota k)).l.length - (doC s2 (iota k)).k = 0 := Nat.sub_self _
          obtain ⟨s7, hs7e⟩ : ∃ s7, s7 = doC s2 [] := ⟨_, rfl⟩
          have hcr2 := fun u f (h : Sto u w.heap.size f s2) (h2 : Away u A' (iv (iota k)) (Foot f)) => crash_any w.heap.size f s2 u h A' k c' (iota k) (iota_length k) h2 (by omega)
          obtain ⟨s9, hs9e⟩ : ∃ s9, s9 = doC s2 (iota k) := ⟨_, rfl⟩
          rw [← hs7e] at hcr hn3 hq3 hf3
          simp only [← hs9e] at hcr2
          rw [← hs9e] at hn5 hq5 hf5
          have HCR2 := Lib.hid hcr2
          have HN3 := Lib.hid hn3
          have HN5 := Lib.hid hn5
          have HQ3 := Lib.hid hq3
          have HQ5 := Lib.hid hq5
          have HF3 := Lib.hid hf3
          have HF5 := Lib.hid hf5
          clear hs78 hs8 hw18 hw28 hw18' hw28' hb08 hb hz3 hz5 hn3 hn5 hq3 hq5 hf3 hf5 hs7e hs9e hcr2 hi0 hz0 hz1 hz2
          go_wp2_with fail
          refine hcr.mono ?_
          rintro e w10 ⟨f7, rfl, hs10, ht10⟩
          obtain ⟨hs9', hne10⟩ := ht10.other hs9 HNE.out
          have hown10 := hown.only ht10.only (fun i hi hf => by have := (hkl i hi).1; have := hlt3 i hf; omega)
          have hw10 := hw1.turned ht10
          have hw20 := hw2.turned ht10
          have hwp10 : Away w10 A1 (bv WS) (Foot f5) := ⟨hw10.row, hw1'.2⟩
          have hwp20 : Away w10 A2 (bv NW) (Foot f5) := ⟨hw20.row, hw2'.2⟩
          have hb10 := hb09.trans (ht10.belowB hs7)
          have hfg7 : f7.g = f3.g := ht10.same
          have hkw : Away w10 A' (iv (iota k)) (Foot f5) := ⟨hown10.row, fun hx a ha hf => by
            have h1 := hlt5 _ hf
            obtain ⟨hl', hnc, _, h0 | ⟨g, cur, lo, hi, he, hB, _⟩⟩ := hown10
            · subst h0
              have : k = 0 := by omega
              subst this
              exact hx rfl
            · rw [ha] at he
              injection he with he
              rw [he] at h1
              simp only at h1
              omega⟩
          have hcr3 := HCR2.out _ f5 hs9' hkw
          have HNE10 := Lib.hid hne10
          clear hcr hs7 hs9 hw1 hw2 hw1' hw2' hb09 hown hown10 hkl hlt3 hlt5 ht10 hkw hne10
          go_wp2_with fail
          refine hcr3.mono ?_
          rintro e w11 ⟨f8, rfl, hs11, ht11⟩
          obtain ⟨hs11', _⟩ := ht11.other hs10 (fun i hi hf => HNE10.out i hf hi)
          have hx1 := (hwp10.turned ht11).row
          have hx2 := (hwp20.turned ht11).row
          have hb11 := hb10.trans (ht11.belowB hs9')
          have hfg8 : f8.g = f5.g := ht11.same
          have hrd3 := read_whole w.heap.size f7 s7 w11 hs11' sec HN3.out WS HQ3.out
          rw [hfg7] at hrd3
          clear hcr3 hs9' hw10 hw20 hwp10 hwp20 hb10 ht11 hs10
          go_wp2_with fail
          refine hrd3.mono ?_
          rintro e w12 ⟨A5, m5, c5, rfl, hl5, hrow12, hb12, _⟩
          have hm5 : m5 = m1 := by rw [← hl5]; exact HL1.out
          subst hm5
          have hs12 := hs11.below hb12
          have hs12' := hs11'.below hb12
          have hx1 := hx1.below hb12
          have hx2 := hx2.below hb12
          have hb012 := below_all hb11 hb12
          have hrd5 := read_whole w.heap.size f8 s9 w12 hs12 sec HN5.out NW HQ5.out
          rw [hfg8] at hrd5
          clear hrd3 hl5 hs11 hs11' hb11 hb12
          go_wp2_with fail
          refine hrd5.mono ?_
          rintro e w13 ⟨A6, m6, c6, rfl, hl6, hrow13, hb13, _⟩
          have hm6 : m6 = m2 := by rw [← hl6]; exact HL2.out
          subst hm6
          have hs13 := hs12.below hb13
          have hs13' := hs12'.below hb13
          have hx1 := hx1.below hb13
          have hx2 := hx2.below hb13
          have hx3 := hrow12.below hb13
          have hb013 := below_all hb012 hb13
          clear hrd5 hl6 hs12 hs12' hb012 hb13 hrow12
          go_wp2_with fail
          refine (alive_any _).mono ?_
          rintro e w14 ⟨rfl, hb14⟩
          have hb014 := below_all hb013 hb14
          have hr1 := run_string (P := Try.prog) HL1.out 29 9 5 (c := c1) Try.underlying29 Try.underlying5 Try.underlying9 (hx1.below hb14)
          have hr2 := run_string (P := Try.prog) HL2.out 29 9 5 (c := c2) Try.underlying29 Try.underlying5 Try.underlying9 (hx2.below hb14)
          have hr3 := run_string (P := Try.prog) HL1.out 29 9 5 (c := c5) Try.underlying29 Try.underlying5 Try.underlying9 (hx3.below hb14)
          have hr4 := run_string (P := Try.prog) HL2.out 29 9 5 (c := c6) Try.underlying29 Try.underlying5 Try.underlying9 (hrow13.below hb14)
          have hlo3 := loose_any w.heap.size f7 s7 w14 (hs13'.below hb14)
          have hlo5 := loose_any w.heap.size f8 s9 w14 (hs13.below hb14)
          rw [hfg7, HF3.out] at hlo3
          rw [hfg8, HF5.out] at hlo5
          clear hs13 hs13' hx1 hx2 hx3 hrow13 hb013 hb14
          go_wp2_with fail
          refine hlo3.mono ?_
          rintro e w15 ⟨rfl, rfl⟩
          go_wp2_with fail
          refine hlo5.mono ?_
          rintro e w15 ⟨rfl, rfl⟩
          go_wp2_with fail
          go_ret
          exact ⟨rfl, hb014⟩
end Go.Proofs.Ytgblekjkphnjfaa
