/- The law StoreAll. Condition: the lengths fit memory. -/
import Derived.Test.YtgblekjkphnjfaaStL
namespace Go.Proofs.Ytgblekjkphnjfaa
open Go.RowKit
set_option linter.unusedSimpArgs false

set_option maxHeartbeats 8000000 in
theorem all_law (sec room : Int) (S : Option Addr) (n c : Nat) (ps : List Opv) (w : World) (hn : ps.length = n) (hr : Row w S (ocells ps)) (hn47 : n ≤ 140737488355328) (hg : ∀ p ∈ ps, Opv.Good w p) :
    Calls Try.prog 7 #[.int .i64 sec, .int .i64 room, .slice S n c] w fun e w' => e = .returned (.bool true) ∧ Below w.heap.size w w' := by
  have HN := Lib.hid hn
  have HG := Lib.hid hg
  go_enter Try.func7, Try.ntmps7
  go_wp2_with fail
  refine (few_any sec S n c ps w hn hr hn47 (fun p hp => ⟨(hg p hp).lb, (hg p hp).lk⟩)).mono ?_
  rintro e w1 ⟨fb, rfl, hfb, hb1⟩
  cases fb
  · clear hfb
    go_wp2_with fail
    refine (alive_any w1).mono ?_
    rintro e w2 ⟨rfl, hb2⟩
    go_wp2_with fail
    go_ret
    exact ⟨rfl, below_all hb1 hb2⟩
  have hn60 := hfb rfl
  clear hfb
  by_cases hmay : (0 ≤ sec ∧ sec ≤ 4096) ∧ 0 ≤ room
  rotate_left
  · have hm : mayN sec room = false := by
      unfold mayN
      rw [Bool.eq_false_iff]
      intro h
      simp only [Bool.and_eq_true, decide_eq_true_eq] at h
      exact hmay h
    have hnw := fun u => new_no sec room u hmay
    have hrn := fun u => rNew_any sec room u
    simp only [hm] at hrn
    clear hm hmay
    go_wp2_with fail
    refine (hnw _).mono ?_
    rintro e w2 ⟨rfl, rfl⟩
    go_wp2_with fail
    refine (hrn _).mono ?_
    rintro e w3 ⟨rfl, hb3⟩
    have hb03 := below_all hb1 hb3
    have hb03 := hb03.alloc hb03.size (.cells #[.int .i64 sec, .int .i64 room, .slice none 0 0, .int .i64 0] 49)
    go_wp2_with fail
    refine (alive_any _).mono ?_
    rintro e w4 ⟨rfl, hb4⟩
    go_wp2_with fail
    go_ret
    exact ⟨ret_bool (by simp), below_all hb03 hb4⟩
  have hm : mayN sec room = true := by
    unfold mayN
    simp only [Bool.and_eq_true, decide_eq_true_eq]
    exact hmay
  have hnw := fun u => new_yes sec room u hmay
  have hrn := fun u => rNew_any sec room u
  simp only [hm] at hrn
  clear hm hmay hn hg
  go_wp2_with fail
  refine (hnw _).mono ?_
  rintro e w2 ⟨f, rfl, hs2, hb2⟩
  have hs2 := hs2.less (B' := w.heap.size) hb1.size
  have hb02 := below_all hb1 hb2
  go_wp2_with fail
  refine (hrn _).mono ?_
  rintro e w3 ⟨rfl, hb3⟩
  have hs3 := (hs2.below hb3).alloc (.cells #[.int .i64 sec, .int .i64 room, .slice none 0 0, .int .i64 0] 49)
  have hb03 := below_all hb02 hb3
  have hsz3 := hb03.size
  have hb03 := hb03.alloc hb03.size (.cells #[.int .i64 sec, .int .i64 room, .slice none 0 0, .int .i64 0] 49)
  have hG3 := Blk.new w3 49 #[.int .i64 sec, .int .i64 room, .slice none 0 0, .int .i64 0]
  obtain ⟨g9, hg9⟩ : ∃ g9, g9 = w3.heap.size := ⟨_, rfl⟩
  rw [← hg9] at hG3
  have hg9w : w.heap.size ≤ g9 := by omega
  clear hnw hrn hs2 hb1 hb2 hb02 hb3
  go_wp2_with fail
  rw [← hg9]
  have HG9 := Lib.hid hg9
  clear hg9
  go_loopw [54] (fun i wr => ∃ (j : Nat) (s : St) (A' : Option Addr) (m' c' : Nat) (f' : Fp), j ≤ n ∧ i = .int .i64 j ∧ f'.g = f.g ∧ Sto wr w.heap.size f' s ∧ Blk wr g9 49 #[.int .i64 s.n, .int .i64 s.room, .slice A' m' c', .int .i64 s.k] ∧ s.l.length = m' ∧ m' ≤ 4096 * j ∧ Away wr A' (rcells s.l) (Foot f') ∧ (rcells s.l ≠ [] → ∀ a, A' = some a → g9 < a.block) ∧ Below w.heap.size w wr)
    (fun i _ => n - (intOf i).toNat)
  case atStart => exact ⟨0, ⟨sec, room, [], 0⟩, none, 0, 0, f, Nat.zero_le _, rfl, rfl, hs3, hG3, rfl, Nat.zero_le _, ⟨Row.nil _ _, fun h => absurd rfl h⟩, fun h => absurd rfl h, hb03⟩
  case round =>
    obtain ⟨j, s, A', m', c', f', hj, rfl, hfg, hs, hK9, hlm, hm4, hA, hA9, hbr⟩ := hrel
    by_cases hlt : j < n
    · have hjl : j < ps.length := by rw [HN.out]; exact hlt
      have hrr := hr.below hbr
      obtain ⟨g, o, rfl, hgw, c0, c1, c2, c3, c4⟩ := hrr.opv hjl
      have hgood := HG.out ps[j] (List.getElem_mem hjl)
      obtain ⟨p, hp⟩ : ∃ p, p = ps[j] := ⟨_, rfl⟩
      rw [← hp] at c0 c1 c2 c3 c4 hgood
      have hDo := rDo_any s p.o A' m' c' p.D p.o.b.length p.dc p.K p.o.keep.length p.kc (wr.alloc (.cells #[.int .i64 p.o.kind, .int .i64 p.o.at_, .int .i64 p.o.n, .slice p.D p.o.b.length p.dc, .slice p.K p.o.keep.length p.kc] 35)) hs.ok hlm (hA.row.alloc _) (by omega) rfl hgood.hb (by have := hgood.lb; omega) ((hgood.rb.below hbr).alloc _) rfl (by have := hgood.lk; omega) ((hgood.rk.below hbr).alloc _) hgood.ik hgood.in_.2
      have hlen := doO_len hs.ok p.o
      have hok := hs.ok.op p.o
      have hdoes := fun u f3 (h : Sto u w.heap.size f3 s) (hb : Below w.heap.size w u) => does_any w.heap.size f3 s p.o p.D p.o.b.length p.dc p.K p.o.keep.length p.kc u h (by rw [hlm]; omega) rfl hgood.hb (by have := hgood.lb; omega) (Away.of hgood.rb h (Nat.le_refl _) hb) rfl (by have := hgood.lk; omega) (Away.of hgood.rk h (Nat.le_refl _) hb) hgood.in_.2 hgood.ia
      obtain ⟨⟨⟨sn, sr, sl, sk⟩, x, er⟩, hxe⟩ : ∃ r, r = doO s p.o := ⟨_, rfl⟩
      rw [← hxe] at hDo hlen hok
      simp only [← hxe] at hdoes
      have HDOES := Lib.hid hdoes
      have h12 := Blk.new wr 35 #[.int .i64 p.o.kind, .int .i64 p.o.at_, .int .i64 p.o.n, .slice p.D p.o.b.length p.dc, .slice p.K p.o.keep.length p.kc]
      have hs1 := hs.alloc (.cells #[.int .i64 p.o.kind, .int .i64 p.o.at_, .int .i64 p.o.n, .slice p.D p.o.b.length p.dc, .slice p.K p.o.keep.length p.kc] 35)
      have hA1 := hA.below ((Below.refl _ wr).alloc (Nat.le_refl _) (.cells #[.int .i64 p.o.kind, .int .i64 p.o.at_, .int .i64 p.o.n, .slice p.D p.o.b.length p.dc, .slice p.K p.o.keep.length p.kc] 35))
      have hK91 := hK9.alloc (.cells #[.int .i64 p.o.kind, .int .i64 p.o.at_, .int .i64 p.o.n, .slice p.D p.o.b.length p.dc, .slice p.K p.o.keep.length p.kc] 35)
      have hb1 := hbr.alloc hbr.size (.cells #[.int .i64 p.o.kind, .int .i64 p.o.at_, .int .i64 p.o.n, .slice p.D p.o.b.length p.dc, .slice p.K p.o.keep.length p.kc] 35)
      have hl9 := hK9.lt
      obtain ⟨g12, hg12⟩ : ∃ g12, g12 = wr.heap.size := ⟨_, rfl⟩
      rw [← hg12] at h12
      obtain ⟨k0, k1, k2, k3, k4⟩ := h12.five
      obtain ⟨⟨i0, i1, i2, i3⟩, _⟩ := hK91.four
      have hne9 : g9 ≠ g12 := by omega
      clear hp hxe hdoes hrr hs hA hK9
      go_wp2_with fail
      rw [← hg12]
      have HG12 := Lib.hid hg12
      clear hg12
      refine hDo.mono ?_
      rintro e w4 ⟨A4, m4, c4', rfl, hl4, hrn4, hb4⟩
      clear hDo c0 c1 c2 c3 c4 hgood k0 k1 k2 k3 k4 i0 i1 i2 i3
      simp only at hl4 hrn4 hlen hok
      have hA4 := hrn4.away hA1 hs1
      have hA49 : rcells sl ≠ [] → ∀ a, A4 = some a → g9 < a.block := by
        obtain ⟨_, ⟨rfl, rfl⟩ | h2⟩ := hrn4
        · exact hA9
        · intro hx a ha
          have := h2 hx a ha
          simp at this
          omega
      have hs4 := (hs1.below hb4).alloc (.cells #[.int .i64 sn, .int .i64 sr, .slice A4 m4 c4', .int .i64 sk] 49)
      have hA5 := hA4.below ((Below.refl _ w4).alloc (Nat.le_refl _) (.cells #[.int .i64 sn, .int .i64 sr, .slice A4 m4 c4', .int .i64 sk] 49))
      have hK5 := (hK91.belowAll hb4).alloc (.cells #[.int .i64 sn, .int .i64 sr, .slice A4 m4 c4', .int .i64 sk] 49)
      have h125 := (h12.belowAll hb4).alloc (.cells #[.int .i64 sn, .int .i64 sr, .slice A4 m4 c4', .int .i64 sk] 49)
      have h13 := Blk.new w4 49 #[.int .i64 sn, .int .i64 sr, .slice A4 m4 c4', .int .i64 sk]
      have hb5 := below_all hb1 hb4
      have hb5 := hb5.alloc hb5.size (.cells #[.int .i64 sn, .int .i64 sr, .slice A4 m4 c4', .int .i64 sk] 49)
      have hne13 : g9 ≠ w4.heap.size := by have := hb4.size; simp at this; omega
      have hn9 := hs4.apart hK5 (by decide) (by decide)
      clear hs1 hA1 hK91 h12 hb1 hA4 hrn4 hb4 hA9
      obtain ⟨w5, hw5⟩ : ∃ w5, w5 = w4.alloc (.cells #[.int .i64 sn, .int .i64 sr, .slice A4 m4 c4', .int .i64 sk] 49) := ⟨_, rfl⟩
      have HW5 := Lib.hid hw5
      rw [← hw5] at hs4 hA5 hK5 h125 h13 hb5
      clear hw5
      obtain ⟨⟨i0, i1, i2, i3⟩, z0, z1, z2, z3⟩ := hK5.four
      obtain ⟨⟨l0, l1, l2, l3⟩, _⟩ := h13.four
      have ho9 : Only w5 ((((w5.setCell ⟨g9, 0, none⟩ (.int .i64 sn)).setCell ⟨g9, 1, none⟩ (.int .i64 sr)).setCell ⟨g9, 2, none⟩ (.slice A4 m4 c4')).setCell ⟨g9, 3, none⟩ (.int .i64 sk)) (fun i => i = g9) :=
        ((((Only.refl w5 (fun i => i = g9)).setCell (p := ⟨g9, 0, none⟩) (.inl rfl) _).setCell (p := ⟨g9, 1, none⟩) (.inl rfl) _).setCell (p := ⟨g9, 2, none⟩) (.inl rfl) _).setCell (p := ⟨g9, 3, none⟩) (.inl rfl) _
      have hs6 := hs4.only ho9 (fun k hk e => hn9 (e ▸ hk))
      have hK6 : Blk ((((w5.setCell ⟨g9, 0, none⟩ (.int .i64 sn)).setCell ⟨g9, 1, none⟩ (.int .i64 sr)).setCell ⟨g9, 2, none⟩ (.slice A4 m4 c4')).setCell ⟨g9, 3, none⟩ (.int .i64 sk)) g9 49 #[.int .i64 sn, .int .i64 sr, .slice A4 m4 c4', .int .i64 sk] := (((hK5.set_ 0 _).set_ 1 _).set_ 2 _).set_ 3 _
      have h126 := h125.only ho9 (fun e => hne9 e.symm)
      have hA6 : Away ((((w5.setCell ⟨g9, 0, none⟩ (.int .i64 sn)).setCell ⟨g9, 1, none⟩ (.int .i64 sr)).setCell ⟨g9, 2, none⟩ (.slice A4 m4 c4')).setCell ⟨g9, 3, none⟩ (.int .i64 sk)) A4 (rcells sl) (Foot f') := by
        refine ⟨?_, hA5.2⟩
        by_cases hx : rcells sl = []
        · rw [hx]; exact Row.nil _ _
        · exact hA5.1.only ho9 (fun a ha e => by have := hA49 hx a ha; omega)
      have hb6 : Below w.heap.size w ((((w5.setCell ⟨g9, 0, none⟩ (.int .i64 sn)).setCell ⟨g9, 1, none⟩ (.int .i64 sr)).setCell ⟨g9, 2, none⟩ (.slice A4 m4 c4')).setCell ⟨g9, 3, none⟩ (.int .i64 sk)) :=
        (((hb5.setCell (p := ⟨g9, 0, none⟩) hg9w _).setCell (p := ⟨g9, 1, none⟩) hg9w _).setCell (p := ⟨g9, 2, none⟩) hg9w _).setCell (p := ⟨g9, 3, none⟩) hg9w _
      obtain ⟨k0, k1, k2, k3, k4⟩ := h126.five
      have hlen9 : sl.length = m4 := hl4
      go_upto_region 13 with fail
      rw [← HW5.out]
      clear HW5
      go_upto_region 14 with fail
      obtain ⟨w6, hw6⟩ : ∃ w6, w6 = ((((w5.setCell ⟨g9, 0, none⟩ (.int .i64 sn)).setCell ⟨g9, 1, none⟩ (.int .i64 sr)).setCell ⟨g9, 2, none⟩ (.slice A4 m4 c4')).setCell ⟨g9, 3, none⟩ (.int .i64 sk)) := ⟨_, rfl⟩
      rw [← hw6] at hs6 hK6 h126 hA6 hb6 ho9 k0 k1 k2 k3 k4 ⊢
      clear hw6 i0 i1 i2 i3 z0 z1 z2 z3 l0 l1 l2 l3 ho9 hs4 hA5 hK5 h125 h13 hb5
      go_wp2_with fail
      have hd := HDOES.out _ f' hs6 hb6
      rw [hfg] at hd
      refine hd.mono ?_
      rintro e w7 ⟨f7, rfl, hs7, ht7⟩
      have hA7 := hA6.turned ht7
      have hK7 := hK6.only ht7.only (hs6.apart hK6 (by decide) (by decide))
      have hb7 := hb6.trans (ht7.belowB hs6)
      have hfg7 : f7.g = f.g := ht7.same.trans hfg
      clear hs6 hA6 hK6 h126 hb6 k0 k1 k2 k3 k4 ht7
      obtain ⟨⟨i0, i1, i2, i3⟩, _⟩ := hK7.four
      have hst := stands_any w.heap.size f7 ⟨sn, sr, sl, sk⟩ A4 m4 c4' w7 hs7 hlen9 hA7.row (by omega)
      rw [hfg7] at hst
      clear hd
      go_wp2_with fail
      refine hst.mono ?_
      rintro e w8 ⟨rfl, hb8⟩
      have hs8 := hs7.below hb8
      have hA8 := hA7.below hb8
      have hK8 := hK7.belowAll hb8
      have hb08 := below_all hb7 hb8
      clear i0 i1 i2 i3
      go_wp2_with fail
      go_roundw
      case rel => exact ⟨j + 1, ⟨sn, sr, sl, sk⟩, A4, m4, c4', f7, by omega, by go_num, hfg7, hs8, hK8, hlen9, by omega, hA8, hA49, hb08⟩
      case measure => simp [intOf]; omega
    · obtain rfl : j = n := by omega
      go_wp2_with fail
      refine (alive_any wr).mono ?_
      rintro e w4 ⟨rfl, hb4⟩
      go_wp2_with fail
      go_ret
      exact ⟨rfl, below_all hbr hb4⟩
end Go.Proofs.Ytgblekjkphnjfaa
