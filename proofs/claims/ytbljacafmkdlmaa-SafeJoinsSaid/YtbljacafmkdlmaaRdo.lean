/- pentimentoref03.Do. Conditions: the lengths fit memory; the numbers are int64's. -/
import Derived.Test.YtbljacafmkdlmaaMgL
namespace Go.Proofs.Ytbljacafmkdlmaa
set_option maxRecDepth 100000
open Go.RowKit
set_option linter.unusedSimpArgs false

/-- What a call gives: the store, what Read tells, the error. -/
def DoPost (w : World) (A : Option Addr) (l : List Wrt) (r : St × List UInt8 × Int) (e : Ending) (w' : World) : Prop :=
  ∃ A' m' c', e = .returned (.tuple #[.agg #[.int .i64 r.1.n, .int .i64 r.1.room, .slice A' m' c', .int .i64 r.1.k], .string (str r.2.1), .int .i64 r.2.2]) ∧ r.1.l.length = m' ∧ RNew w w' A l A' r.1.l ∧ Below w.heap.size w w'
theorem RNew.over {w w2 w5 wF : World} {A A' : Option Addr} {l l' : List Wrt} (h : RNew w2 w5 A l A' l') (hr : rcells l ≠ [] → ∀ a, A = some a → a.block < w.heap.size) (h2 : w.heap.size + 3 ≤ w2.heap.size) (ho : Only w5 wF (fun i => i = w.heap.size ∨ i = w.heap.size + 2)) : RNew w wF A l A' l' := by
  obtain ⟨h1, h3⟩ := h
  refine ⟨?_, ?_⟩
  · by_cases hx : rcells l' = []
    · rw [hx]; exact Row.nil _ _
    · refine h1.only ho (fun a ha hF => ?_)
      rcases h3 with ⟨rfl, rfl⟩ | h3
      · have := hr hx a ha
        omega
      · have := h3 hx a ha
        omega
  · rcases h3 with h3 | h3
    · exact .inl h3
    · exact .inr fun hx a ha => by have := h3 hx a ha; omega
theorem Blk.five {w : World} {g : Nat} {t : TypeId} {a b c d e : Value} (h : Blk w g t #[a, b, c, d, e]) : w.cell? ⟨g, 0, none⟩ = some a ∧ w.cell? ⟨g, 1, none⟩ = some b ∧ w.cell? ⟨g, 2, none⟩ = some c ∧ w.cell? ⟨g, 3, none⟩ = some d ∧ w.cell? ⟨g, 4, none⟩ = some e :=
  ⟨h.cell 0, h.cell 1, h.cell 2, h.cell 3, h.cell 4⟩

set_option maxHeartbeats 4000000 in
theorem rDo_any (s : St) (o : Opn) (A : Option Addr) (m c : Nat) (D : Option Addr) (q cb : Nat) (K : Option Addr) (p ck : Nat) (w : World) (hok : s.OK) (hm : s.l.length = m) (hr : Row w A (rcells s.l)) (hsz : m + 4096 ≤ 5000000000000)
    (hq : o.b.length = q) (hqc : q ≤ cb) (hqm : q ≤ 9000000000000000000) (hrb : Row w D (bv o.b)) (hp : o.keep.length = p) (hpm : p ≤ 9000000000000000000) (hrk : Row w K (iv o.keep)) (hkb : ∀ x ∈ o.keep, -9223372036854775808 ≤ x ∧ x ≤ 9223372036854775807) (ho : o.n ≤ 9223372036854775807) :
    Calls Try.prog 19 #[.agg #[.int .i64 s.n, .int .i64 s.room, .slice A m c, .int .i64 s.k], .agg #[.int .i64 o.kind, .int .i64 o.at_, .int .i64 o.n, .slice D q cb, .slice K p ck]] w (DoPost w A s.l (doO s o)) := by
  have hb2 : Below w.heap.size w (((w.alloc (.cells #[.int .i64 s.n, .int .i64 s.room, .slice A m c, .int .i64 s.k] 27)).alloc (.cells #[.int .i64 o.kind, .int .i64 o.at_, .int .i64 o.n, .slice D q cb, .slice K p ck] 45)).alloc (.cells #[.int .i64 0, .int .i64 0, .slice none 0 0, .int .i64 0] 27)) := (((Below.refl _ _).alloc (Nat.le_refl _) _).alloc (by simp) _).alloc (by simp; omega) _
  have hG2 := ((Blk.new w 27 #[.int .i64 s.n, .int .i64 s.room, .slice A m c, .int .i64 s.k]).alloc (.cells #[.int .i64 o.kind, .int .i64 o.at_, .int .i64 o.n, .slice D q cb, .slice K p ck] 45)).alloc (.cells #[.int .i64 0, .int .i64 0, .slice none 0 0, .int .i64 0] 27)
  have hG3 := (Blk.new (w.alloc (.cells #[.int .i64 s.n, .int .i64 s.room, .slice A m c, .int .i64 s.k] 27)) 45 #[.int .i64 o.kind, .int .i64 o.at_, .int .i64 o.n, .slice D q cb, .slice K p ck]).alloc (.cells #[.int .i64 0, .int .i64 0, .slice none 0 0, .int .i64 0] 27)
  have hG4 := Blk.new ((w.alloc (.cells #[.int .i64 s.n, .int .i64 s.room, .slice A m c, .int .i64 s.k] 27)).alloc (.cells #[.int .i64 o.kind, .int .i64 o.at_, .int .i64 o.n, .slice D q cb, .slice K p ck] 45)) 27 #[.int .i64 0, .int .i64 0, .slice none 0 0, .int .i64 0]
  simp only [World.size_alloc] at hG3 hG4
  have hG4 : Blk (((w.alloc (.cells #[.int .i64 s.n, .int .i64 s.room, .slice A m c, .int .i64 s.k] 27)).alloc (.cells #[.int .i64 o.kind, .int .i64 o.at_, .int .i64 o.n, .slice D q cb, .slice K p ck] 45)).alloc (.cells #[.int .i64 0, .int .i64 0, .slice none 0 0, .int .i64 0] 27)) (w.heap.size + 2) 27 #[.int .i64 0, .int .i64 0, .slice none 0 0, .int .i64 0] := hG4
  have hrl := hr.below hb2
  have hrd := hrb.below hb2
  have hrkk := hrk.below hb2
  obtain ⟨w2, hw2⟩ : ∃ w2, w2 = (((w.alloc (.cells #[.int .i64 s.n, .int .i64 s.room, .slice A m c, .int .i64 s.k] 27)).alloc (.cells #[.int .i64 o.kind, .int .i64 o.at_, .int .i64 o.n, .slice D q cb, .slice K p ck] 45)).alloc (.cells #[.int .i64 0, .int .i64 0, .slice none 0 0, .int .i64 0] 27)) := ⟨_, rfl⟩
  rw [← hw2] at hb2 hG2 hG3 hG4 hrl hrd hrkk
  have HW2 := Lib.hid hw2
  have hw2s : w2.heap.size = w.heap.size + 3 := by rw [hw2]; simp
  have h16 : ∀ x ∈ s.l, x.2.length = 16 := fun x hx => (hok.w x hx).2.2
  obtain ⟨N, hN⟩ := Int.eq_ofNat_of_zero_le hok.n0
  have hN4 : N ≤ 4096 := by have := hok.n1; omega
  have hk := hok.k
  rw [hm] at hk
  obtain ⟨⟨c0, c1, c2, c3⟩, z0, z1, z2, z3⟩ := hG2.four
  obtain ⟨d0, d1, d2, d3, d4⟩ := hG3.five
  obtain ⟨⟨b0, b1, b2, b3⟩, y0, y1, y2, y3⟩ := hG4.four
  have HLT := Lib.hid (fun (hx : rcells s.l ≠ []) a ha => hr.lt hx a ha)
  have hSame := fun w' (hb : Below w.heap.size w w') => RNew.same hr hb
  have HS := Lib.hid hSame
  have HM := Lib.hid hm
  have hdo : ∃ dd, dd = doO s o := ⟨_, rfl⟩
  obtain ⟨dd, hdd⟩ := hdo
  rw [← hdd]
  have HDD := Lib.hid hdd
  clear hw2 hSame hdd hr hrb hrk
  by_cases hk0 : o.kind = 0
  · have he : doO s o = ((doW s o.at_ o.b).1, [], (doW s o.at_ o.b).2) := by unfold doO; rw [if_pos hk0]
    have hse : (⟨(N : Int), s.room, s.l, s.k⟩ : St) = s := by rw [← hN]
    have hcall := rWrite_any N s.room A m c s.k s.l o.at_ D q cb o.b w2 hN4 hm hrl hsz hq hqc hqm hrd
    rw [hse, ← hN] at hcall
    have hWn : (doW s o.at_ o.b).1 = ⟨s.n, s.room, (doW s o.at_ o.b).1.l, s.k⟩ := by unfold doW; (repeat' split) <;> rfl
    obtain ⟨wl, hwl⟩ : ∃ wl, wl = (doW s o.at_ o.b).1.l := ⟨_, rfl⟩
    obtain ⟨we, hwe⟩ : ∃ we, we = (doW s o.at_ o.b).2 := ⟨_, rfl⟩
    rw [← hwl, ← hwe] at hcall
    rw [← hwl] at hWn
    rw [hWn, ← hwe] at he
    have HE := Lib.hid he
    clear he hm hq hp hN hwl hwe hse hWn
    have HK0 := Lib.hid hk0
    clear hk0
    go_enter Try.func19, Try.ntmps19
    go_upto_region 1 with fail
    rw [← HW2.out]
    clear HW2
    have hk0 := HK0.out
    go_wp2_with fail
    refine hcall.mono ?_
    rintro e w5 ⟨A', m', c', rfl, hlen, hrn, hb5⟩
    clear hcall
    have hG25 := hG2.belowAll hb5
    have hG35 := hG3.belowAll hb5
    have hG45 := hG4.belowAll hb5
    have hb05 := below_all hb2 hb5
    obtain ⟨⟨e0, e1, e2, e3⟩, x0, x1, x2, x3⟩ := hG25.four
    obtain ⟨i0, i1, i2, i3, i4⟩ := hG35.five
    obtain ⟨⟨j0, j1, j2, j3⟩, t0, t1, t2, t3⟩ := hG45.four
    clear c0 c1 c2 c3 z0 z1 z2 z3 d0 d1 d2 d3 d4 b0 b1 b2 b3 y0 y1 y2 y3
    have HLEN := Lib.hid hlen
    have HRN := Lib.hid hrn
    clear hlen hrn
    have hK2 : Blk ((((w5.setCell ⟨w.heap.size, 0, none⟩ (.int .i64 s.n)).setCell ⟨w.heap.size, 1, none⟩ (.int .i64 s.room)).setCell ⟨w.heap.size, 2, none⟩ (.slice A' m' c')).setCell ⟨w.heap.size, 3, none⟩ (.int .i64 s.k)) (w.heap.size) 27 #[.int .i64 s.n, .int .i64 s.room, .slice A' m' c', .int .i64 s.k] := ((((hG25.set_ 0 (.int .i64 s.n)).set_ 1 (.int .i64 s.room)).set_ 2 (.slice A' m' c')).set_ 3 (.int .i64 s.k))
    have hK4 : Blk ((((w5.setCell ⟨w.heap.size, 0, none⟩ (.int .i64 s.n)).setCell ⟨w.heap.size, 1, none⟩ (.int .i64 s.room)).setCell ⟨w.heap.size, 2, none⟩ (.slice A' m' c')).setCell ⟨w.heap.size, 3, none⟩ (.int .i64 s.k)) (w.heap.size + 2) 27 #[.int .i64 0, .int .i64 0, .slice none 0 0, .int .i64 0] := ((((hG45.far (p := ⟨w.heap.size, 0, none⟩) (by simp) (.int .i64 s.n)).far (p := ⟨w.heap.size, 1, none⟩) (by simp) (.int .i64 s.room)).far (p := ⟨w.heap.size, 2, none⟩) (by simp) (.slice A' m' c')).far (p := ⟨w.heap.size, 3, none⟩) (by simp) (.int .i64 s.k))
    have hKb : Below w.heap.size w ((((w5.setCell ⟨w.heap.size, 0, none⟩ (.int .i64 s.n)).setCell ⟨w.heap.size, 1, none⟩ (.int .i64 s.room)).setCell ⟨w.heap.size, 2, none⟩ (.slice A' m' c')).setCell ⟨w.heap.size, 3, none⟩ (.int .i64 s.k)) := ((((hb05.setCell (p := ⟨w.heap.size, 0, none⟩) (by simp) (.int .i64 s.n)).setCell (p := ⟨w.heap.size, 1, none⟩) (by simp) (.int .i64 s.room)).setCell (p := ⟨w.heap.size, 2, none⟩) (by simp) (.slice A' m' c')).setCell (p := ⟨w.heap.size, 3, none⟩) (by simp) (.int .i64 s.k))
    obtain ⟨⟨k0, k1, k2, k3⟩, _⟩ := hK2.four
    obtain ⟨⟨l0, l1, l2, l3⟩, n0, n1, n2, n3⟩ := hK4.four
    have hbF : Below w.heap.size w ((((((((w5.setCell ⟨w.heap.size, 0, none⟩ (.int .i64 s.n)).setCell ⟨w.heap.size, 1, none⟩ (.int .i64 s.room)).setCell ⟨w.heap.size, 2, none⟩ (.slice A' m' c')).setCell ⟨w.heap.size, 3, none⟩ (.int .i64 s.k)).setCell ⟨w.heap.size + 2, 0, none⟩ (.int .i64 s.n)).setCell ⟨w.heap.size + 2, 1, none⟩ (.int .i64 s.room)).setCell ⟨w.heap.size + 2, 2, none⟩ (.slice A' m' c')).setCell ⟨w.heap.size + 2, 3, none⟩ (.int .i64 s.k)) := ((((hKb.setCell (p := ⟨w.heap.size + 2, 0, none⟩) (by simp) (.int .i64 s.n)).setCell (p := ⟨w.heap.size + 2, 1, none⟩) (by simp) (.int .i64 s.room)).setCell (p := ⟨w.heap.size + 2, 2, none⟩) (by simp) (.slice A' m' c')).setCell (p := ⟨w.heap.size + 2, 3, none⟩) (by simp) (.int .i64 s.k))
    go_wp2_with fail
    refine bodyPost_ret (results_row_tmps rfl _ _ _ 27 _ (0, 0) _ rfl (show Blk _ _ _ #[.int .i64 s.n, .int .i64 s.room, .slice A' m' c', .int .i64 s.k] from ((((hK4).set_ 0 _).set_ 1 _).set_ 2 _).set_ 3 _) Try.underlying27 rfl (rst_info _ _ _ _)) rfl ?_
    rw [HDD.out, HE.out]
    exact ⟨A', m', c', rfl, HLEN.out, HRN.out.over HLT.out (by omega) (((((((((Only.refl w5 (fun i => i = w.heap.size ∨ i = w.heap.size + 2)).setCell (p := ⟨w.heap.size, 0, none⟩) (.inl (.inl rfl)) (.int .i64 s.n)).setCell (p := ⟨w.heap.size, 1, none⟩) (.inl (.inl rfl)) (.int .i64 s.room)).setCell (p := ⟨w.heap.size, 2, none⟩) (.inl (.inl rfl)) (.slice A' m' c')).setCell (p := ⟨w.heap.size, 3, none⟩) (.inl (.inl rfl)) (.int .i64 s.k)).setCell (p := ⟨w.heap.size + 2, 0, none⟩) (.inl (.inr rfl)) (.int .i64 s.n)).setCell (p := ⟨w.heap.size + 2, 1, none⟩) (.inl (.inr rfl)) (.int .i64 s.room)).setCell (p := ⟨w.heap.size + 2, 2, none⟩) (.inl (.inr rfl)) (.slice A' m' c')).setCell (p := ⟨w.heap.size + 2, 3, none⟩) (.inl (.inr rfl)) (.int .i64 s.k)), hbF⟩
  by_cases hk1 : o.kind = 1
  · have he : doO s o = (s, (rdS s o.at_ o.n).1, (rdS s o.at_ o.n).2) := by unfold doO; rw [if_neg hk0]; rw [if_pos hk1]
    have hcall := rRead_any s.n s.room A m c s.k s.l o.at_ o.n w2 ⟨hok.n0, hok.n1⟩ hm hrl (by omega) h16 ho
    obtain ⟨r1, hr1⟩ : ∃ r1, r1 = (rdS s o.at_ o.n).1 := ⟨_, rfl⟩
    obtain ⟨r2, hr2⟩ : ∃ r2, r2 = (rdS s o.at_ o.n).2 := ⟨_, rfl⟩
    change Calls _ _ _ _ (fun e w' => e = .returned (.tuple #[.string (str (rdS s o.at_ o.n).1), .int .i64 (rdS s o.at_ o.n).2]) ∧ Below w2.heap.size w2 w') at hcall
    rw [← hr1, ← hr2] at hcall he
    have HE := Lib.hid he
    clear he hm hq hp hN hr1 hr2
    have HK0 := Lib.hid hk0
    have HK1 := Lib.hid hk1
    clear hk0 hk1
    go_enter Try.func19, Try.ntmps19
    go_upto_region 1 with fail
    rw [← HW2.out]
    clear HW2
    have hk0 := HK0.out
    have hk1 := HK1.out
    go_wp2_with fail
    refine hcall.mono ?_
    rintro e w5 ⟨rfl, hb5⟩
    clear hcall
    have hG25 := hG2.belowAll hb5
    have hG35 := hG3.belowAll hb5
    have hG45 := hG4.belowAll hb5
    have hb05 := below_all hb2 hb5
    obtain ⟨⟨e0, e1, e2, e3⟩, x0, x1, x2, x3⟩ := hG25.four
    obtain ⟨i0, i1, i2, i3, i4⟩ := hG35.five
    obtain ⟨⟨j0, j1, j2, j3⟩, t0, t1, t2, t3⟩ := hG45.four
    clear c0 c1 c2 c3 z0 z1 z2 z3 d0 d1 d2 d3 d4 b0 b1 b2 b3 y0 y1 y2 y3
    have hK2 : Blk w5 (w.heap.size) 27 #[.int .i64 s.n, .int .i64 s.room, .slice A m c, .int .i64 s.k] := hG25
    have hK4 : Blk w5 (w.heap.size + 2) 27 #[.int .i64 0, .int .i64 0, .slice none 0 0, .int .i64 0] := hG45
    have hKb : Below w.heap.size w w5 := hb05
    obtain ⟨⟨k0, k1, k2, k3⟩, _⟩ := hK2.four
    obtain ⟨⟨l0, l1, l2, l3⟩, n0, n1, n2, n3⟩ := hK4.four
    have hbF : Below w.heap.size w ((((w5.setCell ⟨w.heap.size + 2, 0, none⟩ (.int .i64 s.n)).setCell ⟨w.heap.size + 2, 1, none⟩ (.int .i64 s.room)).setCell ⟨w.heap.size + 2, 2, none⟩ (.slice A m c)).setCell ⟨w.heap.size + 2, 3, none⟩ (.int .i64 s.k)) := ((((hKb.setCell (p := ⟨w.heap.size + 2, 0, none⟩) (by simp) (.int .i64 s.n)).setCell (p := ⟨w.heap.size + 2, 1, none⟩) (by simp) (.int .i64 s.room)).setCell (p := ⟨w.heap.size + 2, 2, none⟩) (by simp) (.slice A m c)).setCell (p := ⟨w.heap.size + 2, 3, none⟩) (by simp) (.int .i64 s.k))
    go_wp2_with fail
    refine bodyPost_ret (results_row_tmps rfl _ _ _ 27 _ (0, 0) _ rfl (show Blk _ _ _ #[.int .i64 s.n, .int .i64 s.room, .slice A m c, .int .i64 s.k] from ((((hK4).set_ 0 _).set_ 1 _).set_ 2 _).set_ 3 _) Try.underlying27 rfl (rst_info _ _ _ _)) rfl ?_
    rw [HDD.out, HE.out]
    exact ⟨A, m, c, rfl, HM.out, HS.out _ hbF, hbF⟩
  by_cases hk2 : o.kind = 2
  · have he : doO s o = (⟨s.n, s.room, s.l, m⟩, [], 0) := by unfold doO; rw [if_neg hk0]; rw [if_neg hk1]; rw [if_pos hk2]; unfold doF; rw [hm]
    have HE := Lib.hid he
    clear he hm hq hp hN
    have HK0 := Lib.hid hk0
    have HK1 := Lib.hid hk1
    have HK2 := Lib.hid hk2
    clear hk0 hk1 hk2
    go_enter Try.func19, Try.ntmps19
    go_upto_region 1 with fail
    rw [← HW2.out]
    clear HW2
    have hk0 := HK0.out
    have hk1 := HK1.out
    have hk2 := HK2.out
    have hK2 : Blk (w2.setCell ⟨w.heap.size, 3, none⟩ (.int .i64 m)) (w.heap.size) 27 #[.int .i64 s.n, .int .i64 s.room, .slice A m c, .int .i64 m] := (hG2.set_ 3 (.int .i64 m))
    have hK4 : Blk (w2.setCell ⟨w.heap.size, 3, none⟩ (.int .i64 m)) (w.heap.size + 2) 27 #[.int .i64 0, .int .i64 0, .slice none 0 0, .int .i64 0] := (hG4.far (p := ⟨w.heap.size, 3, none⟩) (by simp) (.int .i64 m))
    have hKb : Below w.heap.size w (w2.setCell ⟨w.heap.size, 3, none⟩ (.int .i64 m)) := (hb2.setCell (p := ⟨w.heap.size, 3, none⟩) (by simp) (.int .i64 m))
    obtain ⟨⟨k0, k1, k2, k3⟩, _⟩ := hK2.four
    obtain ⟨⟨l0, l1, l2, l3⟩, n0, n1, n2, n3⟩ := hK4.four
    have hbF : Below w.heap.size w (((((w2.setCell ⟨w.heap.size, 3, none⟩ (.int .i64 m)).setCell ⟨w.heap.size + 2, 0, none⟩ (.int .i64 s.n)).setCell ⟨w.heap.size + 2, 1, none⟩ (.int .i64 s.room)).setCell ⟨w.heap.size + 2, 2, none⟩ (.slice A m c)).setCell ⟨w.heap.size + 2, 3, none⟩ (.int .i64 m)) := ((((hKb.setCell (p := ⟨w.heap.size + 2, 0, none⟩) (by simp) (.int .i64 s.n)).setCell (p := ⟨w.heap.size + 2, 1, none⟩) (by simp) (.int .i64 s.room)).setCell (p := ⟨w.heap.size + 2, 2, none⟩) (by simp) (.slice A m c)).setCell (p := ⟨w.heap.size + 2, 3, none⟩) (by simp) (.int .i64 m))
    go_wp2_with fail
    refine bodyPost_ret (results_row_tmps rfl _ _ _ 27 _ (0, 0) _ rfl (show Blk _ _ _ #[.int .i64 s.n, .int .i64 s.room, .slice A m c, .int .i64 m] from ((((hK4).set_ 0 _).set_ 1 _).set_ 2 _).set_ 3 _) Try.underlying27 rfl (rst_info _ _ _ _)) rfl ?_
    rw [HDD.out, HE.out]
    exact ⟨A, m, c, rfl, HM.out, HS.out _ hbF, hbF⟩
  by_cases hk3 : o.kind = 3
  · have he : doO s o = (⟨s.n, s.room, crashL s o.keep, (crashL s o.keep).length⟩, [], 0) := by unfold doO; rw [if_neg hk0]; rw [if_neg hk1]; rw [if_neg hk2]; rw [if_pos hk3]; rfl
    have hcall := rCrash_any s.n s.room A m c s.k s.l K p ck o.keep w2 hm hrl (by omega) hk hp hpm hrkk hkb
    change Calls _ _ _ _ (fun e w' => ∃ A' m' c', e = .returned (.agg #[.int .i64 s.n, .int .i64 s.room, .slice A' m' c', .int .i64 m']) ∧ (crashL s o.keep).length = m' ∧ RNew w2 w' A s.l A' (crashL s o.keep) ∧ Below w2.heap.size w2 w') at hcall
    obtain ⟨cl, hcl⟩ : ∃ cl, cl = crashL s o.keep := ⟨_, rfl⟩
    rw [← hcl] at hcall he
    have HE0 := Lib.hid he
    clear he hm hq hp hN hcl
    have HK0 := Lib.hid hk0
    have HK1 := Lib.hid hk1
    have HK2 := Lib.hid hk2
    have HK3 := Lib.hid hk3
    clear hk0 hk1 hk2 hk3
    go_enter Try.func19, Try.ntmps19
    go_upto_region 1 with fail
    rw [← HW2.out]
    clear HW2
    have hk0 := HK0.out
    have hk1 := HK1.out
    have hk2 := HK2.out
    have hk3 := HK3.out
    go_wp2_with fail
    refine hcall.mono ?_
    rintro e w5 ⟨A', m', c', rfl, hlen, hrn, hb5⟩
    have he2 : doO s o = (⟨s.n, s.room, cl, m'⟩, [], 0) := by rw [HE0.out, hlen]
    have HE := Lib.hid he2
    have HLEN := Lib.hid hlen
    have HRN := Lib.hid hrn
    clear hcall hlen hrn he2
    have hG25 := hG2.belowAll hb5
    have hG35 := hG3.belowAll hb5
    have hG45 := hG4.belowAll hb5
    have hb05 := below_all hb2 hb5
    obtain ⟨⟨e0, e1, e2, e3⟩, x0, x1, x2, x3⟩ := hG25.four
    obtain ⟨i0, i1, i2, i3, i4⟩ := hG35.five
    obtain ⟨⟨j0, j1, j2, j3⟩, t0, t1, t2, t3⟩ := hG45.four
    clear c0 c1 c2 c3 z0 z1 z2 z3 d0 d1 d2 d3 d4 b0 b1 b2 b3 y0 y1 y2 y3
    have hK2 : Blk ((((w5.setCell ⟨w.heap.size, 0, none⟩ (.int .i64 s.n)).setCell ⟨w.heap.size, 1, none⟩ (.int .i64 s.room)).setCell ⟨w.heap.size, 2, none⟩ (.slice A' m' c')).setCell ⟨w.heap.size, 3, none⟩ (.int .i64 m')) (w.heap.size) 27 #[.int .i64 s.n, .int .i64 s.room, .slice A' m' c', .int .i64 m'] := ((((hG25.set_ 0 (.int .i64 s.n)).set_ 1 (.int .i64 s.room)).set_ 2 (.slice A' m' c')).set_ 3 (.int .i64 m'))
    have hK4 : Blk ((((w5.setCell ⟨w.heap.size, 0, none⟩ (.int .i64 s.n)).setCell ⟨w.heap.size, 1, none⟩ (.int .i64 s.room)).setCell ⟨w.heap.size, 2, none⟩ (.slice A' m' c')).setCell ⟨w.heap.size, 3, none⟩ (.int .i64 m')) (w.heap.size + 2) 27 #[.int .i64 0, .int .i64 0, .slice none 0 0, .int .i64 0] := ((((hG45.far (p := ⟨w.heap.size, 0, none⟩) (by simp) (.int .i64 s.n)).far (p := ⟨w.heap.size, 1, none⟩) (by simp) (.int .i64 s.room)).far (p := ⟨w.heap.size, 2, none⟩) (by simp) (.slice A' m' c')).far (p := ⟨w.heap.size, 3, none⟩) (by simp) (.int .i64 m'))
    have hKb : Below w.heap.size w ((((w5.setCell ⟨w.heap.size, 0, none⟩ (.int .i64 s.n)).setCell ⟨w.heap.size, 1, none⟩ (.int .i64 s.room)).setCell ⟨w.heap.size, 2, none⟩ (.slice A' m' c')).setCell ⟨w.heap.size, 3, none⟩ (.int .i64 m')) := ((((hb05.setCell (p := ⟨w.heap.size, 0, none⟩) (by simp) (.int .i64 s.n)).setCell (p := ⟨w.heap.size, 1, none⟩) (by simp) (.int .i64 s.room)).setCell (p := ⟨w.heap.size, 2, none⟩) (by simp) (.slice A' m' c')).setCell (p := ⟨w.heap.size, 3, none⟩) (by simp) (.int .i64 m'))
    obtain ⟨⟨k0, k1, k2, k3⟩, _⟩ := hK2.four
    obtain ⟨⟨l0, l1, l2, l3⟩, n0, n1, n2, n3⟩ := hK4.four
    have hbF : Below w.heap.size w ((((((((w5.setCell ⟨w.heap.size, 0, none⟩ (.int .i64 s.n)).setCell ⟨w.heap.size, 1, none⟩ (.int .i64 s.room)).setCell ⟨w.heap.size, 2, none⟩ (.slice A' m' c')).setCell ⟨w.heap.size, 3, none⟩ (.int .i64 m')).setCell ⟨w.heap.size + 2, 0, none⟩ (.int .i64 s.n)).setCell ⟨w.heap.size + 2, 1, none⟩ (.int .i64 s.room)).setCell ⟨w.heap.size + 2, 2, none⟩ (.slice A' m' c')).setCell ⟨w.heap.size + 2, 3, none⟩ (.int .i64 m')) := ((((hKb.setCell (p := ⟨w.heap.size + 2, 0, none⟩) (by simp) (.int .i64 s.n)).setCell (p := ⟨w.heap.size + 2, 1, none⟩) (by simp) (.int .i64 s.room)).setCell (p := ⟨w.heap.size + 2, 2, none⟩) (by simp) (.slice A' m' c')).setCell (p := ⟨w.heap.size + 2, 3, none⟩) (by simp) (.int .i64 m'))
    go_wp2_with fail
    refine bodyPost_ret (results_row_tmps rfl _ _ _ 27 _ (0, 0) _ rfl (show Blk _ _ _ #[.int .i64 s.n, .int .i64 s.room, .slice A' m' c', .int .i64 m'] from ((((hK4).set_ 0 _).set_ 1 _).set_ 2 _).set_ 3 _) Try.underlying27 rfl (rst_info _ _ _ _)) rfl ?_
    rw [HDD.out, HE.out]
    exact ⟨A', m', c', rfl, HLEN.out, HRN.out.over HLT.out (by omega) (((((((((Only.refl w5 (fun i => i = w.heap.size ∨ i = w.heap.size + 2)).setCell (p := ⟨w.heap.size, 0, none⟩) (.inl (.inl rfl)) (.int .i64 s.n)).setCell (p := ⟨w.heap.size, 1, none⟩) (.inl (.inl rfl)) (.int .i64 s.room)).setCell (p := ⟨w.heap.size, 2, none⟩) (.inl (.inl rfl)) (.slice A' m' c')).setCell (p := ⟨w.heap.size, 3, none⟩) (.inl (.inl rfl)) (.int .i64 m')).setCell (p := ⟨w.heap.size + 2, 0, none⟩) (.inl (.inr rfl)) (.int .i64 s.n)).setCell (p := ⟨w.heap.size + 2, 1, none⟩) (.inl (.inr rfl)) (.int .i64 s.room)).setCell (p := ⟨w.heap.size + 2, 2, none⟩) (.inl (.inr rfl)) (.slice A' m' c')).setCell (p := ⟨w.heap.size + 2, 3, none⟩) (.inl (.inr rfl)) (.int .i64 m')), hbF⟩
  by_cases hk4 : o.kind = 4
  · have he : doO s o = ((doZ s o.n).1, [], (doZ s o.n).2) := by unfold doO; rw [if_neg hk0]; rw [if_neg hk1]; rw [if_neg hk2]; rw [if_neg hk3]; rw [if_pos hk4]
    have hcall := rResize_any s.n s.room A m c s.k s.l o.n w2 hm hrl (by omega)
    have hzr : (doZ s o.n).1 = ⟨(doZ s o.n).1.n, s.room, (doZ s o.n).1.l, (doZ s o.n).1.k⟩ := by unfold doZ; split <;> rfl
    change Calls _ _ _ _ (RzPost w2 A s.l s.room (doZ s o.n).1 (doZ s o.n).2) at hcall
    obtain ⟨ze, hze⟩ : ∃ ze, ze = (doZ s o.n).2 := ⟨_, rfl⟩
    obtain ⟨zs, hzs⟩ : ∃ zs, zs = (doZ s o.n).1 := ⟨_, rfl⟩
    rw [← hzs] at hzr
    rw [← hze, ← hzs] at hcall he
    obtain ⟨zn, zr, zl, zk⟩ := zs
    simp only at hzr
    have hzr2 : zr = s.room := by injection hzr
    subst hzr2
    have HE := Lib.hid he
    clear he hm hq hp hN hze hzs hzr
    have HK0 := Lib.hid hk0
    have HK1 := Lib.hid hk1
    have HK2 := Lib.hid hk2
    have HK3 := Lib.hid hk3
    have HK4 := Lib.hid hk4
    clear hk0 hk1 hk2 hk3 hk4
    go_enter Try.func19, Try.ntmps19
    go_upto_region 1 with fail
    rw [← HW2.out]
    clear HW2
    have hk0 := HK0.out
    have hk1 := HK1.out
    have hk2 := HK2.out
    have hk3 := HK3.out
    have hk4 := HK4.out
    go_wp2_with fail
    refine hcall.mono ?_
    rintro e w5 ⟨A', m', c', rfl, hlen, hrn, hb5⟩
    simp only at hlen hrn
    have HLEN := Lib.hid hlen
    have HRN := Lib.hid hrn
    clear hcall hlen hrn
    have hG25 := hG2.belowAll hb5
    have hG35 := hG3.belowAll hb5
    have hG45 := hG4.belowAll hb5
    have hb05 := below_all hb2 hb5
    obtain ⟨⟨e0, e1, e2, e3⟩, x0, x1, x2, x3⟩ := hG25.four
    obtain ⟨i0, i1, i2, i3, i4⟩ := hG35.five
    obtain ⟨⟨j0, j1, j2, j3⟩, t0, t1, t2, t3⟩ := hG45.four
    clear c0 c1 c2 c3 z0 z1 z2 z3 d0 d1 d2 d3 d4 b0 b1 b2 b3 y0 y1 y2 y3
    have hK2 : Blk ((((w5.setCell ⟨w.heap.size, 0, none⟩ (.int .i64 zn)).setCell ⟨w.heap.size, 1, none⟩ (.int .i64 s.room)).setCell ⟨w.heap.size, 2, none⟩ (.slice A' m' c')).setCell ⟨w.heap.size, 3, none⟩ (.int .i64 zk)) (w.heap.size) 27 #[.int .i64 zn, .int .i64 s.room, .slice A' m' c', .int .i64 zk] := ((((hG25.set_ 0 (.int .i64 zn)).set_ 1 (.int .i64 s.room)).set_ 2 (.slice A' m' c')).set_ 3 (.int .i64 zk))
    have hK4 : Blk ((((w5.setCell ⟨w.heap.size, 0, none⟩ (.int .i64 zn)).setCell ⟨w.heap.size, 1, none⟩ (.int .i64 s.room)).setCell ⟨w.heap.size, 2, none⟩ (.slice A' m' c')).setCell ⟨w.heap.size, 3, none⟩ (.int .i64 zk)) (w.heap.size + 2) 27 #[.int .i64 0, .int .i64 0, .slice none 0 0, .int .i64 0] := ((((hG45.far (p := ⟨w.heap.size, 0, none⟩) (by simp) (.int .i64 zn)).far (p := ⟨w.heap.size, 1, none⟩) (by simp) (.int .i64 s.room)).far (p := ⟨w.heap.size, 2, none⟩) (by simp) (.slice A' m' c')).far (p := ⟨w.heap.size, 3, none⟩) (by simp) (.int .i64 zk))
    have hKb : Below w.heap.size w ((((w5.setCell ⟨w.heap.size, 0, none⟩ (.int .i64 zn)).setCell ⟨w.heap.size, 1, none⟩ (.int .i64 s.room)).setCell ⟨w.heap.size, 2, none⟩ (.slice A' m' c')).setCell ⟨w.heap.size, 3, none⟩ (.int .i64 zk)) := ((((hb05.setCell (p := ⟨w.heap.size, 0, none⟩) (by simp) (.int .i64 zn)).setCell (p := ⟨w.heap.size, 1, none⟩) (by simp) (.int .i64 s.room)).setCell (p := ⟨w.heap.size, 2, none⟩) (by simp) (.slice A' m' c')).setCell (p := ⟨w.heap.size, 3, none⟩) (by simp) (.int .i64 zk))
    obtain ⟨⟨k0, k1, k2, k3⟩, _⟩ := hK2.four
    obtain ⟨⟨l0, l1, l2, l3⟩, n0, n1, n2, n3⟩ := hK4.four
    have hbF : Below w.heap.size w ((((((((w5.setCell ⟨w.heap.size, 0, none⟩ (.int .i64 zn)).setCell ⟨w.heap.size, 1, none⟩ (.int .i64 s.room)).setCell ⟨w.heap.size, 2, none⟩ (.slice A' m' c')).setCell ⟨w.heap.size, 3, none⟩ (.int .i64 zk)).setCell ⟨w.heap.size + 2, 0, none⟩ (.int .i64 zn)).setCell ⟨w.heap.size + 2, 1, none⟩ (.int .i64 s.room)).setCell ⟨w.heap.size + 2, 2, none⟩ (.slice A' m' c')).setCell ⟨w.heap.size + 2, 3, none⟩ (.int .i64 zk)) := ((((hKb.setCell (p := ⟨w.heap.size + 2, 0, none⟩) (by simp) (.int .i64 zn)).setCell (p := ⟨w.heap.size + 2, 1, none⟩) (by simp) (.int .i64 s.room)).setCell (p := ⟨w.heap.size + 2, 2, none⟩) (by simp) (.slice A' m' c')).setCell (p := ⟨w.heap.size + 2, 3, none⟩) (by simp) (.int .i64 zk))
    go_wp2_with fail
    refine bodyPost_ret (results_row_tmps rfl _ _ _ 27 _ (0, 0) _ rfl (show Blk _ _ _ #[.int .i64 zn, .int .i64 s.room, .slice A' m' c', .int .i64 zk] from ((((hK4).set_ 0 _).set_ 1 _).set_ 2 _).set_ 3 _) Try.underlying27 rfl (rst_info _ _ _ _)) rfl ?_
    rw [HDD.out, HE.out]
    exact ⟨A', m', c', rfl, HLEN.out, HRN.out.over HLT.out (by omega) (((((((((Only.refl w5 (fun i => i = w.heap.size ∨ i = w.heap.size + 2)).setCell (p := ⟨w.heap.size, 0, none⟩) (.inl (.inl rfl)) (.int .i64 zn)).setCell (p := ⟨w.heap.size, 1, none⟩) (.inl (.inl rfl)) (.int .i64 s.room)).setCell (p := ⟨w.heap.size, 2, none⟩) (.inl (.inl rfl)) (.slice A' m' c')).setCell (p := ⟨w.heap.size, 3, none⟩) (.inl (.inl rfl)) (.int .i64 zk)).setCell (p := ⟨w.heap.size + 2, 0, none⟩) (.inl (.inr rfl)) (.int .i64 zn)).setCell (p := ⟨w.heap.size + 2, 1, none⟩) (.inl (.inr rfl)) (.int .i64 s.room)).setCell (p := ⟨w.heap.size + 2, 2, none⟩) (.inl (.inr rfl)) (.slice A' m' c')).setCell (p := ⟨w.heap.size + 2, 3, none⟩) (.inl (.inr rfl)) (.int .i64 zk)), hbF⟩
  by_cases hk5 : o.kind = 5
  · have he : doO s o = (doR s o.n, [], 0) := by unfold doO; rw [if_neg hk0]; rw [if_neg hk1]; rw [if_neg hk2]; rw [if_neg hk3]; rw [if_neg hk4]; rw [if_pos hk5]
    by_cases hneg : o.n < 0
    · have he2 : doO s o = (⟨s.n, 0, s.l, s.k⟩, [], 0) := by rw [he]; unfold doR; rw [if_pos hneg]
      have HE := Lib.hid he2
      clear he he2 hm hq hp hN
      have HK0 := Lib.hid hk0
      have HK1 := Lib.hid hk1
      have HK2 := Lib.hid hk2
      have HK3 := Lib.hid hk3
      have HK4 := Lib.hid hk4
      have HK5 := Lib.hid hk5
      clear hk0 hk1 hk2 hk3 hk4 hk5
      go_enter Try.func19, Try.ntmps19
      go_upto_region 1 with fail
      rw [← HW2.out]
      clear HW2
      have hk0 := HK0.out
      have hk1 := HK1.out
      have hk2 := HK2.out
      have hk3 := HK3.out
      have hk4 := HK4.out
      have hk5 := HK5.out
      have hK2 : Blk ((w2.setCell ⟨w.heap.size, 1, none⟩ (.int .i64 o.n)).setCell ⟨w.heap.size, 1, none⟩ (.int .i64 0)) (w.heap.size) 27 #[.int .i64 s.n, .int .i64 0, .slice A m c, .int .i64 s.k] := ((hG2.set_ 1 (.int .i64 o.n)).set_ 1 (.int .i64 0))
      have hK4 : Blk ((w2.setCell ⟨w.heap.size, 1, none⟩ (.int .i64 o.n)).setCell ⟨w.heap.size, 1, none⟩ (.int .i64 0)) (w.heap.size + 2) 27 #[.int .i64 0, .int .i64 0, .slice none 0 0, .int .i64 0] := ((hG4.far (p := ⟨w.heap.size, 1, none⟩) (by simp) (.int .i64 o.n)).far (p := ⟨w.heap.size, 1, none⟩) (by simp) (.int .i64 0))
      have hKb : Below w.heap.size w ((w2.setCell ⟨w.heap.size, 1, none⟩ (.int .i64 o.n)).setCell ⟨w.heap.size, 1, none⟩ (.int .i64 0)) := ((hb2.setCell (p := ⟨w.heap.size, 1, none⟩) (by simp) (.int .i64 o.n)).setCell (p := ⟨w.heap.size, 1, none⟩) (by simp) (.int .i64 0))
      obtain ⟨⟨k0, k1, k2, k3⟩, _⟩ := hK2.four
      obtain ⟨⟨l0, l1, l2, l3⟩, n0, n1, n2, n3⟩ := hK4.four
      have hbF : Below w.heap.size w ((((((w2.setCell ⟨w.heap.size, 1, none⟩ (.int .i64 o.n)).setCell ⟨w.heap.size, 1, none⟩ (.int .i64 0)).setCell ⟨w.heap.size + 2, 0, none⟩ (.int .i64 s.n)).setCell ⟨w.heap.size + 2, 1, none⟩ (.int .i64 0)).setCell ⟨w.heap.size + 2, 2, none⟩ (.slice A m c)).setCell ⟨w.heap.size + 2, 3, none⟩ (.int .i64 s.k)) := ((((hKb.setCell (p := ⟨w.heap.size + 2, 0, none⟩) (by simp) (.int .i64 s.n)).setCell (p := ⟨w.heap.size + 2, 1, none⟩) (by simp) (.int .i64 0)).setCell (p := ⟨w.heap.size + 2, 2, none⟩) (by simp) (.slice A m c)).setCell (p := ⟨w.heap.size + 2, 3, none⟩) (by simp) (.int .i64 s.k))
      go_wp2_with fail
      refine bodyPost_ret (results_row_tmps rfl _ _ _ 27 _ (0, 0) _ rfl (show Blk _ _ _ #[.int .i64 s.n, .int .i64 0, .slice A m c, .int .i64 s.k] from ((((hK4).set_ 0 _).set_ 1 _).set_ 2 _).set_ 3 _) Try.underlying27 rfl (rst_info _ _ _ _)) rfl ?_
      rw [HDD.out, HE.out]
      exact ⟨A, m, c, rfl, HM.out, HS.out _ hbF, hbF⟩
    · have he2 : doO s o = (⟨s.n, o.n, s.l, s.k⟩, [], 0) := by rw [he]; unfold doR; rw [if_neg hneg]
      have HE := Lib.hid he2
      clear he he2 hm hq hp hN
      have HK0 := Lib.hid hk0
      have HK1 := Lib.hid hk1
      have HK2 := Lib.hid hk2
      have HK3 := Lib.hid hk3
      have HK4 := Lib.hid hk4
      have HK5 := Lib.hid hk5
      clear hk0 hk1 hk2 hk3 hk4 hk5
      go_enter Try.func19, Try.ntmps19
      go_upto_region 1 with fail
      rw [← HW2.out]
      clear HW2
      have hk0 := HK0.out
      have hk1 := HK1.out
      have hk2 := HK2.out
      have hk3 := HK3.out
      have hk4 := HK4.out
      have hk5 := HK5.out
      have hK2 : Blk (w2.setCell ⟨w.heap.size, 1, none⟩ (.int .i64 o.n)) (w.heap.size) 27 #[.int .i64 s.n, .int .i64 o.n, .slice A m c, .int .i64 s.k] := (hG2.set_ 1 (.int .i64 o.n))
      have hK4 : Blk (w2.setCell ⟨w.heap.size, 1, none⟩ (.int .i64 o.n)) (w.heap.size + 2) 27 #[.int .i64 0, .int .i64 0, .slice none 0 0, .int .i64 0] := (hG4.far (p := ⟨w.heap.size, 1, none⟩) (by simp) (.int .i64 o.n))
      have hKb : Below w.heap.size w (w2.setCell ⟨w.heap.size, 1, none⟩ (.int .i64 o.n)) := (hb2.setCell (p := ⟨w.heap.size, 1, none⟩) (by simp) (.int .i64 o.n))
      obtain ⟨⟨k0, k1, k2, k3⟩, _⟩ := hK2.four
      obtain ⟨⟨l0, l1, l2, l3⟩, n0, n1, n2, n3⟩ := hK4.four
      have hbF : Below w.heap.size w (((((w2.setCell ⟨w.heap.size, 1, none⟩ (.int .i64 o.n)).setCell ⟨w.heap.size + 2, 0, none⟩ (.int .i64 s.n)).setCell ⟨w.heap.size + 2, 1, none⟩ (.int .i64 o.n)).setCell ⟨w.heap.size + 2, 2, none⟩ (.slice A m c)).setCell ⟨w.heap.size + 2, 3, none⟩ (.int .i64 s.k)) := ((((hKb.setCell (p := ⟨w.heap.size + 2, 0, none⟩) (by simp) (.int .i64 s.n)).setCell (p := ⟨w.heap.size + 2, 1, none⟩) (by simp) (.int .i64 o.n)).setCell (p := ⟨w.heap.size + 2, 2, none⟩) (by simp) (.slice A m c)).setCell (p := ⟨w.heap.size + 2, 3, none⟩) (by simp) (.int .i64 s.k))
      go_wp2_with fail
      refine bodyPost_ret (results_row_tmps rfl _ _ _ 27 _ (0, 0) _ rfl (show Blk _ _ _ #[.int .i64 s.n, .int .i64 o.n, .slice A m c, .int .i64 s.k] from ((((hK4).set_ 0 _).set_ 1 _).set_ 2 _).set_ 3 _) Try.underlying27 rfl (rst_info _ _ _ _)) rfl ?_
      rw [HDD.out, HE.out]
      exact ⟨A, m, c, rfl, HM.out, HS.out _ hbF, hbF⟩
  have he : doO s o = (s, [], 0) := by unfold doO; rw [if_neg hk0, if_neg hk1, if_neg hk2, if_neg hk3, if_neg hk4, if_neg hk5]
  have HE := Lib.hid he
  clear he hm hq hp hN
  have HK0 := Lib.hid hk0
  have HK1 := Lib.hid hk1
  have HK2 := Lib.hid hk2
  have HK3 := Lib.hid hk3
  have HK4 := Lib.hid hk4
  have HK5 := Lib.hid hk5
  clear hk0 hk1 hk2 hk3 hk4 hk5
  go_enter Try.func19, Try.ntmps19
  go_upto_region 1 with fail
  rw [← HW2.out]
  clear HW2
  have hk0 := HK0.out
  have hk1 := HK1.out
  have hk2 := HK2.out
  have hk3 := HK3.out
  have hk4 := HK4.out
  have hk5 := HK5.out
  have hK2 : Blk w2 (w.heap.size) 27 #[.int .i64 s.n, .int .i64 s.room, .slice A m c, .int .i64 s.k] := hG2
  have hK4 : Blk w2 (w.heap.size + 2) 27 #[.int .i64 0, .int .i64 0, .slice none 0 0, .int .i64 0] := hG4
  have hKb : Below w.heap.size w w2 := hb2
  obtain ⟨⟨k0, k1, k2, k3⟩, _⟩ := hK2.four
  obtain ⟨⟨l0, l1, l2, l3⟩, n0, n1, n2, n3⟩ := hK4.four
  have hbF : Below w.heap.size w ((((w2.setCell ⟨w.heap.size + 2, 0, none⟩ (.int .i64 s.n)).setCell ⟨w.heap.size + 2, 1, none⟩ (.int .i64 s.room)).setCell ⟨w.heap.size + 2, 2, none⟩ (.slice A m c)).setCell ⟨w.heap.size + 2, 3, none⟩ (.int .i64 s.k)) := ((((hKb.setCell (p := ⟨w.heap.size + 2, 0, none⟩) (by simp) (.int .i64 s.n)).setCell (p := ⟨w.heap.size + 2, 1, none⟩) (by simp) (.int .i64 s.room)).setCell (p := ⟨w.heap.size + 2, 2, none⟩) (by simp) (.slice A m c)).setCell (p := ⟨w.heap.size + 2, 3, none⟩) (by simp) (.int .i64 s.k))
  go_wp2_with fail
  refine bodyPost_ret (results_row_tmps rfl _ _ _ 27 _ (0, 0) _ rfl (show Blk _ _ _ #[.int .i64 s.n, .int .i64 s.room, .slice A m c, .int .i64 s.k] from ((((hK4).set_ 0 _).set_ 1 _).set_ 2 _).set_ 3 _) Try.underlying27 rfl (rst_info _ _ _ _)) rfl ?_
  rw [HDD.out, HE.out]
  exact ⟨A, m, c, rfl, HM.out, HS.out _ hbF, hbF⟩
end Go.Proofs.Ytbljacafmkdlmaa
