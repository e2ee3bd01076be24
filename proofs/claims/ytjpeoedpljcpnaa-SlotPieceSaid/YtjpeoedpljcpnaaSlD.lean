/- slot.Decode; pentimentoref06.Decode, Rest. Conditions: the bytes fit memory. -/
import Derived.Test.YtjpeoedpljcpnaaSlC
import Derived.Test.YtjpeoedpljcpnaaRefR
namespace Go.Proofs.Ytjpeoedpljcpnaa
open Go.RowKit

theorem slot_info (a b c : Value) : (Try.prog.info? 29).map (·.size) = some (#[a, b, c] : Array Value).size := by
  show _ = some 3
  kernel_rfl
theorem rslot_info (a b c : Value) : (Try.prog.info? 23).map (·.size) = some (#[a, b, c] : Array Value).size := by
  show _ = some 3
  kernel_rfl

def noS : Sl := ⟨0, 0, false⟩
def decS (b : List UInt8) : Sl := (oneF b).getD noS
def decE (b : List UInt8) : Int := if (oneF b).isSome then 0 else 60

set_option maxHeartbeats 2000000 in
theorem decode_any (A : Option Addr) (n c : Nat) (b : List UInt8) (w : World) (hn : b.length = n) (hr : Row w A (bv b)) (hsz : n ≤ 1000000) :
    Calls Try.prog 12 #[.slice A n c] w fun e w' => e = .returned (.tuple #[.agg #[.int .i64 (decS b).k, .int .i64 (decS b).h, .bool (decS b).o], .int .i64 (decE b)]) ∧ Below w.heap.size w w' := by
  have hz := Blk.new w 29 #[.int .i64 0, .int .i64 0, .bool false]
  have hbz := (Below.refl w.heap.size w).alloc (Nat.le_refl _) (.cells #[.int .i64 0, .int .i64 0, .bool false] 29)
  have hone := one_rest b
  have hR := rest_any A n c b (w.alloc (.cells #[.int .i64 0, .int .i64 0, .bool false] 29)) hn (hr.alloc _) hsz
  have HR := Lib.hid hR
  have HONE := Lib.hid hone
  clear hR hone
  have bad : oneF b = none → decS b = noS ∧ decE b = 60 := fun h => by unfold decS decE; rw [h]; exact ⟨rfl, rfl⟩
  have HBAD := Lib.hid bad
  clear bad
  go_enter Try.func12, Try.ntmps12
  go_wp2_with fail
  refine HR.out.mono ?_
  rintro e w2 ⟨⟨hnone, rfl⟩ | ⟨l, A2, c2, hsome, rfl, hown2⟩, hb2⟩
  · have hno : oneF b = none := by rw [HONE.out, hnone]
    obtain ⟨d1, d2⟩ := HBAD.out hno
    have D1 := Lib.hid d1
    have D2 := Lib.hid d2
    clear d1 d2 hno hnone
    have hz2 := hz.belowAll hb2
    obtain ⟨⟨f1, f2, f3⟩, ⟨f4, f5, f6⟩, f7⟩ := hz2.three
    have hz3 := ((hz2.set_ 0 (.int .i64 0)).set_ 1 (.int .i64 0)).set_ 2 (.bool false)
    obtain ⟨⟨m1, m2, m3⟩, ⟨m4, m5, m6⟩, _⟩ := (hz2.set_ 0 (.int .i64 0)).three
    obtain ⟨⟨k1, k2, k3⟩, ⟨k4, k5, k6⟩, _⟩ := ((hz2.set_ 0 (.int .i64 0)).set_ 1 (.int .i64 0)).three
    go_wp2_with fail
    (try simp only [Exit.inBlock, Exit.then])
    refine bodyPost_ret (results_row_tmp rfl _ _ _ 29 _ (0, 0) _ rfl hz3 Try.underlying29 rfl (slot_info _ _ _)) rfl ?_
    rw [D1.out, D2.out]
    exact ⟨rfl, (((below_all hbz hb2).setCell (Nat.le_refl _) _).setCell (Nat.le_refl _) _).setCell (Nat.le_refl _) _⟩
  · by_cases hl1 : l.length = 1
    · obtain ⟨s, rfl⟩ := List.length_eq_one_iff.1 hl1
      have hso : oneF b = some s := by rw [HONE.out, hsome]
      have d1 : decS b = s := by unfold decS; rw [hso]; rfl
      have d2 : decE b = 0 := by unfold decE; rw [hso]; rfl
      have D1 := Lib.hid d1
      have D2 := Lib.hid d2
      clear d1 d2 hso hsome hl1
      have hz2 := hz.belowAll hb2
      obtain ⟨⟨f1, f2, f3⟩, ⟨f4, f5, f6⟩, f7⟩ := hz2.three
      have hz3 := ((hz2.set_ 0 (.int .i64 s.k)).set_ 1 (.int .i64 s.h)).set_ 2 (.bool s.o)
      obtain ⟨⟨m1, m2, m3⟩, ⟨m4, m5, m6⟩, _⟩ := (hz2.set_ 0 (.int .i64 s.k)).three
      obtain ⟨⟨k1, k2, k3⟩, ⟨k4, k5, k6⟩, _⟩ := ((hz2.set_ 0 (.int .i64 s.k)).set_ 1 (.int .i64 s.h)).three
      obtain ⟨g, o, rfl, hg, p1, p2, p3⟩ := hown2.row.slot (i := 0) (by simp)
      simp only [List.getElem_cons_zero, Nat.zero_mul, Nat.add_zero] at p1 p2 p3
      go_wp2_with fail
      (try simp only [Exit.inBlock, Exit.then])
      refine bodyPost_ret (results_row_tmp rfl _ _ _ 29 _ (0, 0) _ rfl hz3 Try.underlying29 rfl (slot_info _ _ _)) rfl ?_
      rw [D1.out, D2.out]
      exact ⟨rfl, (((below_all hbz hb2).setCell (Nat.le_refl _) _).setCell (Nat.le_refl _) _).setCell (Nat.le_refl _) _⟩
    · have hno : oneF b = none := by
        rw [HONE.out, hsome]
        match l, hl1 with
        | [], _ => rfl
        | [s], h => exact absurd rfl h
        | s :: t :: r, _ => rfl
      obtain ⟨d1, d2⟩ := HBAD.out hno
      have D1 := Lib.hid d1
      have D2 := Lib.hid d2
      clear d1 d2 hno hsome
      have hl2 : ((l.length : Int) != 1) = true := by simp; omega
      clear hl1
      have hz2 := hz.belowAll hb2
      obtain ⟨⟨f1, f2, f3⟩, ⟨f4, f5, f6⟩, f7⟩ := hz2.three
      have hz3 := ((hz2.set_ 0 (.int .i64 0)).set_ 1 (.int .i64 0)).set_ 2 (.bool false)
      obtain ⟨⟨m1, m2, m3⟩, ⟨m4, m5, m6⟩, _⟩ := (hz2.set_ 0 (.int .i64 0)).three
      obtain ⟨⟨k1, k2, k3⟩, ⟨k4, k5, k6⟩, _⟩ := ((hz2.set_ 0 (.int .i64 0)).set_ 1 (.int .i64 0)).three
      go_wp2_with fail
      (try simp only [Exit.inBlock, Exit.then])
      refine bodyPost_ret (results_row_tmp rfl _ _ _ 29 _ (0, 0) _ rfl hz3 Try.underlying29 rfl (slot_info _ _ _)) rfl ?_
      rw [D1.out, D2.out]
      exact ⟨rfl, (((below_all hbz hb2).setCell (Nat.le_refl _) _).setCell (Nat.le_refl _) _).setCell (Nat.le_refl _) _⟩

/-- The reference's number as a slot. -/
theorem slOf_ref (x : Nat) : slOf x = ⟨(x : Int) % 4, (x : Int) / 8, (((x : Int) / 4 % 2 == 1))⟩ := by
  unfold slOf
  congr 1
  by_cases h : 4 ≤ x % 8
  · rw [decide_eq_true h]
    symm
    rw [beq_iff_eq]
    omega
  · rw [decide_eq_false h]
    symm
    rw [beq_eq_false_iff_ne]
    omega

set_option maxHeartbeats 2000000 in
theorem rDec_any (b : List UInt8) (w : World) (hsz : b.length ≤ 1000000) :
    Calls Try.prog 13 #[.string (str b)] w fun e w' => e = .returned (.tuple #[.agg #[.int .i64 (decS b).k, .int .i64 (decS b).h, .bool (decS b).o], .int .i64 (decE b)]) ∧ Below w.heap.size w w' := by
  have hz := Blk.new w 23 #[.int .i64 0, .int .i64 0, .bool false]
  have hbz := (Below.refl w.heap.size w).alloc (Nat.le_refl _) (.cells #[.int .i64 0, .int .i64 0, .bool false] 23)
  have hR := fun u => rReadNum_any b 0 4 u (by omega)
  have hxlt : (nm b 0 4).2.2 < 4294967296 := by
    rw [show (4 : Int) = ((4 : Nat) : Int) from rfl]
    by_cases h4 : b.length < 4
    · rw [nm_short b 4 (by decide) h4]
      show (0 : Nat) < 4294967296
      decide
    · rw [nm_yes b 4 (by decide) (by omega) (by omega)]
      have h1 := un_lt (b.take 4)
      rw [List.length_take, Nat.min_eq_left (by omega)] at h1
      exact h1
  have hkey : oneF b = if (slOf (nm b 0 4).2.2).right = true ∧ be 4 (slOf (nm b 0 4).2.2).num.toNat = b then some (slOf (nm b 0 4).2.2) else none := by
    rw [show (4 : Int) = ((4 : Nat) : Int) from rfl]
    by_cases h4 : b.length < 4
    · rw [nm_short b 4 (by decide) h4, if_neg]
      · unfold oneF
        rw [if_neg (fun h => by omega)]
      · rintro ⟨_, h⟩
        have := congrArg List.length h
        rw [be_length] at this
        omega
    · rw [nm_yes b 4 (by decide) (by omega) (by omega)]
      simp only
      rw [num_slOf, Int.toNat_natCast, un4 (by omega)]
      unfold oneF
      by_cases h5 : b.length = 4
      · have ht : b.take 4 = b := List.take_of_length_le (by omega)
        rw [ht]
        simp [h5]
      · rw [if_neg (fun h => h5 h.1), if_neg]
        rintro ⟨_, h⟩
        have := congrArg List.length h
        rw [List.length_take] at this
        omega
  obtain ⟨u, hu⟩ : ∃ u, u = nm b 0 4 := ⟨_, rfl⟩
  simp only [← hu] at hR
  rw [← hu] at hxlt hkey
  clear hu
  obtain ⟨l2, e2, x⟩ := u
  simp only at hR hxlt hkey
  have hsl := slOf_ref x
  rw [hsl] at hkey
  clear hsl
  have HR := Lib.hid hR
  clear hR
  go_enter Try.func13, Try.ntmps13
  go_wp2_with fail
  refine (HR.out _).mono ?_
  rintro e w1 ⟨rfl, hb1⟩
  have HKEY := Lib.hid hkey
  clear hkey
  go_wp2_with fail
  have hb01 := below_all hbz hb1
  have hz1 := hz.belowAll hb1
  obtain ⟨xk, hxk⟩ : ∃ xk : Int, xk = (x : Int) % 4 := ⟨_, rfl⟩
  obtain ⟨xh, hxh⟩ : ∃ xh : Int, xh = (x : Int) / 8 := ⟨_, rfl⟩
  obtain ⟨xo, hxo⟩ : ∃ xo, xo = ((x : Int) / 4 % 2 == 1) := ⟨_, rfl⟩
  rw [← hxk, ← hxh, ← hxo] at HKEY ⊢
  clear hxk hxh hxo
  have hzz1 := (hz1.alloc (.cells #[.string (str l2), .int .i64 e2] 59)).alloc (.cells #[.int .i64 xk, .int .i64 xh, .bool xo] 23)
  have hb02 := (hb01.alloc hb01.size (.cells #[.string (str l2), .int .i64 e2] 59)).alloc (Nat.le_trans hb01.size (by simp)) (.cells #[.int .i64 xk, .int .i64 xh, .bool xo] 23)
  have hBx := Blk.new (w1.alloc (.cells #[.string (str l2), .int .i64 e2] 59)) 23 #[.int .i64 xk, .int .i64 xh, .bool xo]
  rw [World.size_alloc] at hBx
  obtain ⟨w2, hw2⟩ : ∃ w2, w2 = (w1.alloc (.cells #[.string (str l2), .int .i64 e2] 59)).alloc (.cells #[.int .i64 xk, .int .i64 xh, .bool xo] 23) := ⟨_, rfl⟩
  rw [← hw2] at hzz1 hb02 hBx ⊢
  clear hw2
  refine (rEnc_any ⟨xk, xh, xo⟩ w2).mono ?_
  cases hright : (Sl.right ⟨xk, xh, xo⟩)
  · have h1 : encS ⟨xk, xh, xo⟩ = [] := by unfold encS; rw [hright]; rfl
    have h2 : encE ⟨xk, xh, xo⟩ = 60 := by unfold encE; rw [hright]; rfl
    have hno : oneF b = none := by rw [HKEY.out, if_neg]; rintro ⟨h, _⟩; rw [hright] at h; cases h
    have D1 : Hid (decS b = noS) := Lib.hid (by unfold decS; rw [hno]; rfl)
    have D2 : Hid (decE b = 60) := Lib.hid (by unfold decE; rw [hno]; rfl)
    rw [h1, h2]
    clear h1 h2 hno hright
    rintro e w3 ⟨rfl, hb3⟩
    have hzz := hzz1.belowAll hb3
    have hb03 := below_all hb02 hb3
    have hz2 := hzz
    obtain ⟨⟨f1, f2, f3⟩, ⟨f4, f5, f6⟩, f7⟩ := hz2.three
    have hz3 := ((hz2.set_ 0 (.int .i64 0)).set_ 1 (.int .i64 0)).set_ 2 (.bool false)
    obtain ⟨⟨m1, m2, m3⟩, ⟨m4, m5, m6⟩, _⟩ := (hz2.set_ 0 (.int .i64 0)).three
    obtain ⟨⟨k1, k2, k3⟩, ⟨k4, k5, k6⟩, _⟩ := ((hz2.set_ 0 (.int .i64 0)).set_ 1 (.int .i64 0)).three
    go_wp2_with fail
    (try simp only [Exit.inBlock, Exit.then])
    refine bodyPost_ret (results_row_tmp rfl _ _ _ 23 _ (0, 0) _ rfl hz3 Try.underlying23 rfl (rslot_info _ _ _)) rfl ?_
    rw [D1.out, D2.out]
    exact ⟨rfl, ((hb03.setCell (Nat.le_refl _) _).setCell (Nat.le_refl _) _).setCell (Nat.le_refl _) _⟩
  · obtain ⟨X, hX⟩ : ∃ X, X = be 4 (Sl.num ⟨xk, xh, xo⟩).toNat := ⟨_, rfl⟩
    have h1 : encS ⟨xk, xh, xo⟩ = X := by unfold encS; rw [hright, hX]; rfl
    have h2 : encE ⟨xk, xh, xo⟩ = 0 := by unfold encE; rw [hright]; rfl
    rw [← hX] at HKEY
    rw [h1, h2]
    clear h1 h2 hX
    by_cases hXb : X = b
    · have hso : oneF b = some ⟨xk, xh, xo⟩ := by rw [HKEY.out, if_pos ⟨hright, hXb⟩]
      have D1 : Hid (decS b = ⟨xk, xh, xo⟩) := Lib.hid (by unfold decS; rw [hso]; rfl)
      have D2 : Hid (decE b = 0) := Lib.hid (by unfold decE; rw [hso]; rfl)
      rw [hXb]
      clear hso hright hXb HKEY
      rintro e w3 ⟨rfl, hb3⟩
      have hzz := hzz1.belowAll hb3
      have hb03 := below_all hb02 hb3
      obtain ⟨⟨q1, q2, q3⟩, ⟨q4, q5, q6⟩, q7⟩ := (hBx.belowAll hb3).three
      have hne : w.heap.size ≠ w1.heap.size + 1 := by have := hb01.size; omega
      have hB1 := ((hBx.belowAll hb3).far (p := ⟨w.heap.size, 0, none⟩) hne.symm (.int .i64 xk)).three
      have hB2 := (((hBx.belowAll hb3).far (p := ⟨w.heap.size, 0, none⟩) hne.symm (.int .i64 xk)).far (p := ⟨w.heap.size, 1, none⟩) hne.symm (.int .i64 xh)).three
      have hz2 := hzz
      obtain ⟨⟨f1, f2, f3⟩, ⟨f4, f5, f6⟩, f7⟩ := hz2.three
      have hz3 := ((hz2.set_ 0 (.int .i64 xk)).set_ 1 (.int .i64 xh)).set_ 2 (.bool xo)
      obtain ⟨⟨m1, m2, m3⟩, ⟨m4, m5, m6⟩, _⟩ := (hz2.set_ 0 (.int .i64 xk)).three
      obtain ⟨⟨k1, k2, k3⟩, ⟨k4, k5, k6⟩, _⟩ := ((hz2.set_ 0 (.int .i64 xk)).set_ 1 (.int .i64 xh)).three
      go_wp2_with fail
      (try simp only [Exit.inBlock, Exit.then])
      refine bodyPost_ret (results_row_tmp rfl _ _ _ 23 _ (0, 0) _ rfl hz3 Try.underlying23 rfl (rslot_info _ _ _)) rfl ?_
      rw [D1.out, D2.out]
      exact ⟨rfl, ((hb03.setCell (Nat.le_refl _) _).setCell (Nat.le_refl _) _).setCell (Nat.le_refl _) _⟩
    · have hno : oneF b = none := by rw [HKEY.out, if_neg]; rintro ⟨_, h⟩; exact hXb h
      have D1 : Hid (decS b = noS) := Lib.hid (by unfold decS; rw [hno]; rfl)
      have D2 : Hid (decE b = 60) := Lib.hid (by unfold decE; rw [hno]; rfl)
      have hsb : (X == b) = false := by rw [beq_eq_false_iff_ne]; exact hXb
      clear hno hright hXb HKEY
      rintro e w3 ⟨rfl, hb3⟩
      have hzz := hzz1.belowAll hb3
      have hb03 := below_all hb02 hb3
      have hz2 := hzz
      obtain ⟨⟨f1, f2, f3⟩, ⟨f4, f5, f6⟩, f7⟩ := hz2.three
      have hz3 := ((hz2.set_ 0 (.int .i64 0)).set_ 1 (.int .i64 0)).set_ 2 (.bool false)
      obtain ⟨⟨m1, m2, m3⟩, ⟨m4, m5, m6⟩, _⟩ := (hz2.set_ 0 (.int .i64 0)).three
      obtain ⟨⟨k1, k2, k3⟩, ⟨k4, k5, k6⟩, _⟩ := ((hz2.set_ 0 (.int .i64 0)).set_ 1 (.int .i64 0)).three
      go_wp2_with fail
      (try simp only [Exit.inBlock, Exit.then])
      refine bodyPost_ret (results_row_tmp rfl _ _ _ 23 _ (0, 0) _ rfl hz3 Try.underlying23 rfl (rslot_info _ _ _)) rfl ?_
      rw [D1.out, D2.out]
      exact ⟨rfl, ((hb03.setCell (Nat.le_refl _) _).setCell (Nat.le_refl _) _).setCell (Nat.le_refl _) _⟩
end Go.Proofs.Ytjpeoedpljcpnaa
