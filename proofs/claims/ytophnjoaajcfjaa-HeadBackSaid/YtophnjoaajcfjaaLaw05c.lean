/- The law HeadBack. Conditions: the lengths fit memory. -/
import Derived.Test.YtophnjoaajcfjaaLaw05b
namespace Go.Proofs.Ytophnjoaajcfjaa
open Go.RowKit

theorem xor_u8 (a b : UInt8) : bits .xor .u8 (a.toNat : Int) (b.toNat : Int) = ((a ^^^ b).toNat : Int) := by
  show IntKind.u8.wrap ((BitVec.ofInt 8 (a.toNat : Int) ^^^ BitVec.ofInt 8 (b.toNat : Int)).toNat : Int) = _
  have h : ∀ x : UInt8, BitVec.ofInt 8 (x.toNat : Int) = x.toBitVec := fun x => by
    rw [BitVec.ofInt_natCast]
    apply BitVec.eq_of_toNat_eq
    rw [BitVec.toNat_ofNat]
    exact Nat.mod_eq_of_lt x.toNat_lt
  rw [h, h, UInt8.toNat_xor]
  have h2 := (a ^^^ b).toNat_lt
  rw [UInt8.toNat_xor] at h2
  rw [BitVec.toNat_xor]
  show IntKind.u8.wrap ((a.toNat ^^^ b.toNat : Nat) : Int) = _
  simp [IntKind.wrap, IntKind.bits, IntKind.signed]
  omega

theorem xor_ne (a b : UInt8) (hb : b ≠ 0) : a ≠ a ^^^ b := by
  intro h
  apply hb
  have h1 : a ^^^ a = a ^^^ (a ^^^ b) := by rw [← h]
  rw [UInt8.xor_self, ← UInt8.xor_assoc, UInt8.xor_self, UInt8.zero_xor] at h1
  exact h1.symm

/-- Sealed bytes of which one is another one are not opened. -/
theorem sealed_turned (x : List UInt8) (k : Nat) (hk : k < (sealed x).length) (y : UInt8) (hne : (sealed x)[k] ≠ y) : opened ((sealed x).set k y) = none := by
  by_cases h : k < x.length
  · have e : (sealed x).set k y = x.set k y ++ be 4 (adler x) := by
      unfold sealed
      rw [List.set_append_left _ _ h]
    rw [e]
    refine opened_turned x (x.set k y) (adler_turned x k h y (fun h2 => hne ?_))
    rw [← h2]
    have h5 : (sealed x)[k]? = some x[k] := by
      unfold sealed
      rw [List.getElem?_append_left h]
      exact List.getElem?_eq_getElem h
    rw [List.getElem?_eq_getElem hk] at h5
    injection h5
  · cases ho : opened ((sealed x).set k y) with
    | none => rfl
    | some m =>
      exfalso
      have h1 := opened_some ho
      have hl := congrArg List.length h1
      rw [List.length_set, sealed_length, sealed_length] at hl
      have e : (sealed x).set k y = x ++ (be 4 (adler x)).set (k - x.length) y := by
        unfold sealed
        rw [List.set_append_right _ _ (by omega)]
      rw [e] at h1
      unfold sealed at h1
      obtain ⟨h2, h3⟩ := List.append_inj h1 (by omega)
      rw [h2] at h3
      have hk4 : k - x.length < 4 := by rw [sealed_length] at hk; omega
      have h4 : (be 4 (adler x))[k - x.length]? = some y := by
        rw [h3, List.getElem?_set_self (by rw [be_length]; exact hk4)]
      apply hne
      have h5 : (sealed x)[k]? = some y := by
        unfold sealed
        rw [List.getElem?_append_right (by omega)]
        exact h4
      rw [List.getElem?_eq_getElem hk] at h5
      injection h5

set_option maxHeartbeats 8000000 in
theorem back_law (h : Hd) (A : Option Addr) (m c : Nat) (pos turn : Int) (w : World) (hm : h.p.length = m) (hr : Row w A (iv h.p)) (hp : m ≤ 17592186044416) (hnl : h.n.length ≤ 140737488355328) :
    Calls Try.prog 5 #[.agg #[.int .i64 h.b, .int .i64 h.z, .string (str h.n), .int .i64 h.g, .bool h.c, .slice A m c], .int .i64 pos, .int .i64 turn] w fun e w' => e = .returned (.bool true) ∧ Below w.heap.size w w' := by
  have HM := Lib.hid hm
  clear hm
  have hG := Blk.new w 24 #[.int .i64 h.b, .int .i64 h.z, .string (str h.n), .int .i64 h.g, .bool h.c, .slice A m c]
  have hra := hr.alloc (.cells #[.int .i64 h.b, .int .i64 h.z, .string (str h.n), .int .i64 h.g, .bool h.c, .slice A m c] 24)
  have hb0 := (Below.refl w.heap.size w).alloc (Nat.le_refl _) (.cells #[.int .i64 h.b, .int .i64 h.z, .string (str h.n), .int .i64 h.g, .bool h.c, .slice A m c] 24)
  go_enter Try.func5, Try.ntmps5
  go_wp2_with fail
  refine (hEncode_u h A m c _ HM.out hra (by omega) (by omega)).mono ?_
  rintro e w1 ⟨⟨h1, rfl⟩ | ⟨h1, Ab, cb, rfl, hown1⟩, hb1⟩
  · clear h1
    go_wp2_with fail
    refine (alive_any _).mono ?_
    rintro e w2 ⟨rfl, hb2⟩
    go_wp2_with fail
    go_ret
    exact ⟨rfl, below_all hb0 (below_all hb1 hb2)⟩
  have hdec := decH_text h1
  have hxl : (sealed h.text).length = 28 + h.n.length + h.p.length * 2 := by
    rw [sealed_length, text_len]
    omega
  have hh := Hd.right_of h1
  have hnl15 : h.n.length ≤ 15 := hh.2.2.2.2.1
  have hp8 : h.p.length ≤ 8 := hh.2.2.2.2.2.2.2.1
  clear h1 hh
  have HX := Lib.hid (rfl : sealed h.text = sealed h.text)
  obtain ⟨xs, hxs⟩ : ∃ xs, xs = sealed h.text := ⟨_, rfl⟩
  obtain ⟨tx, htx⟩ : ∃ tx, tx = h.text := ⟨_, rfl⟩
  rw [← htx] at hxs
  rw [← htx, ← hxs] at hdec hown1 hxl ⊢
  obtain ⟨N, hN⟩ : ∃ N, xs.length = N := ⟨_, rfl⟩
  rw [hN] at hown1 hxl ⊢
  have hN50 : N ≤ 100 := by omega
  have HD := Lib.hid hdec
  have HN := Lib.hid hN
  have HXS := Lib.hid hxs
  clear HX hxs htx hdec hN hxl
  have hG1 := hG.belowAll hb1
  have hr1 := hra.below hb1
  have hb01 := below_all hb0 hb1
  have hnc1 := hown1.2.1
  have hown1 := hown1.less (B' := w.heap.size) (by simp)
  clear hG hra hb0 hb1
  go_wp2_with fail
  refine (hDecode_any Ab N cb xs w1 HN.out hnc1 hown1.row (by omega)).mono ?_
  intro e w2 hp2
  obtain ⟨A2, m2, c2, rfl, hm2, h82, hr2, hb2⟩ := dec_U HD.out hp2
  have HM2 := Lib.hid hm2
  have hown2 := (hown1.below hb2).alloc (.cells #[.int .i64 h.b, .int .i64 h.z, .string (str h.n), .int .i64 h.g, .bool h.c, .slice A2 m2 c2] 30)
  have hG2 := (hG1.belowAll hb2).alloc (.cells #[.int .i64 h.b, .int .i64 h.z, .string (str h.n), .int .i64 h.g, .bool h.c, .slice A2 m2 c2] 30)
  have hr2a := (hr1.below hb2).alloc (.cells #[.int .i64 h.b, .int .i64 h.z, .string (str h.n), .int .i64 h.g, .bool h.c, .slice A2 m2 c2] 30)
  have hr2b := hr2.alloc (.cells #[.int .i64 h.b, .int .i64 h.z, .string (str h.n), .int .i64 h.g, .bool h.c, .slice A2 m2 c2] 30)
  have hb02 := below_all hb01 hb2
  have hb02 := hb02.alloc hb02.size (.cells #[.int .i64 h.b, .int .i64 h.z, .string (str h.n), .int .i64 h.g, .bool h.c, .slice A2 m2 c2] 30)
  obtain ⟨⟨g1, g2, g3, g4, g5, g6⟩, _⟩ := hG2.six
  clear hp2 hm2 hown1 hG1 hr1 hr2 hb01 hb2
  go_wp2_with fail
  refine (rSame_self h m2 m A2 A c2 c _ HM2.out HM.out hr2b hr2a (by omega)).mono ?_
  rintro e w3 ⟨rfl, hb3⟩
  have hown3 := hown2.below hb3
  have hb03 := below_all hb02 hb3
  clear g1 g2 g3 g4 g5 g6 hG2 hr2a hr2b hb02 hb3 hown2
  by_cases q1 : pos < 0
  · go_wp2_with fail
    refine (alive_any _).mono ?_
    rintro e w4 ⟨rfl, hb4⟩
    go_wp2_with fail
    go_ret
    exact ⟨rfl, below_all hb03 hb4⟩
  by_cases q2 : (N : Int) ≤ pos
  · go_wp2_with fail
    refine (alive_any _).mono ?_
    rintro e w4 ⟨rfl, hb4⟩
    go_wp2_with fail
    go_ret
    exact ⟨rfl, below_all hb03 hb4⟩
  by_cases q3 : turn < 1
  · go_wp2_with fail
    refine (alive_any _).mono ?_
    rintro e w4 ⟨rfl, hb4⟩
    go_wp2_with fail
    go_ret
    exact ⟨rfl, below_all hb03 hb4⟩
  by_cases q4 : 255 < turn
  · go_wp2_with fail
    refine (alive_any _).mono ?_
    rintro e w4 ⟨rfl, hb4⟩
    go_wp2_with fail
    go_ret
    exact ⟨rfl, below_all hb03 hb4⟩
  obtain ⟨k, rfl⟩ := Int.eq_ofNat_of_zero_le (show 0 ≤ pos by omega)
  obtain ⟨tn, rfl⟩ := Int.eq_ofNat_of_zero_le (show 0 ≤ turn by omega)
  have hkl : k < xs.length := by have := HN.out; omega
  have hkN : k < N := by omega
  have htn : (UInt8.ofNat tn).toNat = tn := toNat_ofNat tn (by omega)
  have htz : UInt8.ofNat tn ≠ 0 := by
    intro hz
    rw [hz] at htn
    have : tn = 0 := htn.symm
    omega
  have hne := xor_ne xs[k] (UInt8.ofNat tn) htz
  have hx := xor_u8 xs[k] (UInt8.ofNat tn)
  rw [htn] at hx
  obtain ⟨y, hy⟩ : ∃ y, y = xs[k] ^^^ UInt8.ofNat tn := ⟨_, rfl⟩
  rw [← hy] at hne hx
  have hop : opened (xs.set k y) = none := by
    have h1 := HXS.out
    subst h1
    exact sealed_turned tx k hkl y hne
  have hll : (xs.set k y).length = N := by rw [List.length_set]; exact HN.out
  have hbv : (bv xs).set k (.int .u8 (y.toNat : Int)) = bv (xs.set k y) := by rw [bv, bv, List.map_set]
  obtain ⟨g, rfl, hgB, hgs, hob, hcell, hfz, hown4⟩ := hown3.at_ hkN (bv_at hkl)
  have hown5 := hown4 (.int .u8 (y.toNat : Int))
  rw [hbv] at hown5
  have hdec5 : decH (xs.set k y) = (noH, 51) := by unfold decH; rw [hop]
  obtain ⟨zs, hzs⟩ : ∃ zs, zs = xs.set k y := ⟨_, rfl⟩
  rw [← hzs] at hown5 hll hdec5
  have HLL := Lib.hid hll
  have HD5 := Lib.hid hdec5
  obtain ⟨xk, hxk⟩ : ∃ xk : Nat, xk = xs[k].toNat := ⟨_, rfl⟩
  rw [← hxk] at hx hcell
  have hb05 := hb03.setCell (p := ⟨g, k, none⟩) hgB (.int .u8 (y.toNat : Int))
  clear hown3 hown4 hne hy hop hbv hzs hdec5 hll htz htn hxk hb03
  go_wp2_with fail
  have hcn := hown5.2.1
  obtain ⟨w5, hw5⟩ : ∃ w5, w5 = w3.setCell ⟨g, k, none⟩ (.int .u8 (y.toNat : Int)) := ⟨_, rfl⟩
  rw [← hw5] at hown5 hb05 ⊢
  clear hw5
  refine (hDecode_any (some ⟨g, 0, none⟩) N cb zs w5 HLL.out hcn hown5.row (by omega)).mono ?_
  intro e w6 hp6
  obtain ⟨A6, c6, rfl, hb6⟩ := dec_N hp6 HD5.out
  have hS : ∀ u, Calls Try.prog 20 #[.agg #[.int .i64 0, .int .i64 0, .string ⟨#[]⟩, .int .i64 0, .bool false, .slice A6 0 c6], .agg #[.int .i64 0, .int .i64 0, .string ⟨#[]⟩, .int .i64 0, .bool false, .slice none 0 0]] u fun e w' => e = .returned (.bool true) ∧ Below u.heap.size u w' :=
    fun u => (hSame_any 0 0 0 0 0 0 [] [] false false [] [] 0 0 A6 none c6 0 u rfl rfl (Row.nil _ _) (Row.nil _ _) (by omega) (by omega)).mono fun e w' h => ⟨h.1, h.2⟩
  have HS := Lib.hid hS
  have hb06 := below_all hb05 hb6
  have hb06 := hb06.alloc hb06.size (.cells #[.int .i64 0, .int .i64 0, .string ⟨#[]⟩, .int .i64 0, .bool false, .slice A6 0 c6] 30)
  have hJ := Blk.new w6 30 #[.int .i64 0, .int .i64 0, .string ⟨#[]⟩, .int .i64 0, .bool false, .slice A6 0 c6]
  clear hp6 hS hb6 hb05 hown5
  go_wp2_with fail
  refine (alive_any _).mono ?_
  rintro e w7 ⟨rfl, hb7⟩
  obtain ⟨⟨j1, j2, j3, j4, j5, j6⟩, _⟩ := (hJ.belowAll hb7).six
  have hb07 := below_all hb06 hb7
  clear hJ hb7 hb06
  go_wp2_with fail
  refine (HS.out _).mono ?_
  rintro e w8 ⟨rfl, hb8⟩
  go_wp2_with fail
  go_ret
  exact ⟨ret_bool (by simp), below_all hb07 hb8⟩
end Go.Proofs.Ytophnjoaajcfjaa
