/- safe.area, safe.Most, safe.copied. Conditions: a store as one lies in memory; copies 0 and 1. -/
import Derived.Test.YtbljacafmkdlmaaSfP
import Derived.Test.YtbljacafmkdlmaaDos
import Derived.Test.YtbljacafmkdlmaaRdr
import Derived.Test.YtbljacafmkdlmaaSeal
namespace Go.Proofs.Ytbljacafmkdlmaa
set_option maxRecDepth 100000
open Go.RowKit
set_option linter.unusedSimpArgs false

set_option maxHeartbeats 1000000 in
theorem area_any (n : Int) (w : World) (h0 : 0 ≤ n) (h1 : n ≤ 1099511627776) :
    Calls Try.prog 36 #[.int .i64 n] w fun e w' => e = .returned (.int .i64 (areaN n)) ∧ w' = w := by
  have e : (areaN n : Int) = (if n < 2 then 0 else (n - 2) / 2) := by
    unfold areaN
    split <;> omega
  have HE := Lib.hid e
  clear e
  by_cases h2 : n < 2
  · go_enter Try.func36, Try.ntmps36
    go_wp2_with fail
    go_ret
    exact ⟨ret_int (by rw [HE.out, if_pos h2]), rfl⟩
  · have h3 : 0 ≤ n - 2 := by omega
    go_enter Try.func36, Try.ntmps36
    go_wp2_with fail
    go_ret
    exact ⟨ret_int (by rw [HE.out, if_neg (by omega)]), rfl⟩
set_option maxHeartbeats 1000000 in
theorem most_any (n : Int) (w : World) (h0 : 0 ≤ n) (h1 : n ≤ 1099511627776) :
    Calls Try.prog 13 #[.int .i64 n] w fun e w' => e = .returned (.int .i64 ((16 * areaN n : Nat) : Int)) ∧ w' = w := by
  have hA : areaN n ≤ 1099511627776 := by unfold areaN; omega
  obtain ⟨a, ha⟩ : ∃ a, a = areaN n := ⟨_, rfl⟩
  have har := area_any n w h0 h1
  rw [← ha] at hA har ⊢
  clear ha
  go_enter Try.func13, Try.ntmps13
  go_wp2_with fail
  refine har.mono ?_
  rintro e w1 ⟨rfl, rfl⟩
  go_wp2_with fail
  go_ret
  exact ⟨ret_int (by omega), rfl⟩

/-! ## what is read of a copy -/
theorem rd_cases (s : St) (a n : Int) : (rdS s a n).2 = 0 ∨ (rdS s a n).1 = [] := by
  unfold rdS
  split
  · exact .inr rfl
  split
  · exact .inr rfl
  · exact .inl rfl
theorem opened_short {l m : List UInt8} (h : opened l = some m) : 4 ≤ l.length ∧ m.length = l.length - 4 := by
  have h1 := opened_some h
  rw [← h1, sealed_length]
  omega
theorem mark_some {s : St} (hs : s.OK) {k : Nat} {x : List UInt8} (h : opened (markB s k) = some x) : (rdS s (k : Int) 1).2 = 0 ∧ (markB s k).length = 16 ∧ x.length = 12 ∧ (k : Int) < s.n := by
  obtain ⟨h1, h2⟩ := opened_short h
  have h3 : (rdS s (k : Int) 1).2 = 0 := by
    rcases rd_cases s (k : Int) 1 with h0 | h0
    · exact h0
    · unfold markB at h1
      rw [h0] at h1
      simp at h1
  have h4 : (k : Int) < s.n := by
    have hi : insideB s.n (k : Int) 1 = true := by
      cases hb : insideB s.n (k : Int) 1 with
      | true => rfl
      | false =>
        unfold rdS at h3
        rw [if_neg (by omega), if_pos hb] at h3
        simp at h3
    have := insideB_of hi
    omega
  have h5 : (markB s k).length = 16 := by
    rw [markB_in h4]
    exact sect_len' (fun y hy => (hs.w y hy).2.2) _
  exact ⟨h3, h5, by omega, h4⟩
theorem body_length {s : St} (hs : s.OK) {k : Nat} (hk : k < 2) : (bodyB s k).length = 16 * areaN s.n := by
  by_cases h2 : 2 ≤ s.n
  · rw [bodyB_in hk h2, cat_len' (fun y hy => (hs.w y hy).2.2)]
  · have ha : areaN s.n = 0 := by unfold areaN; omega
    have hr : rdS s ((2 + k * areaN s.n : Nat) : Int) (areaN s.n : Int) = ([], 31) := by
      have hi : insideB s.n 2 0 = false := by
        cases hb : insideB s.n 2 0 with
        | false => rfl
        | true => have := insideB_of hb; omega
      unfold rdS
      rw [ha]
      show (if ((0 : Nat) : Int) < 0 then _ else if insideB s.n ((2 + k * 0 : Nat) : Int) ((0 : Nat) : Int) = false then _ else _) = _
      rw [if_neg (by omega), Nat.mul_zero]
      exact if_pos hi
    unfold bodyB
    rw [hr, ha]
    rfl
theorem nm4 {l : List UInt8} (h : 4 ≤ l.length) : nm l 0 4 = (l.drop 4, 0, un (l.take 4)) := by
  have e : tk l 0 4 (!rt 4) = (l.drop 4, 0, l.take 4) := by
    unfold tk
    rw [if_neg (by omega), if_neg (by decide), if_neg (by omega)]
    rfl
  unfold nm
  rw [e]
  simp only
  rw [if_neg (by rw [List.length_take]; omega)]
theorem u4_lt (x : List UInt8) (i : Nat) : u4 x i < 4294967296 := by
  unfold u4
  have h := un_lt ((x.drop (4 * i)).take 4)
  have h2 : ((x.drop (4 * i)).take 4).length ≤ 4 := List.length_take_le _ _
  have h3 : 256 ^ ((x.drop (4 * i)).take 4).length ≤ 256 ^ 4 := Nat.pow_le_pow_right (by omega) h2
  omega

def CopPost (w : World) (r : List UInt8 × Nat) (e : Ending) (w' : World) : Prop :=
  ∃ A m c, e = .returned (.tuple #[.slice A m c, .int .i64 (r.2 : Int)]) ∧ r.1.length = m ∧ m ≤ c ∧ Row w' A (bv r.1) ∧ Below w.heap.size w w'
theorem CopPost.none_ {w w' : World} {r : List UInt8 × Nat} (h : r = ([], 0)) (hb : Below w.heap.size w w') : CopPost w r (.returned (.tuple #[.slice none 0 0, .int .i64 0])) w' := by
  subst h
  exact ⟨none, 0, 0, rfl, rfl, Nat.le_refl _, Row.nil _ _, hb⟩

set_option maxHeartbeats 2000000 in
theorem copied_none (B : Nat) (f : Fp) (s : St) (w : World) (h : Sto w B f s) (k : Nat) (hk : k < 2) (hno : opened (markB s k) = none) :
    Calls Try.prog 68 #[.pointer (some ⟨f.g, 0, none⟩), .int .i64 k] w (CopPost w (cop s k)) := by
  have hc : cop s k = ([], 0) := by unfold cop; rw [hno]
  have hrd := read_any B f s w h k 1 (by omega) (by omega)
  have hcs := rd_cases s k 1
  unfold markB at hno
  obtain ⟨⟨M, er⟩, hM⟩ : ∃ r, r = rdS s k 1 := ⟨_, rfl⟩
  rw [← hM] at hrd hno hcs
  simp only at hrd hno hcs
  have HNO := Lib.hid hno
  have HC := Lib.hid hc
  have hfit : ∀ m, M.length = m → m ≤ 1000000000000 := fun m hm => by
    have e : M = (rdS s k 1).1 := by rw [← hM]
    rw [← hm, e]
    unfold rdS
    split
    · simp
    split
    · simp
    · have := cat_len' (fun y hy => (h.ok.w y hy).2.2) (k : Int) (1 : Int).toNat
      simp only
      omega
  clear hM hno hc
  have HFIT := Lib.hid hfit
  clear hfit h
  go_enter Try.func68, Try.ntmps68
  go_wp2_with fail
  refine hrd.mono ?_
  rintro e w1 ⟨A, m, c, rfl, hl, hown, hb1⟩
  have hmc := hown.2.1
  have hx := hown.row
  have hm5 := HFIT.out m hl
  have HL := Lib.hid hl
  clear hrd hown hl
  by_cases hm4 : m < 4
  · have hop := fun u => open_short A m c u hm4
    go_wp2_with fail
    refine (hop _).mono ?_
    rintro e w2 ⟨rfl, rfl⟩
    by_cases her : er = 0
    · subst her
      go_wp2_with fail
      go_ret2
      exact CopPost.none_ HC.out hb1
    · go_wp2_with fail
      go_ret2
      exact CopPost.none_ HC.out hb1
  · have hop := open_no A m c M w1 HL.out hmc hx (by omega) (by omega) HNO.out
    go_wp2_with fail
    refine hop.mono ?_
    rintro e w2 ⟨rfl, hb2⟩
    have hb02 := below_all hb1 hb2
    clear hop
    by_cases her : er = 0
    · subst her
      go_wp2_with fail
      go_ret2
      exact CopPost.none_ HC.out hb02
    · go_wp2_with fail
      go_ret2
      exact CopPost.none_ HC.out hb02
end Go.Proofs.Ytbljacafmkdlmaa
