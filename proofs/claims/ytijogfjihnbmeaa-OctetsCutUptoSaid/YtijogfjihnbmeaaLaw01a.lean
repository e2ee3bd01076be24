/- The law OctetsOrder. No condition. -/
import Derived.Test.YtijogfjihnbmeaaAlive01
namespace Go.Proofs.Ytijogfjihnbmeaa
open Go.RowKit

theorem put_any (A : Option Addr) (B n c : Nat) (width : Int) (L : Option Addr) (m cl : Nat) (l : List Int) (xs : List UInt8) (w : World) (hm : l.length = m) (hL : Row w L (iv l)) (hB : B ≤ w.heap.size)
    (hown : Own w B 5 1 A n c (bv xs)) (hLA : l ≠ [] → ∀ a, L = some a → ownB A c ≠ some a.block) (hsz : n + m * 8 ≤ 140737488355328) :
    Calls Try.prog 12 #[.slice A n c, .int .i64 width, .slice L m cl] w fun e w' => ∃ A' n' c', e = .returned (.tuple #[.slice A' n' c', .bool (rt width && fitAll width l)]) ∧
      (xs ++ (if rt width && fitAll width l then putB width.toNat l else [])).length = n' ∧
      Own w' B 5 1 A' n' c' (bv (xs ++ (if rt width && fitAll width l then putB width.toNat l else []))) ∧ Only w w' (fun k => ownB A c = some k) ∧ (ownB A' c' = ownB A c ∨ ∃ g, w.heap.size ≤ g ∧ ownB A' c' = some g) := by
  have hnx : xs.length = n := by have := hown.1; rw [bv_length] at this; omega
  cases hok : rt width && fitAll width l with
  | false =>
    refine (put_no A n c width L m cl l w hm (by omega) hL hok).mono ?_
    rintro e w' ⟨rfl, rfl⟩
    exact ⟨A, n, c, rfl, by simpa using hnx, by simpa using hown, Only.refl _ _, .inl rfl⟩
  | true =>
    rw [Bool.and_eq_true] at hok
    obtain ⟨W, rfl⟩ : ∃ W : Nat, width = W := Int.eq_ofNat_of_zero_le (by rcases rt_cases hok.1 with rfl | rfl | rfl | rfl <;> decide)
    have hW8 : W ≤ 8 := by rcases rt_cases hok.1 with h | h | h | h <;> omega
    have hmW : m * W ≤ m * 8 := Nat.mul_le_mul_left _ hW8
    refine (put_yes B A n c W L m cl l xs w hm hL hB hown hok.1 hok.2 hLA (by omega)).mono ?_
    rintro e w' ⟨A', c', rfl, h1, h2, h3⟩
    simp only [Int.toNat_natCast, if_true]
    exact ⟨A', n + m * W, c', rfl, by rw [List.length_append, putB_length, hm, hnx], h1, h2, h3⟩

theorem own_away {w0 w : World} {L : Option Addr} {xs ys : List Value} {B : Nat} {e : TypeId} {size : Nat} {A : Option Addr} {n c : Nat} (hL : Row w0 L xs) (hown : Own w B e size A n c ys) (hB : w0.heap.size ≤ B) :
    xs ≠ [] → ∀ a, L = some a → ownB A c ≠ some a.block := by
  intro hne a ha hk
  obtain ⟨g, o, rfl, hg, _⟩ := hL.at_ (List.length_pos_iff.2 hne)
  injection ha with ha
  subst ha
  have := (hown.lt _ hk).1
  simp only at this
  omega

theorem be_less : ∀ (W a b : Nat), Op.bytesLess (be W a) (be W b) = decide (a % 256 ^ W < b % 256 ^ W)
  | 0, a, b => by
    have e : ∀ n, be 0 n = [] := fun n => List.eq_nil_of_length_eq_zero (be_length 0 n)
    rw [e, e]
    simp [Op.bytesLess, Nat.mod_one]
  | W + 1, a, b => by
    rw [be_cons, be_cons, Op.bytesLess, be_less W a b]
    have ha := Nat.mod_pow_succ (b := 256) (k := W) (x := a)
    have hb := Nat.mod_pow_succ (b := 256) (k := W) (x := b)
    have hP : 0 < 256 ^ W := Nat.pow_pos (by omega)
    have hla := Nat.mod_lt a hP
    have hlb := Nat.mod_lt b hP
    have hx : a / 256 ^ W % 256 < 256 := Nat.mod_lt _ (by omega)
    have hy : b / 256 ^ W % 256 < 256 := Nat.mod_lt _ (by omega)
    rw [ha, hb]
    obtain ⟨x, hx'⟩ : ∃ x, x = a / 256 ^ W % 256 := ⟨_, rfl⟩
    obtain ⟨y, hy'⟩ : ∃ y, y = b / 256 ^ W % 256 := ⟨_, rfl⟩
    obtain ⟨p, hp'⟩ : ∃ p, p = a % 256 ^ W := ⟨_, rfl⟩
    obtain ⟨q, hq'⟩ : ∃ q, q = b % 256 ^ W := ⟨_, rfl⟩
    rw [← hx', ← hy', ← hp', ← hq']
    rw [← hx'] at hx
    rw [← hy'] at hy
    rw [← hp'] at hla
    rw [← hq'] at hlb
    generalize 256 ^ W = P at *
    have hlt : (UInt8.ofNat x < UInt8.ofNat y) ↔ x < y := by
      rw [UInt8.lt_iff_toNat_lt, toNat_ofNat x hx, toNat_ofNat y hy]
    have heq : (UInt8.ofNat x == UInt8.ofNat y) = decide (x = y) := by
      rw [Bool.eq_iff_iff, beq_iff_eq, decide_eq_true_eq, ← UInt8.toNat_inj, toNat_ofNat x hx, toNat_ofNat y hy]
    rw [heq]
    rcases Nat.lt_trichotomy x y with h | h | h
    · have h1 : (x + 1) * P ≤ y * P := Nat.mul_le_mul_right _ h
      rw [Nat.succ_mul] at h1
      have h2 : P * x = x * P := Nat.mul_comm _ _
      have h3 : P * y = y * P := Nat.mul_comm _ _
      simp only [hlt, h, decide_true, Bool.true_or]
      symm
      rw [decide_eq_true_eq]
      omega
    · subst h
      simp [hlt]
    · have h1 : (y + 1) * P ≤ x * P := Nat.mul_le_mul_right _ h
      rw [Nat.succ_mul] at h1
      have h2 : P * x = x * P := Nat.mul_comm _ _
      have h3 : P * y = y * P := Nat.mul_comm _ _
      have h4 : ¬ x < y := by omega
      have h5 : ¬ x = y := by omega
      simp only [hlt, h4, h5, decide_false, Bool.false_or, Bool.false_and]
      symm
      rw [decide_eq_false_iff_not]
      omega

theorem be_order (W a b : Nat) (ha : a < 256 ^ W) (hb : b < 256 ^ W) : Op.bytesLess (be W a) (be W b) = decide (a < b) := by
  rw [be_less, Nat.mod_eq_of_lt ha, Nat.mod_eq_of_lt hb]

/-- A Put into the nil slice. -/
theorem put_nil (width : Int) (L : Option Addr) (m cl : Nat) (l : List Int) (w : World) (hm : l.length = m) (hL : Row w L (iv l)) (hsz : m * 8 ≤ 140737488355328) :
    Calls Try.prog 12 #[.slice none 0 0, .int .i64 width, .slice L m cl] w fun e w' => ∃ A' n' c', e = .returned (.tuple #[.slice A' n' c', .bool (rt width && fitAll width l)]) ∧
      (if rt width && fitAll width l then putB width.toNat l else []).length = n' ∧
      Own w' w.heap.size 5 1 A' n' c' (bv (if rt width && fitAll width l then putB width.toNat l else [])) ∧ Below w.heap.size w w' := by
  refine (put_any none w.heap.size 0 0 width L m cl l [] w hm hL (Nat.le_refl _) (Own.nil _ _ _ _ _) (by intro _ a _ h; cases h) (by omega)).mono ?_
  rintro e w' ⟨A', n', c', rfl, h1, h2, h3, h4⟩
  exact ⟨A', n', c', rfl, by simpa using h1, by simpa using h2, h3.below (fun k _ hk => by simp [ownB] at hk)⟩

set_option maxHeartbeats 2000000 in
theorem order_law (a b width : Int) (w : World) :
    Calls Try.prog 4 #[.int .i64 a, .int .i64 b, .int .i64 width] w fun e w' => e = .returned (.bool true) ∧ Below w.heap.size w w' := by
  cases h1 : rt width && fitAll width [a] with
  | false =>
    go_enter Try.func4, Try.ntmps4
    go_wp2_with fail
    refine (put_nil width _ 1 1 [a] _ rfl row_new (by omega)).mono ?_
    rintro e w1 ⟨A1, n1, c1, rfl, hn1, hown1, hb1⟩
    rw [h1]
    go_wp2_with fail
    refine (put_nil width _ 1 1 [b] _ rfl row_new (by omega)).mono ?_
    rintro e w2 ⟨A2, n2, c2, rfl, hn2, hown2, hb2⟩
    go_wp2_with fail
    refine (alive_any _).mono ?_
    rintro e w3 ⟨rfl, hb3⟩
    go_wp2_with fail
    go_ret
    exact ⟨rfl, below_all (((Below.refl _ _).alloc (Nat.le_refl _) _).trans (hb1.mono (by simp))) (below_all (((Below.refl _ _).alloc (Nat.le_refl _) _).trans (hb2.mono (by simp))) hb3)⟩
  | true =>
    cases h2 : rt width && fitAll width [b] with
    | false =>
      go_enter Try.func4, Try.ntmps4
      go_wp2_with fail
      refine (put_nil width _ 1 1 [a] _ rfl row_new (by omega)).mono ?_
      rintro e w1 ⟨A1, n1, c1, rfl, hn1, hown1, hb1⟩
      rw [h1]
      go_wp2_with fail
      refine (put_nil width _ 1 1 [b] _ rfl row_new (by omega)).mono ?_
      rintro e w2 ⟨A2, n2, c2, rfl, hn2, hown2, hb2⟩
      rw [h2]
      go_wp2_with fail
      refine (alive_any _).mono ?_
      rintro e w3 ⟨rfl, hb3⟩
      go_wp2_with fail
      go_ret
      exact ⟨rfl, below_all (((Below.refl _ _).alloc (Nat.le_refl _) _).trans (hb1.mono (by simp))) (below_all (((Below.refl _ _).alloc (Nat.le_refl _) _).trans (hb2.mono (by simp))) hb3)⟩
    | true =>
      have hrt : rt width = true := by rw [Bool.and_eq_true] at h1; exact h1.1
      have hf1 := ft_lt (show ft a width = true by rw [Bool.and_eq_true, fit_one] at h1; exact h1.2)
      have hf2 := ft_lt (show ft b width = true by rw [Bool.and_eq_true, fit_one] at h2; exact h2.2)
      obtain ⟨W, rfl⟩ : ∃ W : Nat, width = W := Int.eq_ofNat_of_zero_le (by rcases rt_cases hrt with rfl | rfl | rfl | rfl <;> decide)
      obtain ⟨x, rfl⟩ := Int.eq_ofNat_of_zero_le hf1.1
      obtain ⟨y, rfl⟩ := Int.eq_ofNat_of_zero_le hf2.1
      have hl := lim_pow hrt
      have hlt := be_order W x y (by omega) (by omega)
      have HLT := Lib.hid hlt
      have hl1 := be_length W x
      have hl2 := be_length W y
      have HL1 := Lib.hid hl1
      have HL2 := Lib.hid hl2
      clear hlt hf1 hf2 hl1 hl2
      go_enter Try.func4, Try.ntmps4
      go_wp2_with fail
      refine (put_nil W _ 1 1 [(x : Int)] _ rfl row_new (by omega)).mono ?_
      rintro e w1 ⟨A1, n1, c1, rfl, hn1, hown1, hb1⟩
      rw [h1] at hn1 hown1 ⊢
      rw [if_pos rfl, Int.toNat_natCast, putB_one] at hn1 hown1
      rw [HL1.out] at hn1
      subst hn1
      go_wp2_with fail
      refine (put_nil W _ 1 1 [(y : Int)] _ rfl row_new (by omega)).mono ?_
      rintro e w2 ⟨A2, n2, c2, rfl, hn2, hown2, hb2⟩
      rw [h2] at hn2 hown2 ⊢
      rw [if_pos rfl, Int.toNat_natCast, putB_one] at hn2 hown2
      rw [HL2.out] at hn2
      subst hn2
      have hb02 : Below w1.heap.size w1 w2 := ((Below.refl _ _).alloc (Nat.le_refl _) _).trans (hb2.mono (by simp))
      go_wp2_with fail
      refine (alive_any _).mono ?_
      rintro e w3 ⟨rfl, hb3⟩
      have hr1 := (hown1.row.below hb02).below hb3
      have hr2 := hown2.row.below hb3
      have hs1 := run_string (P := Try.prog) HL1.out 22 9 5 (c := c1) Try.underlying22 Try.underlying5 Try.underlying9 hr1
      have hs2 := run_string (P := Try.prog) HL2.out 22 9 5 (c := c2) Try.underlying22 Try.underlying5 Try.underlying9 hr2
      go_wp2_with fail
      go_ret
      refine ⟨ret_bool (by rw [HLT.out]; simp), below_all (((Below.refl _ _).alloc (Nat.le_refl _) _).trans (hb1.mono (by simp))) (below_all hb02 hb3)⟩
end Go.Proofs.Ytijogfjihnbmeaa
