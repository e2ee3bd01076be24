/- Plain laws on counts as bytes: what is read is what was written. No condition. -/
import Derived.Test.YtjkklndpfmemhaaDoes
import Derived.Test.YtjkklndpfmemhaaRdr
namespace Go.Proofs.Ytjkklndpfmemhaa

theorem rt2 : rt 2 = true := by decide
theorem nm_bad (l : List UInt8) (e : Int) (he : e ≠ 0) (w : Int) : nm l e w = (l, e, 0) := by
  unfold nm
  have : ∀ b, tk l e w b = (l, e, []) := fun b => by unfold tk; rw [if_pos he]
  simp only [this]
  rfl
theorem nm_short (l : List UInt8) (W : Nat) (hw : rt W = true) (hl : l.length < W) : nm l 0 W = (l, 10, 0) := by
  unfold nm
  have : tk l 0 W (!rt W) = (l, 10, []) := by
    unfold tk
    rw [hw, if_neg (by simp), if_neg (by simp), if_pos (by omega)]
  simp only [this]
  rfl
theorem nm_yes (l : List UInt8) (W : Nat) (hw : rt W = true) (h8 : W ≠ 8) (hl : W ≤ l.length) : nm l 0 W = (l.drop W, 0, un (l.take W)) := by
  unfold nm
  have : tk l 0 W (!rt W) = (l.drop W, 0, l.take W) := by
    unfold tk
    rw [hw, if_neg (by simp), if_neg (by simp), if_neg (by omega), Int.toNat_natCast]
  simp only [this]
  rw [if_neg]
  rintro ⟨h1, _⟩
  rw [List.length_take] at h1
  omega

/-- So many numbers of two bytes, one behind the other. -/
def rk : Nat → List UInt8 → Int → List UInt8 × Int × List Int
  | 0, l, e => (l, e, [])
  | k + 1, l, e => ((nm (rk k l e).1 (rk k l e).2.1 2).1, (nm (rk k l e).1 (rk k l e).2.1 2).2.1, (rk k l e).2.2 ++ [((nm (rk k l e).1 (rk k l e).2.1 2).2.2 : Int)])

theorem rk_length : ∀ (k : Nat) (l : List UInt8) (e : Int), (rk k l e).2.2.length = k
  | 0, _, _ => rfl
  | k + 1, l, e => by
    show ((rk k l e).2.2 ++ [_]).length = _
    rw [List.length_append, rk_length k]
    rfl
theorem rk_small : ∀ (k : Nat) (l : List UInt8) (e : Int), ∀ x ∈ (rk k l e).2.2, 0 ≤ x ∧ x ≤ 65535
  | 0, _, _, x, hx => by cases hx
  | k + 1, l, e, x, hx => by
    rcases List.mem_append.1 hx with hx | hx
    · exact rk_small k l e x hx
    · rw [List.mem_singleton] at hx
      subst hx
      refine ⟨by omega, ?_⟩
      by_cases he : (rk k l e).2.1 = 0
      · by_cases hl : (rk k l e).1.length < 2
        · rw [he, show (2 : Int) = ((2 : Nat) : Int) from rfl, nm_short _ 2 rt2 hl]
          show (0 : Int) ≤ 65535
          decide
        · rw [he, show (2 : Int) = ((2 : Nat) : Int) from rfl, nm_yes _ 2 rt2 (by omega) (by omega)]
          have h := un_lt ((rk k l e).1.take 2)
          rw [List.length_take, Nat.min_eq_left (by omega)] at h
          have : (256 : Nat) ^ 2 = 65536 := rfl
          simp only
          omega
      · rw [nm_bad _ _ he]
        show (0 : Int) ≤ 65535
        decide
theorem rk_len : ∀ (k : Nat) (l : List UInt8) (e : Int), (rk k l e).1.length ≤ l.length
  | 0, _, _ => Nat.le_refl _
  | k + 1, l, e => by
    refine Nat.le_trans ?_ (rk_len k l e)
    show (nm _ _ 2).1.length ≤ _
    by_cases he : (rk k l e).2.1 = 0
    · by_cases hl : (rk k l e).1.length < 2
      · rw [he, show (2 : Int) = ((2 : Nat) : Int) from rfl, nm_short _ 2 rt2 hl]
        exact Nat.le_refl _
      · rw [he, show (2 : Int) = ((2 : Nat) : Int) from rfl, nm_yes _ 2 rt2 (by omega) (by omega)]
        show (List.drop 2 _).length ≤ _
        rw [List.length_drop]
        omega
    · rw [nm_bad _ _ he]
      exact Nat.le_refl _
/-- What was read without an error is what stands there. -/
theorem rk_ok : ∀ (k : Nat) (l : List UInt8) (e : Int), (rk k l e).2.1 = 0 → e = 0 ∧ l = putB 2 (rk k l e).2.2 ++ (rk k l e).1
  | 0, _, _, h => ⟨h, rfl⟩
  | k + 1, l, e, h => by
    have h' : (nm (rk k l e).1 (rk k l e).2.1 2).2.1 = 0 := h
    by_cases he : (rk k l e).2.1 = 0
    · obtain ⟨h1, h2⟩ := rk_ok k l e he
      refine ⟨h1, ?_⟩
      rw [he] at h'
      by_cases hl : (rk k l e).1.length < 2
      · rw [show (2 : Int) = ((2 : Nat) : Int) from rfl, nm_short _ 2 rt2 hl] at h'
        cases h'
      · show l = putB 2 ((rk k l e).2.2 ++ [((nm (rk k l e).1 (rk k l e).2.1 2).2.2 : Int)]) ++ (nm (rk k l e).1 (rk k l e).2.1 2).1
        rw [he, show (2 : Int) = ((2 : Nat) : Int) from rfl, nm_yes _ 2 rt2 (by omega) (by omega), putB_snoc, Int.toNat_natCast, be_un 2 _ (by rw [List.length_take]; omega), List.append_assoc, List.take_append_drop]
        exact h2
    · rw [nm_bad _ _ he] at h'
      exact absurd h' he
/-- What was written is read. -/
theorem rk_put : ∀ (vs : List Int) (rest : List UInt8), (∀ x ∈ vs, 0 ≤ x ∧ x ≤ 65535) → rk vs.length (putB 2 vs ++ rest) 0 = (rest, 0, vs) := by
  intro vs
  induction vs using snoc_ind with
  | h0 => intro rest _; rfl
  | h1 vs x ih =>
    intro rest hv
    have hx := hv x (by simp)
    have h1 := ih (be 2 x.toNat ++ rest) (fun y hy => hv y (by simp [hy]))
    rw [List.length_append, List.length_singleton]
    show ((nm (rk vs.length _ 0).1 (rk vs.length _ 0).2.1 2).1, _, _) = _
    rw [putB_snoc, List.append_assoc, h1]
    simp only
    rw [show (2 : Int) = ((2 : Nat) : Int) from rfl, nm_yes _ 2 rt2 (by omega) (by rw [List.length_append, be_length]; omega), List.drop_left' (be_length _ _), List.take_left' (be_length _ _), un_be 2 _ (by show _ < 65536; omega)]
    simp only
    congr 3
    rw [show ((x.toNat : Nat) : Int) = x by omega]

/-- How many there are said to be; what is left behind them; the error; they. -/
def cntOf (b : List UInt8) : Nat := (nm b 0 2).2.2
def rowOf (b : List UInt8) : List UInt8 × Int × List Int := rk (cntOf b) (nm b 0 2).1 (nm b 0 2).2.1
def decF (b : List UInt8) : Option (List Int) := if cntOf b ≤ 512 ∧ endOf (rowOf b).1 (rowOf b).2.1 = 0 then some (rowOf b).2.2 else none

theorem end_zero {l : List UInt8} {e : Int} (h : endOf l e = 0) : e = 0 ∧ l = [] := by
  unfold endOf at h
  split at h
  · cases h
  · rename_i hc
    refine ⟨h, List.eq_nil_of_length_eq_zero ?_⟩
    omega
theorem decF_good {b : List UInt8} {y : List Int} (h : decF b = some y) : Good y ∧ encF y = b := by
  unfold decF at h
  split at h
  · rename_i hc
    injection h with h
    subst h
    obtain ⟨h1, h2⟩ := end_zero hc.2
    have hl := rk_length (cntOf b) (nm b 0 2).1 (nm b 0 2).2.1
    refine ⟨⟨by show (rk _ _ _).2.2.length ≤ _; rw [hl]; exact hc.1, rk_small _ _ _⟩, ?_⟩
    obtain ⟨h3, h4⟩ := rk_ok _ _ _ h1
    have h4' : (nm b 0 2).1 = putB 2 (rowOf b).2.2 ++ (rowOf b).1 := h4
    rw [h2, List.append_nil] at h4'
    have hlen : (rowOf b).2.2.length = cntOf b := hl
    unfold encF
    rw [hlen, ← h4']
    by_cases hb : b.length < 2
    · rw [show (2 : Int) = ((2 : Nat) : Int) from rfl, nm_short _ 2 rt2 hb] at h3
      cases h3
    · unfold cntOf
      rw [show (2 : Int) = ((2 : Nat) : Int) from rfl, nm_yes _ 2 rt2 (by omega) (by omega)]
      simp only
      rw [be_un 2 _ (by rw [List.length_take]; omega), List.take_append_drop]
  · cases h
theorem decF_enc {y : List Int} (h : Good y) : decF (encF y) = some y := by
  have hlong := h.long
  have h0 : nm (encF y) 0 2 = (putB 2 y, 0, y.length) := by
    rw [show (2 : Int) = ((2 : Nat) : Int) from rfl, nm_yes _ 2 rt2 (by omega) (by rw [encF_length]; omega)]
    unfold encF
    rw [List.drop_left' (be_length _ _), List.take_left' (be_length _ _), un_be 2 _ (by show _ < 65536; omega)]
  have hc : cntOf (encF y) = y.length := by unfold cntOf; rw [h0]
  have hr : rowOf (encF y) = ([], 0, y) := by
    unfold rowOf
    rw [hc, h0]
    have := rk_put y [] h.each
    rw [List.append_nil] at this
    exact this
  unfold decF
  rw [hc, hr, if_pos ⟨hlong, rfl⟩]
end Go.Proofs.Ytjkklndpfmemhaa
