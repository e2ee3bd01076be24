/- Plain laws on what a number that is read leaves. No condition. -/
import Derived.Test.YtophnjoaajcfjaaRdr
namespace Go.Proofs.Ytophnjoaajcfjaa

theorem rt2 : rt 2 = true := by decide
theorem nm_bad (l : List UInt8) (e : Int) (he : e ≠ 0) (w : Int) : nm l e w = (l, e, 0) := by
  unfold nm
  have : ∀ b, tk l e w b = (l, e, []) := fun b => by unfold tk; rw [if_pos he]
  simp only [this]
  rfl
theorem nm_short (l : List UInt8) (W : Nat) (hw : rt W = true) (hl : l.length < W) : nm l 0 W = (l, 10, 0) := by
  unfold nm
  have : tk l 0 W (!rt W) = (l, 10, []) := by
    unfold tk
    rw [hw, if_neg (by simp), if_neg (by simp), if_pos (by omega)]
  simp only [this]
  rfl
theorem nm_yes (l : List UInt8) (W : Nat) (hw : rt W = true) (h8 : W ≠ 8) (hl : W ≤ l.length) : nm l 0 W = (l.drop W, 0, un (l.take W)) := by
  unfold nm
  have : tk l 0 W (!rt W) = (l.drop W, 0, l.take W) := by
    unfold tk
    rw [hw, if_neg (by simp), if_neg (by simp), if_neg (by omega), Int.toNat_natCast]
  simp only [this]
  rw [if_neg]
  rintro ⟨h1, _⟩
  rw [List.length_take] at h1
  omega

end Go.Proofs.Ytophnjoaajcfjaa
