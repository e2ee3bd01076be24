/- pentimentolaw03.does, few. Conditions: the lengths fit memory; the numbers are int64's. -/
import Derived.Test.YtbljacafmkdlmaaRdo
namespace Go.Proofs.Ytbljacafmkdlmaa
set_option maxRecDepth 100000
open Go.RowKit
set_option linter.unusedSimpArgs false

def WrPost (w : World) (B : Nat) (f : Fp) (r : St × Int) (e : Ending) (w' : World) : Prop := ∃ f', e = .returned (.int .i64 r.2) ∧ Sto w' B f' r.1 ∧ Turned w w' f f'
theorem write_any (B : Nat) (f : Fp) (s : St) (w : World) (h : Sto w B f s) (at_ : Int) (A : Option Addr) (m c : Nat) (b : List UInt8) (hm : b.length = m) (hmc : m ≤ c) (hm63 : m ≤ 9223372036854775807) (hr : Away w A (bv b) (Foot f)) (hsz : s.l.length + 4096 ≤ 5000000000000) :
    Calls Try.prog 42 #[.pointer (some ⟨f.g, 0, none⟩), .int .i64 at_, .slice A m c] w (WrPost w B f (doW s at_ b)) := by
  by_cases hno : m = 0 ∨ m % 16 ≠ 0 ∨ insideB s.n at_ ((m / 16 : Nat) : Int) = false
  · refine (write_no B f s w h at_ A m c b hm hm63 hno).mono ?_
    rintro e w' ⟨rfl, rfl⟩
    have e1 : (doW s at_ b).1 = s := by
      unfold doW
      split
      · rfl
      · rename_i h1
        rw [if_pos]
        rw [hm] at h1 ⊢
        rcases hno with h2 | h2 | h2
        · exact absurd (.inl h2) h1
        · exact absurd (.inr h2) h1
        · exact h2
    exact ⟨f, rfl, by rw [e1]; exact h, Turned.refl _ _⟩
  · have h1 : ¬ m = 0 := fun h => hno (.inl h)
    have h2 : m % 16 = 0 := by
      by_cases h2 : m % 16 = 0
      · exact h2
      · exact absurd (.inr (.inl h2)) hno
    have h3 : insideB s.n at_ ((m / 16 : Nat) : Int) = true := by
      cases h3 : insideB s.n at_ ((m / 16 : Nat) : Int)
      · exact absurd (.inr (.inr h3)) hno
      · rfl
    have hof := insideB_of h3
    have hn1 := h.ok.n1
    exact write_yes B f s w h at_ A m c b hm hmc hr (m / 16) (by omega) (by omega) h3 (by omega)

def DoesPost (w : World) (B : Nat) (f : Fp) (r : St × List UInt8 × Int) (e : Ending) (w' : World) : Prop :=
  ∃ f', e = .returned (.tuple #[.string (str r.2.1), .int .i64 r.2.2]) ∧ Sto w' B f' r.1 ∧ Turned w w' f f'

end Go.Proofs.Ytbljacafmkdlmaa
