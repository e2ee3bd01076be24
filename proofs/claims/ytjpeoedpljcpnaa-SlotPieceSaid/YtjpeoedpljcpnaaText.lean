/- octets.Text. Conditions: the row is the call's own; the bytes fit memory. -/
import Derived.Test.YtjpeoedpljcpnaaRdr
namespace Go.Proofs.Ytjpeoedpljcpnaa
open Go.RowKit

theorem row_new {w : World} {cs : Array Value} {e : TypeId} : Row (w.alloc (.cells cs e)) (some ⟨w.heap.size, 0, none⟩) cs.toList :=
  .inr ⟨_, 0, rfl, fun j u hu => by rw [World.cell?_alloc_new]; simpa using hu⟩

theorem put_yes_at (B : Nat) (A : Option Addr) (n c : Nat) (W : Nat) (width : Int) (hwW : width = W) (L : Option Addr) (m cl : Nat) (l : List Int) (xs : List UInt8) (w : World) (hm : l.length = m) (hL : Row w L (iv l))
    (hB : B ≤ w.heap.size) (hown : Own w B 5 1 A n c (bv xs)) (hW : rt width = true) (hF : fitAll width l = true) (hLA : ∀ a, L = some a → ownB A c ≠ some a.block)
    (hsz : n + m * W ≤ 140737488355328) :
    Calls Try.prog 27 #[.slice A n c, .int .i64 width, .slice L m cl] w fun e w' => ∃ A' c', e = .returned (.tuple #[.slice A' (n + m * W) c', .bool true]) ∧
      Own w' B 5 1 A' (n + m * W) c' (bv (xs ++ putB W l)) ∧ Only w w' (fun k => ownB A c = some k) ∧ (ownB A' c' = ownB A c ∨ ∃ g, w.heap.size ≤ g ∧ ownB A' c' = some g) := by
  subst hwW
  exact put_yes B A n c W L m cl l xs w hm hL hB hown hW hF (fun _ => hLA) hsz

theorem fit_one (width n : Int) : fitAll width [n] = ft n width := by simp [fitAll, ft]
theorem putB_one (W n : Nat) : putB W [(n : Int)] = be W n := by simp [putB]

theorem below_only {B : Nat} {w w1 w2 : World} {g : Nat} (h : Below B w w1) (hB : B ≤ w.heap.size) (hg : B ≤ g) (hon : Only w1 w2 (· = g)) : Below B w w2 :=
  h.trans (hon.belowB (fun k hk => by rw [hk]; exact hg) (Nat.le_trans hB h.size))
end Go.Proofs.Ytjpeoedpljcpnaa
