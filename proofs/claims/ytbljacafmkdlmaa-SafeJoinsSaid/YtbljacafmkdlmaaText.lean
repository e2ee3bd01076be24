/- octets.Text. Conditions: the row is the call's own; the bytes fit memory. -/
import Derived.Test.YtbljacafmkdlmaaRdr
namespace Go.Proofs.Ytbljacafmkdlmaa
open Go.RowKit

theorem row_new {w : World} {cs : Array Value} {e : TypeId} : Row (w.alloc (.cells cs e)) (some ⟨w.heap.size, 0, none⟩) cs.toList :=
  .inr ⟨_, 0, rfl, fun j u hu => by rw [World.cell?_alloc_new]; simpa using hu⟩

theorem put_yes_at (B : Nat) (A : Option Addr) (n c : Nat) (W : Nat) (width : Int) (hwW : width = W) (L : Option Addr) (m cl : Nat) (l : List Int) (xs : List UInt8) (w : World) (hm : l.length = m) (hL : Row w L (iv l))
    (hB : B ≤ w.heap.size) (hown : Own w B 5 1 A n c (bv xs)) (hW : rt width = true) (hF : fitAll width l = true) (hLA : ∀ a, L = some a → ownB A c ≠ some a.block)
    (hsz : n + m * W ≤ 140737488355328) :
    Calls Try.prog 43 #[.slice A n c, .int .i64 width, .slice L m cl] w fun e w' => ∃ A' c', e = .returned (.tuple #[.slice A' (n + m * W) c', .bool true]) ∧
      Own w' B 5 1 A' (n + m * W) c' (bv (xs ++ putB W l)) ∧ Only w w' (fun k => ownB A c = some k) ∧ (ownB A' c' = ownB A c ∨ ∃ g, w.heap.size ≤ g ∧ ownB A' c' = some g) := by
  subst hwW
  exact put_yes B A n c W L m cl l xs w hm hL hB hown hW hF (fun _ => hLA) hsz

theorem fit_one (width n : Int) : fitAll width [n] = ft n width := by simp [fitAll, ft]
theorem putB_one (W n : Nat) : putB W [(n : Int)] = be W n := by simp [putB]

set_option maxHeartbeats 400000 in
theorem text_no (A : Option Addr) (n c : Nat) (width : Int) (s : List UInt8) (w : World) (hno : (rt width && ft s.length width) = false) :
    Calls Try.prog 56 #[.slice A n c, .string (str s), .int .i64 width] w fun e w' => e = .returned (.tuple #[.slice A n c, .bool false]) ∧ Below w.heap.size w w' := by
  go_enter Try.func56, Try.ntmps56
  go_wp2_with fail
  refine (put_no A n c width _ 1 1 [(s.length : Int)] _ rfl (by omega) row_new (by rw [fit_one]; exact hno)).mono ?_
  rintro e w1 ⟨rfl, rfl⟩
  go_wp2_with fail
  go_ret2
  exact ⟨rfl, (Below.refl _ _).alloc (Nat.le_refl _) _⟩

set_option maxHeartbeats 1000000 in
theorem text_yes (B : Nat) (A : Option Addr) (n c : Nat) (width : Int) (s xs : List UInt8) (w : World) (hB : B ≤ w.heap.size) (hown : Own w B 5 1 A n c (bv xs)) (hW : rt width = true) (hF : ft s.length width = true)
    (hsz : n + width.toNat + s.length ≤ 140737488355328) :
    Calls Try.prog 56 #[.slice A n c, .string (str s), .int .i64 width] w fun e w' => ∃ A' c', e = .returned (.tuple #[.slice A' (n + width.toNat + s.length) c', .bool true]) ∧
      Own w' B 5 1 A' (n + width.toNat + s.length) c' (bv (xs ++ be width.toNat s.length ++ s)) ∧ Only w w' (fun k => ownB A c = some k) ∧ (ownB A' c' = ownB A c ∨ ∃ g, w.heap.size ≤ g ∧ ownB A' c' = some g) := by
  obtain ⟨i0, hi0, hz0, hz1, hz2⟩ := info_parts info_u8
  obtain ⟨W, rfl⟩ : ∃ W : Nat, width = W := Int.eq_ofNat_of_zero_le (by rcases rt_cases hW with rfl | rfl | rfl | rfl <;> decide)
  simp only [Int.toNat_natCast] at hsz ⊢
  go_enter Try.func56, Try.ntmps56
  go_wp2_with fail
  refine (put_yes_at B A n c W W rfl _ 1 1 [(s.length : Int)] xs _ rfl row_new (by simp; omega) (hown.alloc _) hW (by rw [fit_one]; exact hF) ?_ (by omega)).mono ?_
  · intro a ha
    injection ha with ha
    subst ha
    intro hk
    have := (hown.lt _ hk).2
    simp at this
  rintro e w1 ⟨A1, c1, rfl, hown1, hon1, hblk1⟩
  rw [putB_one, Nat.one_mul] at hown1
  rw [Nat.one_mul]
  have hsrc : Src Try.prog w1 9 (.string (str s)) 1 s.length (bv s) := Src.str_ s Try.underlying9
  have hs1 := hon1.size
  rw [World.size_alloc] at hs1
  go_wp2_with (at_builtin; refine wpList_app _ rfl _ _ 23 9 rfl B 5 i0 _ 1 1 Try.underlying23 hi0 hz0 hz1 hz2 rfl A1 (n + W) c1 _ rfl hown1 _ s.length (bv s) rfl hsrc (by simp only [maxLen]; omega) (by omega) (by omega) ?_; intro A3 c3 w3 hown3 hg3 hb3; rw [← bv_append] at hown3)
  go_ret2
  have hon1' : Only w w1 (fun k => ownB A c = some k) := (Only.refl _ _).alloc _ |>.trans hon1 (fun i _ h => h)
  refine ⟨A3, c3, rfl, hown3, hon1'.grown hg3 (fun k hk => ?_), ?_⟩
  · rcases hblk1 with h | ⟨g, hg, h⟩
    · exact .inl (by rw [← h]; exact hk)
    · refine .inr ?_
      rw [h] at hk
      injection hk with hk
      rw [World.size_alloc] at hg
      omega
  · rcases hb3 with h3 | h3
    · rw [h3]
      rcases hblk1 with h | ⟨g, hg, h⟩
      · exact .inl h
      · exact .inr ⟨g, by rw [World.size_alloc] at hg; omega, h⟩
    · exact .inr ⟨_, by omega, h3⟩

theorem below_only {B : Nat} {w w1 w2 : World} {g : Nat} (h : Below B w w1) (hB : B ≤ w.heap.size) (hg : B ≤ g) (hon : Only w1 w2 (· = g)) : Below B w w2 :=
  h.trans (hon.belowB (fun k hk => by rw [hk]; exact hg) (Nat.le_trans hB h.size))
end Go.Proofs.Ytbljacafmkdlmaa
