/- sum.Seal, sum.Open. Conditions: the bytes fit memory. -/
import Derived.Test.YtbljacafmkdlmaaSum
namespace Go.Proofs.Ytbljacafmkdlmaa
open Go.RowKit

theorem put_yes_at (B : Nat) (A : Option Addr) (n c : Nat) (W : Nat) (width : Int) (hwW : width = W) (L : Option Addr) (m cl : Nat) (l : List Int) (xs : List UInt8) (w : World) (hm : l.length = m) (hL : Row w L (iv l))
    (hB : B ≤ w.heap.size) (hown : Own w B 5 1 A n c (bv xs)) (hW : rt width = true) (hF : fitAll width l = true) (hLA : ∀ a, L = some a → ownB A c ≠ some a.block)
    (hsz : n + m * W ≤ 140737488355328) :
    Calls Try.prog 43 #[.slice A n c, .int .i64 width, .slice L m cl] w fun e w' => ∃ A' c', e = .returned (.tuple #[.slice A' (n + m * W) c', .bool true]) ∧
      Own w' B 5 1 A' (n + m * W) c' (bv (xs ++ putB W l)) ∧ Only w w' (fun k => ownB A c = some k) ∧ (ownB A' c' = ownB A c ∨ ∃ g, w.heap.size ≤ g ∧ ownB A' c' = some g) := by
  subst hwW
  exact put_yes B A n c W L m cl l xs w hm hL hB hown hW hF (fun _ => hLA) hsz

theorem adler_fit (l : List UInt8) : fitAll 4 [(adler l : Int)] = true := by
  have := adler_lt l
  simp only [fitAll, List.all_cons, List.all_nil, Bool.and_true, ft_four, Bool.and_eq_true, decide_eq_true_eq]
  omega

theorem row_new {w : World} {cs : Array Value} {e : TypeId} : Row (w.alloc (.cells cs e)) (some ⟨w.heap.size, 0, none⟩) cs.toList :=
  .inr ⟨_, 0, rfl, fun j u hu => by rw [World.cell?_alloc_new]; simpa using hu⟩

set_option maxHeartbeats 1000000 in
theorem seal_any (A : Option Addr) (n c : Nat) (l : List UInt8) (w : World) (hn : l.length = n) (hr : Row w A (bv l)) (hsz : n ≤ 140737488355300) :
    Calls Try.prog 45 #[.slice A n c] w fun e w' => ∃ A' c', e = .returned (.slice A' (n + 4) c') ∧ Own w' w.heap.size 5 1 A' (n + 4) c' (bv (sealed l)) ∧ Below w.heap.size w w' := by
  have HN := Lib.hid hn
  clear hn
  go_enter Try.func45, Try.ntmps45
  go_wp2_with (go_at_call 76; refine (cloneB_any A n c l _ HN.out hr (by omega)).mono ?_; rintro e w1 ⟨A1, c1, rfl, hown1, hb1⟩)
  have hrow : Row (w1.alloc (.cells #[.slice A n c] 23)) (some ⟨w1.heap.size, 0, none⟩) (pv [⟨A, c, l⟩]) := by
    have e : pv [⟨A, c, l⟩] = (#[.slice A n c] : Array Value).toList := by simp [pv, Piece.val, HN.out]
    rw [e]
    exact row_new
  have hb2 : Below w.heap.size w (w1.alloc (.cells #[.slice A n c] 23)) := hb1.alloc hb1.size _
  have hps : Pieces (w1.alloc (.cells #[.slice A n c] 23)) [⟨A, c, l⟩] := by
    intro p hp
    rw [List.mem_singleton] at hp
    subst hp
    exact hr.below hb2
  refine (of_any _ 1 1 [⟨A, c, l⟩] _ rfl hrow hps (by omega) (by intro p hp; rw [List.mem_singleton] at hp; subst hp; show l.length ≤ _; rw [HN.out]; omega)).mono ?_
  rintro e w2 ⟨rfl, hb3⟩
  have hal : ([⟨A, c, l⟩] : List Piece).flatMap Piece.l = l := by simp
  rw [hal]
  have hb23 : Below w1.heap.size w1 w2 := ((Below.refl _ _).alloc (Nat.le_refl _) _).trans (hb3.mono (by simp))
  have hown2 := hown1.below hb23
  have hb4 : Below w.heap.size w w2 := hb1.trans (hb23.mono hb1.size)
  have HAD := Lib.hid (adler_fit l)
  clear hal hrow hps hb3
  go_wp2_with fail
  refine (put_yes_at w.heap.size A1 n c1 4 4 rfl _ 1 1 [(adler l : Int)] l _ rfl row_new (by have := hb4.size; simp; omega) (hown2.alloc _) rfl HAD.out ?_ (by omega)).mono ?_
  · intro a ha
    injection ha with ha
    subst ha
    intro hk
    have := (hown2.lt _ hk).2
    simp at this
  rintro e w3 ⟨A3, c3, rfl, hown3, honly, hblk⟩
  go_wp2_with fail
  go_ret
  refine ⟨A3, c3, rfl, ?_, ?_⟩
  · have e : putB 4 [(adler l : Int)] = be 4 (adler l) := by simp [putB]
    rw [e] at hown3
    exact hown3
  · refine (Only.belowB (B := w.heap.size) (F := (w.heap.size ≤ ·)) ?_ (fun k hk => hk) (Nat.le_refl _))
    refine (Only.of_belowB (hb4.alloc hb4.size _)).trans honly (fun i hi hk => ?_)
    exact (hown2.lt _ hk).1

set_option maxHeartbeats 1000000 in
theorem open_short (A : Option Addr) (n c : Nat) (w : World) (hsz : n < 4) :
    Calls Try.prog 86 #[.slice A n c] w fun e w' => e = .returned (.tuple #[.slice none 0 0, .bool false]) ∧ w = w' := by
  go_enter Try.func86, Try.ntmps86
  go_wp2_with fail
  go_ret2
  exact ⟨rfl, rfl⟩

set_option maxHeartbeats 1000000 in
theorem open_no (A : Option Addr) (n c : Nat) (l : List UInt8) (w : World) (hn : l.length = n) (hnc : n ≤ c) (hr : Row w A (bv l)) (h4 : 4 ≤ n) (hsz : n ≤ 140737488355300) (hno : opened l = none) :
    Calls Try.prog 86 #[.slice A n c] w fun e w' => e = .returned (.tuple #[.slice none 0 0, .bool false]) ∧ Below w.heap.size w w' := by
  have hne : decide (sealed (l.take (n - 4)) = l) = false := by
    rw [decide_eq_false_iff_not]
    intro h
    unfold opened at hno
    rw [hn, if_pos ⟨h4, h⟩] at hno
    cases hno
  have HNE := Lib.hid hne
  have HN := Lib.hid hn
  clear hne hn hno
  go_enter Try.func86, Try.ntmps86
  have hlt : (l.take (n - 4)).length = n - 4 := by rw [List.length_take, HN.out]; omega
  have hrt : Row w A (bv (l.take (n - 4))) := by rw [← bv_take]; exact hr.take _
  have HLT := Lib.hid hlt
  clear hlt
  go_wp2_with fail
  refine (seal_any A (n - 4) c (l.take (n - 4)) w HLT.out hrt (by omega)).mono ?_
  rintro e w1 ⟨A1, c1, rfl, hown1, hb1⟩
  go_wp2_with fail
  refine (equalB_any A1 A n c1 n c (sealed (l.take (n - 4))) l w1 (by rw [sealed_length, HLT.out]; omega) hown1.row HN.out (hr.below hb1) (by omega) (by omega)).mono ?_
  rintro e w2 ⟨rfl, d, rfl⟩
  rw [HNE.out]
  go_wp2_with fail
  go_ret2
  exact ⟨rfl, below_drewN hb1 d⟩

set_option maxHeartbeats 1000000 in
theorem open_yes (A : Option Addr) (n c : Nat) (l m : List UInt8) (w : World) (hn : l.length = n) (hnc : n ≤ c) (hr : Row w A (bv l)) (hsz : n ≤ 140737488355300) (hyes : opened l = some m) :
    Calls Try.prog 86 #[.slice A n c] w fun e w' => ∃ A' c', e = .returned (.tuple #[.slice A' (n - 4) c', .bool true]) ∧ m.length = n - 4 ∧ 4 ≤ n ∧ Own w' w.heap.size 5 1 A' (n - 4) c' (bv m) ∧ Below w.heap.size w w' := by
  have hs := opened_some hyes
  have h4 : 4 ≤ n := by rw [← hn, ← hs, sealed_length]; omega
  have hml : m.length = n - 4 := by rw [← hn, ← hs, sealed_length]; omega
  have hmt : m = l.take (n - 4) := by rw [← hs, ← hml]; simp [sealed]
  have HS := Lib.hid hs
  have HN := Lib.hid hn
  have HML := Lib.hid hml
  have hrt : Row w A (bv m) := by rw [hmt, ← bv_take]; exact hr.take _
  clear hs hn hyes hml hmt
  go_enter Try.func86, Try.ntmps86
  go_wp2_with fail
  refine (seal_any A (n - 4) c m w HML.out hrt (by omega)).mono ?_
  rintro e w1 ⟨A1, c1, rfl, hown1, hb1⟩
  go_wp2_with fail
  refine (equalB_any A1 A n c1 n c (sealed m) l w1 (by rw [sealed_length, HML.out]; omega) hown1.row HN.out (hr.below hb1) (by omega) (by omega)).mono ?_
  rintro e w2 ⟨rfl, d, rfl⟩
  rw [decide_eq_true HS.out]
  go_wp2_with fail
  refine (cloneB_any A (n - 4) c m (w1.drewN d) HML.out ((hrt.below hb1).drewN d) (by omega)).mono ?_
  rintro e w3 ⟨A3, c3, rfl, hown3, hb3⟩
  go_wp2_with fail
  go_ret2
  exact ⟨A3, c3, rfl, HML.out, h4, hown3.less hb1.size, below_all (below_drewN hb1 d) hb3⟩
end Go.Proofs.Ytbljacafmkdlmaa
