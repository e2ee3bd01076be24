/- maps.DeleteFunc at a store's maps; store.Resize. No condition. -/
import Derived.Test.YtgblekjkphnjfaaStC
import Derived.Maps.RangeWalk
import Derived.Laws.IdiomRangeMap
import Derived.Deep.LoopGhost
namespace Go.Proofs.Ytgblekjkphnjfaa
open Go.RowKit Go.Maps
set_option linter.unusedSimpArgs false

set_option maxHeartbeats 400000 in
theorem gone_any (a n : Int) (cs : Array Value) (g : Nat) (w : World) (hg : w.cell? ⟨g, 0, none⟩ = some (.int .i64 n)) :
    Calls Try.prog 34 #[.int .i64 a, .agg cs, .pointer (some ⟨g, 0, none⟩)] w fun e w' => e = .returned (.bool (decide (n ≤ a))) ∧ Below w.heap.size w w' := by
  have hb : ∀ o, Below w.heap.size w (w.alloc o) := fun o => (Below.refl _ _).alloc (Nat.le_refl _) o
  have hlt := World.block_lt_of_cell? w _ hg
  by_cases h : n ≤ a
  all_goals
    go_enter Try.func34, Try.ntmps34
    go_wp2_with fail
    go_ret
    exact ⟨ret_bool (by simp [h]), hb _⟩

theorem key_inv {v : Value} {kl : Lit} (h : keyOf Try.prog 3 v = some kl) : ∃ a : Int, v = .int .i64 a ∧ kl = keyL a := by
  obtain ⟨a, h1, h2⟩ := Maps.keyOf_int_inv Try.underlying3 h
  exact ⟨a, h1, h2.1⟩
set_option maxHeartbeats 4000000 in
set_option maxRecDepth 100000 in
theorem deleteFunc_any (lim : Int) (gk : Nat) (b n : Nat) (D : DataW Unit) (w : World) (hci : CI D) (hown : w.ownsMap Try.prog 3 secR b n D) (hk : Blk w gk 3 #[.int .i64 lim]) :
    Calls Try.prog 33 #[.map (some b), .func (.func 34) #[] #[.pointer (some ⟨gk, 0, none⟩)]] w fun e w' =>
      e = .returned (.tuple #[]) ∧ w'.ownsMap Try.prog 3 secR b n (Lib.deleteFuncD (pdn lim) D) ∧ w.grownBy w' (some b) := by
  obtain ⟨es0, rfl, hap, hkeys⟩ := hown.entries lawI
  have hkb : gk ≠ b := by
    rintro rfl
    obtain ⟨es, clock, h1, _⟩ := hown
    unfold Blk at hk
    rw [h1] at hk
    cases hk
  go_enter Try.func33, Try.ntmps33
  go_wp2_with (first
    | (at_range; refine wpList_range_own _ rfl _ 58 rfl 3 61 lawI Try.underlying58 secR b n _ rfl hown ?_; intro w0 hrg0 hg0 hs0)
    | go_in)
  go_frame
  go_loopw [8] (fun _ wr => ∃ (left : Lit → Bool) (cnt : Nat), wr.ranges Try.prog 3 secR b w.heap.size n (Fk (pdn lim) es0 left) left cnt ∧ w.grownBy wr (some b))
    (fun _ wr => wr.rangeLeft b w.heap.size)
  case atStart => exact ⟨_, _, by rw [Fk_start hkeys]; exact hrg0, hg0.but _⟩
  case round =>
    obtain ⟨left, cnt, hrg, hgw⟩ := hrel
    go_wp2_with (first
      | (at_next; refine wpList_next_ranges _ rfl _ rfl 3 lawI secR id id (fun key _ _ => ⟨key, rfl⟩) (fun v _ _ => ⟨v, rfl⟩) b w.heap.size n _ _ _ rfl hrg ?_ ?_)
      | go_in)
    · intro _ hl0
      go_wp2
      go_end0
      exact ⟨rfl, by rw [← Fk_end hl0]; exact hrg.owns, hgw⟩
    · intro x c kl yd yp w1 cnt1 hkey hlx hv hat hrg1 hlt hg1 hs1 hen
      obtain ⟨y, hy16, rfl, hyz⟩ := secR_inv hv
      have hgw1 := hgw.andThen hg1 (fun j hj => by cases hj; exact Or.inl (Nat.le_refl _))
      have hk1 := hk.grown hgw1 (fun e => hkb (by injection e with e; exact e.symm))
      obtain ⟨ka, rfl, rfl⟩ := key_inv hkey
      have hyd : yd = elD y := congrArg Prod.fst hyz
      subst hyd
      have hyv : (bv y).length = 16 := by rw [bv_length, hy16]
      have hst := fun (u : World) => store16 u y hy16
      have hk2 := hk1.alloc (.cells (bv y).toArray 61)
      have hc := fun cs => gone_any ka lim cs gk _ (hk2.cell 0)
      have hpd : pdn lim (keyL ka) (elD y) = decide (lim ≤ ka) := rfl
      have hbl := hrg1.owns.lt
      have hrl := hrg1.lt
      have hB1 : Below w1.heap.size w1 (w1.alloc (.cells (bv y).toArray 61)) := (Below.refl _ _).alloc (Nat.le_refl _) _
      clear hs1
      cases hp : decide (lim ≤ ka)
      · simp only [hp] at hc
        rw [hp] at hpd
        have HPD := Lib.hid hpd
        clear hp hpd hyz
        go_wp2_with fail
        refine (hc _).mono ?_
        rintro e w2 ⟨rfl, hB2⟩
        have hB := below_all hB1 hB2
        have hg2 : w1.grownBy w2 none := ⟨hB.os, hB.tape, hB.output, hB.size, fun k hk _ => hB.block k hk⟩
        have hrg2 := hrg1.kept hg2 (by simp) (by simp)
        go_wp2_with fail
        go_roundw
        case rel => exact ⟨_, cnt1, by rw [← Fk_stays hap (lawI.key hkey) hlx HPD.out hat]; exact hrg2, hgw1.andThen hg2 (fun j hj => by cases hj)⟩
        case measure => rw [hrg2.left_eq, hrg.left_eq]; exact hlt
      · simp only [hp] at hc
        rw [hp] at hpd
        have HPD := Lib.hid hpd
        clear hp hpd hyz
        go_wp2_with fail
        refine (hc _).mono ?_
        rintro e w2 ⟨rfl, hB2⟩
        have hB := below_all hB1 hB2
        have hg2 : w1.grownBy w2 none := ⟨hB.os, hB.tape, hB.output, hB.size, fun k hk _ => hB.block k hk⟩
        have hrg2 := hrg1.kept hg2 (by simp) (by simp)
        go_wp2_with (first
          | (at_delete; refine wpList_delete_ranges _ rfl _ _ 58 3 rfl 61 lawI Try.underlying58 secR b w.heap.size n _ _ _ rfl hrg2 _ _ rfl hkey ?_; intro w3 cnt3 hrg3 hle hturn; go_frame)
          | go_in)
        rw [strike_twice] at hrg3
        go_roundw
        case rel => exact ⟨_, cnt3, by rw [← Fk_struck hap (lawI.key hkey) hlx HPD.out hat]; exact hrg3, (hgw1.andThen hg2 (fun j hj => by cases hj)).andThen hturn.grown (fun j hj => by cases hj; exact Or.inr rfl)⟩
        case measure => rw [hrg3.left_eq, hrg.left_eq]; omega
end Go.Proofs.Ytgblekjkphnjfaa
