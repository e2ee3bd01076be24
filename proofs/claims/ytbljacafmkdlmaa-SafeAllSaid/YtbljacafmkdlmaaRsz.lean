/- pentimentoref03.Resize. Conditions: the lengths fit memory. -/
import Derived.Test.YtbljacafmkdlmaaRsc
namespace Go.Proofs.Ytbljacafmkdlmaa
set_option maxRecDepth 100000
open Go.RowKit
set_option linter.unusedSimpArgs false

def rsA (l : List Wrt) (x : Int) (i : Nat) : List Wrt := (l.take i).filter fun w => decide (w.1 < x)
theorem rsA_all (l : List Wrt) (x : Int) : rsA l x l.length = l.filter fun w => decide (w.1 < x) := by unfold rsA; rw [List.take_of_length_le (Nat.le_refl _)]
theorem rsA_step (l : List Wrt) (x : Int) (i : Nat) (hi : i < l.length) : rsA l x (i + 1) = rsA l x i ++ if l[i].1 < x then [l[i]] else [] := by
  unfold rsA
  rw [List.take_succ_eq_append_getElem hi, List.filter_append]
  by_cases h : l[i].1 < x <;> simp [h]
theorem rsA_len (l : List Wrt) (x : Int) (i : Nat) : (rsA l x i).length ≤ i := by
  have h1 := List.length_filter_le (fun w : Wrt => decide (w.1 < x)) (l.take i)
  have h2 : (l.take i).length ≤ i := by rw [List.length_take]; omega
  exact Nat.le_trans h1 h2

/-- What a call gives: a store of these writes, and an error. -/
def RzPost (w : World) (A : Option Addr) (l : List Wrt) (room : Int) (s' : St) (err : Int) (e : Ending) (w' : World) : Prop :=
  ∃ A' m' c', e = .returned (.tuple #[.agg #[.int .i64 s'.n, .int .i64 room, .slice A' m' c', .int .i64 s'.k], .int .i64 err]) ∧ s'.l.length = m' ∧ RNew w w' A l A' s'.l ∧ Below w.heap.size w w'

set_option maxHeartbeats 4000000 in
theorem rResize_any (n room : Int) (A : Option Addr) (m c k : Nat) (l : List Wrt) (x : Int) (w : World) (hm : l.length = m) (hr : Row w A (rcells l)) (hsz : m ≤ 5000000000000) :
    Calls Try.prog 51 #[.agg #[.int .i64 n, .int .i64 room, .slice A m c, .int .i64 k], .int .i64 x] w
      (RzPost w A l room (doZ ⟨n, room, l, k⟩ x).1 (doZ ⟨n, room, l, k⟩ x).2) := by
  obtain ⟨i1, hi1, hy0, hy1, hy2⟩ := info_parts info_rw
  have hGr := Blk.new (w.alloc (.cells #[.int .i64 n, .int .i64 room, .slice A m c, .int .i64 k] 27)) 27 #[.int .i64 n, .int .i64 room, .slice A m c, .int .i64 k]
  rw [World.size_alloc] at hGr
  have hb2r : Below w.heap.size w ((w.alloc (.cells #[.int .i64 n, .int .i64 room, .slice A m c, .int .i64 k] 27)).alloc (.cells #[.int .i64 n, .int .i64 room, .slice A m c, .int .i64 k] 27)) := ((Below.refl _ _).alloc (Nat.le_refl _) _).alloc (by simp) _
  have HR := Lib.hid (fun w' (hb : Below w.heap.size w w') => RNew.same hr hb)
  have HM := Lib.hid hm
  by_cases hlo : x < 0
  · have ed : doZ ⟨n, room, l, k⟩ x = (⟨n, room, l, k⟩, 1) := by unfold doZ; rw [if_pos (.inl hlo)]
    have ED := Lib.hid ed
    clear ed hm hr
    go_enter Try.func51, Try.ntmps51
    go_wp2_with fail
    refine bodyPost_ret (sresults_row_tmp rfl _ _ _ 27 _ (0, 0) _ rfl hGr Try.underlying27 rfl (rst_info _ _ _ _)) rfl ?_
    rw [ED.out]
    exact ⟨A, m, c, rfl, HM.out, HR.out _ hb2r, hb2r⟩
  by_cases hhi : 4096 < x
  · have ed : doZ ⟨n, room, l, k⟩ x = (⟨n, room, l, k⟩, 1) := by unfold doZ; rw [if_pos (.inr hhi)]
    have ED := Lib.hid ed
    clear ed hm hr
    go_enter Try.func51, Try.ntmps51
    go_wp2_with fail
    refine bodyPost_ret (sresults_row_tmp rfl _ _ _ 27 _ (0, 0) _ rfl hGr Try.underlying27 rfl (rst_info _ _ _ _)) rfl ?_
    rw [ED.out]
    exact ⟨A, m, c, rfl, HM.out, HR.out _ hb2r, hb2r⟩
  have ed : doZ ⟨n, room, l, k⟩ x = (⟨x, room, rsA l x m, (rsA l x m).length⟩, 0) := by
    unfold doZ
    rw [if_neg (by omega), ← hm, rsA_all]
    rfl
  have ED := Lib.hid ed
  have hb2 : Below w.heap.size w ((w.alloc (.cells #[.int .i64 n, .int .i64 room, .slice A m c, .int .i64 k] 27)).alloc (.cells #[.int .i64 0, .int .i64 0, .slice none 0 0, .int .i64 0] 27)) := ((Below.refl _ _).alloc (Nat.le_refl _) _).alloc (by simp) _
  have hG3 := (Blk.new w 27 #[.int .i64 n, .int .i64 room, .slice A m c, .int .i64 k]).alloc (.cells #[.int .i64 0, .int .i64 0, .slice none 0 0, .int .i64 0] 27)
  have hG6 := Blk.new (w.alloc (.cells #[.int .i64 n, .int .i64 room, .slice A m c, .int .i64 k] 27)) 27 #[.int .i64 0, .int .i64 0, .slice none 0 0, .int .i64 0]
  rw [World.size_alloc] at hG6
  have hrl := (hr.alloc (.cells #[.int .i64 n, .int .i64 room, .slice A m c, .int .i64 k] 27)).alloc (.cells #[.int .i64 0, .int .i64 0, .slice none 0 0, .int .i64 0] 27)
  have hrA := Lib.hid (fun hx a ha => hr.lt (xs := rcells l) hx a ha)
  obtain ⟨w2, hw2⟩ : ∃ w2, w2 = (w.alloc (.cells #[.int .i64 n, .int .i64 room, .slice A m c, .int .i64 k] 27)).alloc (.cells #[.int .i64 0, .int .i64 0, .slice none 0 0, .int .i64 0] 27) := ⟨_, rfl⟩
  have hw2s : w2.heap.size = w.heap.size + 2 := by rw [hw2]; simp
  rw [← hw2] at hb2 hG3 hG6 hrl
  have HW2 := Lib.hid hw2
  clear hw2 hm hr ed hGr hb2r HR
  go_enter Try.func51, Try.ntmps51
  go_wp2_with fail
  rw [← HW2.out]
  go_loopw [6, 7] (fun v i wr => ∃ (j : Nat) (A' : Option Addr) (c' : Nat), j ≤ m ∧ i = .int .i64 j ∧ v = .slice A' (rsA l x j).length c' ∧ Own wr (w.heap.size + 2) 139 2 A' (rsA l x j).length c' (rcells (rsA l x j)) ∧ Below (w.heap.size + 2) w2 wr)
    (fun _ i _ => m - (intOf i).toNat)
  case atStart => exact ⟨0, none, 0, Nat.zero_le _, rfl, rfl, Own.nil _ _ _ _ _, Below.refl _ _⟩
  case round =>
    obtain ⟨j, A', c', hj, rfl, rfl, hown, hbr⟩ := hrel
    have hG3r := hG3.below hbr (by omega)
    have hrlr := hrl.belowB hbr (fun hx a ha => by have := hrA.out hx a ha; omega)
    have hsr := hbr.size
    obtain ⟨⟨c0, c1, c2, c3⟩, _⟩ := hG3r.four
    have hlen := rsA_len l x j
    by_cases hlt : j < m
    · have hjl : j < l.length := by rw [HM.out]; exact hlt
      have hstep := rsA_step l x j hjl
      obtain ⟨gL, oL, rfl, hgL, hy0c, hy1c⟩ := hrlr.rcell hjl
      obtain ⟨⟨ya, yx⟩, hye⟩ : ∃ y, y = l[j] := ⟨_, rfl⟩
      rw [← hye] at hstep hy0c hy1c
      simp only at hy0c hy1c hstep
      obtain ⟨X, hX⟩ : ∃ X, X = rsA l x j := ⟨_, rfl⟩
      obtain ⟨p, hp⟩ : ∃ p, p = X.length := ⟨_, rfl⟩
      rw [← hX] at hstep hown hlen ⊢
      rw [← hp] at hown hlen ⊢
      have HP := Lib.hid hp
      have hsrcC : Src Try.prog (wr.alloc (.cells #[.int .i64 ya, .string (str yx)] 139)) 25 (.slice (some ⟨wr.heap.size, 0, none⟩) 1 1) 2 1 [.int .i64 ya, .string (str yx)] := Src.new Try.underlying25 rfl (by simp [Value.oneCell'])
      by_cases hyx : ya < x
      · rw [if_pos hyx] at hstep
        have HS := Lib.hid hstep
        clear hX hp hye hstep
        go_wp2_with (at_builtin; refine wpList_app _ rfl _ _ 25 25 rfl (w.heap.size + 2) 139 i1 _ 2 24 Try.underlying25 hi1 hy0 hy1 hy2 rfl A' p c' _ rfl (hown.alloc _) _ 1 _ rfl hsrcC (by simp only [maxLen]; omega) (by omega) (by simp; omega) ?_; intro A6 c6 w6 hown6 hg6 hb6)
        go_roundw
        case rel =>
          have hl1 : (rsA l x (j + 1)).length = p + 1 := by rw [HS.out, List.length_append, ← HP.out]; rfl
          exact ⟨j + 1, A6, c6, by omega, by go_num, by rw [hl1], by rw [hl1, HS.out, rcells_snoc]; exact hown6, (hbr.alloc (by omega) _).grown hg6 (by simp; omega) (fun i hi => (hown.lt i hi).1)⟩
        case measure => simp [intOf]; omega
      · rw [if_neg hyx, List.append_nil] at hstep
        have HS := Lib.hid hstep
        clear hX hp hye hstep
        go_wp2_with fail
        go_roundw
        case rel => exact ⟨j + 1, A', c', by omega, by go_num, by rw [HS.out, ← HP.out], by rw [HS.out, ← HP.out]; exact hown, hbr⟩
        case measure => simp [intOf]; omega
    · obtain rfl : j = m := by omega
      have hG6r := hG6.below hbr (by omega)
      obtain ⟨X, hX⟩ : ∃ X, X = rsA l x j := ⟨_, rfl⟩
      obtain ⟨p, hp⟩ : ∃ p, p = X.length := ⟨_, rfl⟩
      rw [← hX] at hown hlen ⊢
      rw [← hp] at hown hlen ⊢
      have hed : doZ ⟨n, room, l, k⟩ x = (⟨x, room, X, p⟩, 0) := by rw [hp, hX]; exact ED.out
      have HED := Lib.hid hed
      have hn6 := hown.blk_ne hG6r (by decide)
      have hownF := (((hown.setCell (p := ⟨w.heap.size + 1, 0, none⟩) hn6 (.int .i64 x)).setCell (p := ⟨w.heap.size + 1, 1, none⟩) hn6 (.int .i64 room)).setCell (p := ⟨w.heap.size + 1, 2, none⟩) hn6 (.slice A' p c')).setCell (p := ⟨w.heap.size + 1, 3, none⟩) hn6 (.int .i64 p)
      have hb0r : Below w.heap.size w wr := hb2.trans (hbr.mono (by omega))
      have hbF := (((hb0r.setCell (p := ⟨w.heap.size + 1, 0, none⟩) (by simp) (.int .i64 x)).setCell (p := ⟨w.heap.size + 1, 1, none⟩) (by simp) (.int .i64 room)).setCell (p := ⟨w.heap.size + 1, 2, none⟩) (by simp) (.slice A' p c')).setCell (p := ⟨w.heap.size + 1, 3, none⟩) (by simp) (.int .i64 p)
      obtain ⟨⟨d0, d1, d2, d3⟩, e0, e1, e2, e3⟩ := hG6r.four
      have hlX : X.length = p := hp.symm
      clear hX hp hed hn6
      go_wp2_with fail
      refine bodyPost_ret (sresults_row_tmp rfl _ _ _ 27 _ (0, 0) _ rfl (show Blk _ _ _ #[.int .i64 x, .int .i64 room, .slice A' p c', .int .i64 p] from ((((hG6r).set_ 0 _).set_ 1 _).set_ 2 _).set_ 3 _) Try.underlying27 rfl (rst_info _ _ _ _)) rfl ?_
      rw [HED.out]
      exact ⟨A', p, c', rfl, hlX, RNew.own hownF (by omega), hbF⟩
end Go.Proofs.Ytbljacafmkdlmaa
