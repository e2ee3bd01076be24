/- counts: Grow, Copy: what they answer and write. Conditions: the counts may be. -/
import Derived.Test.YtjkklndpfmemhaaCntN
import Derived.Deep.RegionLaw
import Derived.Lib.SliceRun
namespace Go.Proofs.Ytjkklndpfmemhaa
open Go.RowKit

theorem own_len {w : World} {B : Nat} {e : TypeId} {A : Option Addr} {c : Nat} {l : List Int} (h : Own w B e 1 A l.length c (iv l)) : (iv l).length = l.length * 1 := h.1

set_option maxHeartbeats 1000000 in
theorem clone_any {w : World} (A : Option Addr) (n c : Nat) (l : List Int) (hn : l.length = n) (hr : Row w A (iv l)) (hsz : n ≤ 17592186044416) :
    Calls Try.prog 36 #[.slice A n c] w fun e w' => ∃ A' c', e = .returned (.slice A' n c') ∧ Own w' w.heap.size 3 1 A' n c' (iv l) ∧ Below w.heap.size w w' := by
  obtain ⟨i0, hi0, hz0, hz1, hz2⟩ := info_parts info_int
  have HN := Lib.hid hn
  clear hn
  have hnil := fun (a : Option Addr) (w : World) => Lib.run_eql_slice_nil (P := Try.prog) w 22 3 a n c 0 0 Try.underlying22
  cases A with
  | none =>
    have hl : l = [] := by
      rcases hr with h | ⟨_, _, h, _⟩
      · simpa [iv] using h
      · cases h
    subst hl
    obtain rfl : 0 = n := HN.out
    go_enter Try.func36, Try.ntmps36
    go_wp2_with fail
    go_ret
    exact ⟨none, 0, rfl, Own.nil _ _ _ _ _, Below.refl _ _⟩
  | some a =>
    have hsr1 : Src Try.prog (w.alloc (.cells #[] 3)) 22 (.slice (some a) n c) 1 n (iv l) := Src.slice Try.underlying22 (hr.alloc _) (by rw [iv_length, HN.out, Nat.mul_one]) (iv_one l)
    go_enter Try.func36, Try.ntmps36
    go_wp2_with (at_builtin; refine wpList_app _ rfl _ _ 22 22 rfl w.heap.size 3 i0 _ 1 8 Try.underlying22 hi0 hz0 hz1 hz2 rfl _ 0 0 [] rfl (Own.nil _ _ _ _ _) _ n (iv l) rfl hsr1 (by simp only [maxLen]; omega) (by omega) (by simp) ?_; intro A5 c5 w5 hown5 hg5 hb5; rw [Nat.zero_add, List.nil_append] at hown5; rw [Nat.zero_add])
    go_ret
    exact ⟨_, _, rfl, hown5, ((Below.refl _ _).alloc (Nat.le_refl _) _).grown hg5 (by simp) (fun i hi => by simp [ownB] at hi)⟩

theorem copy_any {w : World} {B g c : Nat} {A : Option Addr} {l : List Int} (hc : Cnt w B g A c l) (hg : Good l) :
    Calls Try.prog 25 #[.pointer (some ⟨g, 0, none⟩)] w fun e w' => ∃ g' A' c', e = .returned (.pointer (some ⟨g', 0, none⟩)) ∧ Cnt w' w.heap.size g' A' c' l ∧ Below w.heap.size w w' := by
  have hh := hc.head
  have hlong := hg.long
  go_enter Try.func25, Try.ntmps25
  go_wp2_with fail
  refine (clone_any A l.length c l rfl hc.own.row (by omega)).mono ?_
  rintro e w1 ⟨A1, c1, rfl, hown1, hb1⟩
  go_wp2_with fail
  go_ret
  exact ⟨_, _, _, rfl, ⟨Blk.new _ _ _, hown1.alloc _, hb1.size⟩, hb1.alloc hb1.size _⟩

set_option maxHeartbeats 4000000 in
theorem grow_any {w : World} {B g c : Nat} {A : Option Addr} {l : List Int} (hc : Cnt w B g A c l) (hg : Good l) (n : Int) :
    Calls Try.prog 24 #[.pointer (some ⟨g, 0, none⟩), .int .i64 n] w fun e w' => e = .returned (.int .i64 (growF l n).2) ∧ ∃ A' c', Cnt w' B g A' c' (growF l n).1 ∧ Turned w w' g A c A' c' := by
  have hh := hc.head
  have hlong := hg.long
  obtain ⟨i0, hi0, hz0, hz1, hz2⟩ := info_parts info_int
  by_cases h0 : n < (l.length : Int)
  · have hgr : growF l n = (l, 1) := by unfold growF; rw [if_pos (.inl h0)]
    rw [hgr]
    clear hgr
    go_enter Try.func24, Try.ntmps24
    go_wp2_with fail
    go_ret
    exact ⟨rfl, A, c, hc, Turned.refl _ _ _ _⟩
  by_cases h1 : 512 < n
  · have hgr : growF l n = (l, 1) := by unfold growF; rw [if_pos (.inr h1)]
    rw [hgr]
    clear hgr
    go_enter Try.func24, Try.ntmps24
    go_wp2_with fail
    go_ret
    exact ⟨rfl, A, c, hc, Turned.refl _ _ _ _⟩
  obtain ⟨j, rfl⟩ : ∃ j : Nat, n = ((l.length + j : Nat) : Int) := ⟨(n - l.length).toNat, by omega⟩
  have hgr : growF l ((l.length + j : Nat) : Int) = (l ++ List.replicate j 0, 0) := by
    unfold growF
    rw [if_neg (by omega), Int.toNat_natCast, Nat.add_sub_cancel_left]
  rw [hgr]
  clear hgr
  obtain ⟨m, hm⟩ : ∃ m, m = l.length + j := ⟨_, rfl⟩
  rw [← hm] at h0 h1 ⊢
  obtain ⟨k, hk⟩ : ∃ k, k = l.length := ⟨_, rfl⟩
  have hown := hc.own
  rw [← hk] at hh h0 hm hlong hown
  have HK := Lib.hid hk
  clear hk
  have hfro := hc.blk.frozen 0
  go_enter Try.func24, Try.ntmps24
  go_wp2_with fail
  go_region_law (refine step_app0 _ rfl (.tmp 20) (.tmp 27) 22 3 rfl B 3 .i64 i0 _ (.int .i64 0) 8 Try.underlying22 Try.underlying3 hi0 hz0 hz1 hz2 rfl rfl A k c _ rfl hown.drew j (by simp only [Act.eval, Act.put]; simp; rw [IntKind.wrap_i64]; omega) (by simp only [maxLen]; omega) (by omega) hc.size ?_; intro A3 c3 w3 hown3 hg3 hb3; have hB3 := hc.blk.drew.grown hg3 (fun e => hc.apart _ e rfl); have hcell3 := hB3.cell 0; have hfro3 := hB3.frozen 0)
  all_goals
    go_wp2_with fail
    go_ret
    have hl : (l ++ List.replicate j (0 : Int)).length = k + j := by rw [List.length_append, List.length_replicate, HK.out]
    have hown4 := hown3.setCell (p := ⟨g, 0, none⟩) (fun i hi => by
      rcases hb3 with h | h
      · rw [h] at hi
        exact hc.apart i hi
      · rw [h] at hi
        injection hi with hi
        have := hc.blk.lt
        rw [← hi]
        show w.heap.size ≠ g
        omega) (.slice A3 (k + j) c3)
    refine ⟨rfl, A3, c3, ⟨?_, ?_, hc.low⟩, ⟨((Only.refl _ _).drew.grown hg3 (fun i hi => .inl (.inr hi))).setCell (.inl (.inl rfl)) _, ?_⟩⟩
    · rw [hl]
      exact hB3.set_ 0 _
    · rw [hl, iv_append, iv_zeros]
      exact hown4
    · rintro i (rfl | hi)
      · exact .inl (.inl rfl)
      · rcases hb3 with h | h
        · exact .inl (.inr (h ▸ hi))
        · rw [h] at hi
          injection hi with hi
          exact .inr (Nat.le_of_eq hi)
end Go.Proofs.Ytjkklndpfmemhaa
