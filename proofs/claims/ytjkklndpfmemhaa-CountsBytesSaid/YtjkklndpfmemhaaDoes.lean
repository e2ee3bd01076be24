/- counts: Encode; pentimentolaw07: does, plain, alive. Conditions: the counts may be. -/
import Derived.Test.YtjkklndpfmemhaaCntG
import Derived.Test.YtjkklndpfmemhaaRef07
namespace Go.Proofs.Ytjkklndpfmemhaa
open Go.RowKit

/-- Counts as bytes. -/
def encF (l : List Int) : List UInt8 := be 2 l.length ++ putB 2 l
theorem encF_length (l : List Int) : (encF l).length = 2 + 2 * l.length := by unfold encF; rw [List.length_append, be_length, putB_length]; omega
theorem putB_one (W n : Nat) : putB W [(n : Int)] = be W n := by simp [putB]
theorem Good.fit {l : List Int} (h : Good l) : fitAll 2 l = true := by
  unfold fitAll
  rw [List.all_eq_true]
  intro x hx
  have := h.each x hx
  rw [ft_two]
  simp
  omega

set_option maxHeartbeats 1000000 in
theorem encode_any {w : World} {B g c : Nat} {A : Option Addr} {l : List Int} (hc : Cnt w B g A c l) (hg : Good l) :
    Calls Try.prog 28 #[.pointer (some ⟨g, 0, none⟩)] w fun e w' => ∃ A' c', e = .returned (.slice A' (2 + 2 * l.length) c') ∧ Own w' w.heap.size 5 1 A' (2 + 2 * l.length) c' (bv (encF l)) ∧ Below w.heap.size w w' := by
  have hh := hc.head
  have hlong := hg.long
  go_enter Try.func28, Try.ntmps28
  go_wp2_with fail
  have hrow1 : Row (w.alloc (.cells #[.int .i64 l.length] 3)) (some ⟨w.heap.size, 0, none⟩) (iv [(l.length : Int)]) := .inr ⟨_, 0, rfl, fun j u hu => by
    rw [World.cell?_alloc_new]
    simpa [iv] using hu⟩
  have hfit1 : fitAll ((2 : Nat) : Int) [(l.length : Int)] = true := by simp [fitAll, ft_two]; omega
  refine (put_yes w.heap.size none 0 0 2 _ 1 1 [(l.length : Int)] [] _ rfl hrow1 (by simp) (Own.nil _ _ _ _ _) (by decide) hfit1 (fun _ _ _ h => by simp [ownB] at h) (by omega)).mono ?_
  rintro e w1 ⟨A1, c1, rfl, hown1, hon1, hblk1⟩
  have hb1 : Below w.heap.size w w1 := (Only.belowB (B := w.heap.size) (F := (w.heap.size ≤ ·)) (((Only.refl _ _).alloc _).trans hon1 (fun i hi hk => by simp [ownB] at hk)) (fun k hk => hk) (Nat.le_refl _))
  have hc1 := hc.below hb1
  have hh1 := hc1.head
  rw [putB_one, List.nil_append, Nat.zero_add, Nat.one_mul] at hown1
  go_wp2_with fail
  refine (put_yes w.heap.size A1 2 c1 2 A l.length c l (be 2 l.length) _ rfl hc1.own.row hb1.size hown1 (by decide) hg.fit ?_ (by omega)).mono ?_
  · intro hne a ha hk
    have h1 := (hown1.lt _ hk).1
    have h2 := hc.own.row.lt (by simpa [iv] using hne) a ha
    omega
  rintro e w2 ⟨A2, c2, rfl, hown2, hon2, hblk2⟩
  have hb2 : Below w.heap.size w w2 := hb1.trans (hon2.belowB (fun k hk => (hown1.lt k hk).1) hb1.size)
  rw [Nat.mul_comm] at hown2 ⊢
  go_wp2_with fail
  go_ret
  exact ⟨_, _, rfl, hown2, hb2⟩

def DoesPost (w : World) (B g : Nat) (A : Option Addr) (c : Nat) (t : List Int × Int × Int) (e : Ending) (w' : World) : Prop :=
  e = .returned (.tuple #[.int .i64 t.2.1, .int .i64 t.2.2]) ∧ ∃ A' c', Cnt w' B g A' c' t.1 ∧ Turned w w' g A c A' c'

set_option maxHeartbeats 2000000 in
theorem does_any {w : World} {B g c : Nat} {A : Option Addr} {l : List Int} (hc : Cnt w B g A c l) (hg : Good l) (K h x : Int) :
    Calls Try.prog 17 #[.pointer (some ⟨g, 0, none⟩), .agg #[.int .i64 K, .int .i64 h, .int .i64 x]] w (DoesPost w B g A c (doF l K h x)) := by
  have hca := hc.alloc (.cells #[.int .i64 K, .int .i64 h, .int .i64 x] 37)
  have hba := (Below.refl w.heap.size w).alloc (Nat.le_refl _) (.cells #[.int .i64 K, .int .i64 h, .int .i64 x] 37)
  by_cases hK0 : K = 0
  · subst hK0
    rw [do_zero]
    go_enter Try.func17, Try.ntmps17
    go_wp2_with fail
    refine (take_any hca hg.long).mono ?_
    rintro e w1 ⟨rfl, hc1, ht1⟩
    go_wp2_with fail
    go_ret2
    exact ⟨rfl, _, _, hc1, ht1.after hba⟩
  by_cases hK1 : K = 1
  · subst hK1
    rw [do_one]
    clear hK0
    go_enter Try.func17, Try.ntmps17
    go_wp2_with fail
    refine (more_any hca hg h).mono ?_
    rintro e w1 ⟨rfl, hc1, ht1⟩
    go_wp2_with fail
    go_ret2
    exact ⟨rfl, _, _, hc1, ht1.after hba⟩
  by_cases hK2 : K = 2
  · subst hK2
    rw [do_two]
    clear hK0 hK1
    go_enter Try.func17, Try.ntmps17
    go_wp2_with fail
    refine (less_any hca hg h).mono ?_
    rintro e w1 ⟨rfl, hc1, ht1⟩
    go_wp2_with fail
    go_ret2
    exact ⟨rfl, _, _, hc1, ht1.after hba⟩
  by_cases hK3 : K = 3
  · subst hK3
    rw [do_three]
    clear hK0 hK1 hK2
    go_enter Try.func17, Try.ntmps17
    go_wp2_with fail
    refine (set_any hca h x).mono ?_
    rintro e w1 ⟨rfl, hc1, ht1⟩
    go_wp2_with fail
    go_ret2
    exact ⟨rfl, _, _, hc1, ht1.after hba⟩
  by_cases hK4 : K = 4
  · subst hK4
    rw [do_four]
    clear hK0 hK1 hK2 hK3
    go_enter Try.func17, Try.ntmps17
    go_wp2_with fail
    refine (grow_any hca hg x).mono ?_
    rintro e w1 ⟨rfl, A1, c1, hc1, ht1⟩
    go_wp2_with fail
    go_ret2
    exact ⟨rfl, _, _, hc1, ht1.after hba⟩
  · rw [do_else l K h x hK0 hK1 hK2 hK3 hK4]
    go_enter Try.func17, Try.ntmps17
    go_wp2_with fail
    go_ret2
    exact ⟨rfl, _, _, hca, (Turned.refl _ _ _ _).after hba⟩

set_option maxHeartbeats 1000000 in
theorem plain_any {w : World} {B g c : Nat} {A : Option Addr} {l : List Int} (hc : Cnt w B g A c l) (hg : l.length ≤ 512) :
    Calls Try.prog 19 #[.pointer (some ⟨g, 0, none⟩)] w fun e w' => ∃ A' c', e = .returned (.slice A' l.length c') ∧ Own w' w.heap.size 3 1 A' l.length c' (iv l) ∧ Below w.heap.size w w' := by
  obtain ⟨i0, hi0, hz0, hz1, hz2⟩ := info_parts info_int
  obtain ⟨n, hn⟩ : ∃ n, n = l.length := ⟨_, rfl⟩
  have HN := Lib.hid hn
  rw [← hn] at hg ⊢
  go_enter Try.func19, Try.ntmps19
  go_wp2_with fail
  refine (len_any hc).mono ?_
  rw [← hn]
  clear hn
  rintro e w1 ⟨rfl, rfl⟩
  go_wp2_with fail
  go_loopw [3, 7] (fun v i wr => ∃ (k : Nat) (A' : Option Addr) (c' : Nat), k ≤ n ∧ i = .int .i64 k ∧ v = .slice A' k c' ∧ Own wr w.heap.size 3 1 A' k c' (iv (l.take k)) ∧ Below w.heap.size w wr) (fun _ i _ => n - (intOf i).toNat)
  case atStart => exact ⟨0, none, 0, Nat.zero_le _, rfl, rfl, Own.nil _ _ _ _ _, Below.refl _ _⟩
  case round =>
    obtain ⟨k, A', c', hk, rfl, rfl, hown, hb⟩ := hrel
    by_cases hlt : k < n
    · have hkl : k < l.length := by rw [← HN.out]; exact hlt
      have hat := atF_in hkl
      have hts : iv (l.take k) ++ [.int .i64 l[k]] = iv (l.take (k + 1)) := by rw [List.take_succ_eq_append_getElem hkl, iv_append]; rfl
      have HTS := Lib.hid hts
      clear hts
      go_wp2_with fail
      refine (at_any (hc.below hb) k).mono ?_
      rw [hat]
      rintro e w1 ⟨rfl, rfl⟩
      clear hat
      go_wp2_with (at_builtin; refine wpList_app _ rfl _ _ 22 22 rfl w.heap.size 3 i0 _ 1 8 Try.underlying22 hi0 hz0 hz1 hz2 rfl A' k c' _ rfl (hown.alloc _) _ 1 _ rfl (Src.new Try.underlying22 rfl (by simp [Value.oneCell'])) (by simp only [maxLen]; omega) (by omega) (Nat.le_trans hb.size (by simp)) ?_; intro A3 c3 w3 hown3 hg3 hb3; rw [show (#[Value.int .i64 l[k]] : Array Value).toList = [.int .i64 l[k]] from rfl, HTS.out] at hown3)
      go_roundw
      case rel => exact ⟨k + 1, A3, c3, by omega, by go_num, rfl, hown3, (hb.alloc hb.size _).grown hg3 (Nat.le_trans hb.size (by simp)) (fun i hi => (hown.lt i hi).1)⟩
      case measure => simp [intOf]; omega
    · obtain rfl : k = n := by omega
      rw [List.take_of_length_le (by rw [← HN.out]; exact Nat.le_refl _)] at hown
      go_wp2_with fail
      go_ret
      exact ⟨_, _, rfl, hown, hb⟩

theorem alive_lists : takeF [0, 0] = ([1, 0], 0, 0) ∧ takeF [1, 0] = ([1, 1], 1, 0) ∧ takeF [1, 1] = ([1, 1], 0, 70) ∧ moreF [1, 1] 1 = ([1, 2], 0) ∧ lessF [1, 2] 1 = ([1, 1], 1, 0) ∧ freeN [1, 1] = 0 ∧ atF [1, 1] 1 = 1 := by decide
theorem good_of (l : List Int) (h : (decide (l.length ≤ 512) && l.all (fun x => decide (0 ≤ x) && decide (x ≤ 65535))) = true) : Good l := by
  simp only [Bool.and_eq_true, decide_eq_true_eq, List.all_eq_true] at h
  exact ⟨h.1, h.2⟩

set_option maxHeartbeats 2000000 in
theorem alive_any (w : World) :
    Calls Try.prog 11 #[] w fun e w' => e = .returned (.bool true) ∧ Below w.heap.size w w' := by
  obtain ⟨a1, a2, a3, a4, a5, a6, a7⟩ := alive_lists
  have A1 := Lib.hid a1
  have A2 := Lib.hid a2
  have A3 := Lib.hid a3
  have A4 := Lib.hid a4
  have A5 := Lib.hid a5
  have A6 := Lib.hid a6
  have A7 := Lib.hid a7
  clear a1 a2 a3 a4 a5 a6 a7
  go_enter Try.func11, Try.ntmps11
  go_wp2_with fail
  refine (new_any 2 (by omega) w).mono ?_
  rintro e w1 ⟨rfl, hc1, hb1⟩
  have hc1' : Cnt w1 w.heap.size (w.heap.size + 1) (some ⟨w.heap.size, 0, none⟩) 2 [0, 0] := hc1
  clear hc1
  go_wp2_with fail
  refine (take_any hc1' (by decide)).mono ?_
  rw [A1.out]
  rintro e w2 ⟨rfl, hc2, ht2⟩
  go_wp2_with fail
  refine (take_any hc2 (by decide)).mono ?_
  rw [A2.out]
  rintro e w3 ⟨rfl, hc3, ht3⟩
  go_wp2_with fail
  refine (take_any hc3 (by decide)).mono ?_
  rw [A3.out]
  rintro e w4 ⟨rfl, hc4, ht4⟩
  go_wp2_with fail
  refine (more_any hc4 (good_of _ (by decide)) 1).mono ?_
  rw [A4.out]
  rintro e w5 ⟨rfl, hc5, ht5⟩
  go_wp2_with fail
  refine (less_any hc5 (good_of _ (by decide)) 1).mono ?_
  rw [A5.out]
  rintro e w6 ⟨rfl, hc6, ht6⟩
  have hb6 : Below w.heap.size w w6 := hb1.trans ((((ht2.trans ht3).trans ht4).trans ht5).trans ht6 |>.belowB hc1' hb1.size)
  go_wp2_with fail
  refine (free_any hc6 (by decide)).mono ?_
  rw [A6.out]
  rintro e w7 ⟨rfl, rfl⟩
  go_wp2_with fail
  refine (at_any hc6 1).mono ?_
  rw [A7.out]
  rintro e w7 ⟨rfl, rfl⟩
  go_wp2_with fail
  refine (encode_any hc6 (good_of _ (by decide))).mono ?_
  rintro e w7 ⟨A8, c8, rfl, hown8, hb8⟩
  go_wp2_with fail
  go_ret
  exact ⟨rfl, below_all hb6 hb8⟩
end Go.Proofs.Ytjkklndpfmemhaa
