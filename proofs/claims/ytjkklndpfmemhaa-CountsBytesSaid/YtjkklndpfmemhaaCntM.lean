/- counts: is, Len, At, Free, Take, Set: what they answer and write. Conditions: the counts may be. -/
import Derived.Test.YtjkklndpfmemhaaCnt
namespace Go.Proofs.Ytjkklndpfmemhaa
open Go.RowKit

section
variable {w w' : World} {B g c : Nat} {A : Option Addr} {l : List Int}
theorem Cnt.head (h : Cnt w B g A c l) : w.cell? ⟨g, 0, none⟩ = some (.slice A l.length c) := h.blk.cell 0
theorem Cnt.cell (h : Cnt w B g A c l) {k : Nat} (hk : k < l.length) : ∃ b, A = some ⟨b, 0, none⟩ ∧ b ≠ g ∧ w.cell? ⟨b, k, none⟩ = some (.int .i64 l[k]) ∧ w.frozen? ⟨b, k, none⟩ = false ∧
    ∀ u : Int, Cnt (w.setCell ⟨b, k, none⟩ (.int .i64 u)) B g A c (l.set k u) ∧ Turned w (w.setCell ⟨b, k, none⟩ (.int .i64 u)) g A c A c := by
  obtain ⟨b, rfl, h1, h2, h3, h4, h5, h6⟩ := h.own.at_ hk (iv_at hk)
  have hbg := h.apart b h3
  refine ⟨b, rfl, hbg, h4, h5, fun u => ⟨⟨?_, ?_, h.low⟩, ⟨(Only.refl _ _).setCell (.inl (.inr h3)) _, fun _ hk => .inl hk⟩⟩⟩
  · rw [List.length_set]
    exact h.blk.far (fun e => hbg e.symm) _
  · have h7 := h6 (.int .i64 u)
    rw [List.length_set, show iv (l.set k u) = (iv l).set k (.int .i64 u) by simp [iv, List.map_set]]
    exact h7
end

set_option maxHeartbeats 1000000 in
theorem is_any {w : World} {B g c : Nat} {A : Option Addr} {l : List Int} (hc : Cnt w B g A c l) (h : Int) :
    Calls Try.prog 34 #[.pointer (some ⟨g, 0, none⟩), .int .i64 h] w fun e w' => e = .returned (.bool (isIn h l)) ∧ w = w' := by
  have hh := hc.head
  by_cases h0 : 0 ≤ h
  · by_cases h1 : h < (l.length : Int)
    · go_enter Try.func34, Try.ntmps34
      go_wp2_with fail
      go_ret
      exact ⟨ret_bool (by simp [isIn, h0, h1]), rfl⟩
    · go_enter Try.func34, Try.ntmps34
      go_wp2_with fail
      go_ret
      exact ⟨ret_bool (by simp only [isIn, Bool.false_eq, Bool.and_eq_false_iff, decide_eq_false_iff_not]; exact .inr (by omega)), rfl⟩
  · go_enter Try.func34, Try.ntmps34
    go_wp2_with fail
    go_ret
    exact ⟨ret_bool (by simp only [isIn, Bool.false_eq, Bool.and_eq_false_iff, decide_eq_false_iff_not]; exact .inl (by omega)), rfl⟩

theorem len_any {w : World} {B g c : Nat} {A : Option Addr} {l : List Int} (hc : Cnt w B g A c l) :
    Calls Try.prog 22 #[.pointer (some ⟨g, 0, none⟩)] w fun e w' => e = .returned (.int .i64 l.length) ∧ w = w' := by
  have hh := hc.head
  go_enter Try.func22, Try.ntmps22
  go_wp2_with fail
  go_ret
  exact ⟨rfl, rfl⟩

theorem at_any {w : World} {B g c : Nat} {A : Option Addr} {l : List Int} (hc : Cnt w B g A c l) (h : Int) :
    Calls Try.prog 21 #[.pointer (some ⟨g, 0, none⟩), .int .i64 h] w fun e w' => e = .returned (.int .i64 (atF l h)) ∧ w = w' := by
  have hh := hc.head
  cases hi : isIn h l
  · rw [atF_out hi]
    go_enter Try.func21, Try.ntmps21
    go_wp2_with (go_at_call 34; refine (is_any hc _).mono ?_; rw [hi]; rintro e w' ⟨rfl, rfl⟩)
    go_ret
    exact ⟨rfl, rfl⟩
  · have HI := Lib.hid hi
    clear hi
    obtain ⟨k, rfl, hk⟩ := isIn_true HI.out
    rw [atF_in hk]
    obtain ⟨b, rfl, hbg, h4, h5, -⟩ := hc.cell hk
    go_enter Try.func21, Try.ntmps21
    go_wp2_with (go_at_call 34; refine (is_any hc _).mono ?_; rw [HI.out]; rintro e w' ⟨rfl, rfl⟩)
    go_ret
    exact ⟨rfl, rfl⟩

set_option maxHeartbeats 1000000 in
theorem free_any {w : World} {B g c : Nat} {A : Option Addr} {l : List Int} (hc : Cnt w B g A c l) (hg : l.length ≤ 512) :
    Calls Try.prog 14 #[.pointer (some ⟨g, 0, none⟩)] w fun e w' => e = .returned (.int .i64 (freeN l)) ∧ w = w' := by
  have hh := hc.head
  obtain ⟨n, hn⟩ : ∃ n, n = l.length := ⟨_, rfl⟩
  rw [← hn] at hh hg
  have HN := Lib.hid hn
  clear hn
  go_enter Try.func14, Try.ntmps14
  go_wp2_with fail
  go_loop [3, 11] (fun x i => ∃ k : Nat, k ≤ n ∧ i = .int .i64 k ∧ x = .int .i64 (freeN (l.take k))) (fun _ i => n - (intOf i).toNat)
  case atStart => exact ⟨0, Nat.zero_le _, rfl, rfl⟩
  case round =>
    obtain ⟨k, hk, rfl, rfl⟩ := hrel
    by_cases hlt : k < n
    · have hkl : k < l.length := by rw [← HN.out]; exact hlt
      obtain ⟨b, rfl, hbg, h4, h5, -⟩ := hc.cell hkl
      have hft := freeN_take l k hkl
      have hfl := freeN_le (l.take k)
      rw [List.length_take] at hfl
      obtain ⟨f, hf⟩ : ∃ f, f = freeN (l.take k) := ⟨_, rfl⟩
      rw [← hf] at hft hfl ⊢
      clear hf
      have HFT := Lib.hid hft
      clear hft
      by_cases hz : l[k] = 0
      · have HZ := Lib.hid hz
        rw [hz] at h4
        clear hz
        go_wp2_with fail
        go_round
        case rel =>
          refine ⟨k + 1, by omega, by go_num, ?_⟩
          rw [HFT.out, if_pos HZ.out]
          go_num
        case measure => simp [intOf]; omega
      · have HZ := Lib.hid hz
        go_wp2_with fail
        go_round
        case rel =>
          refine ⟨k + 1, by omega, by go_num, ?_⟩
          rw [HFT.out, if_neg HZ.out]
          rfl
        case measure => simp [intOf]; omega
    · obtain rfl : k = n := by omega
      rw [List.take_of_length_le (by rw [← HN.out]; exact Nat.le_refl _)]
      go_wp2_with fail
      go_ret
      exact ⟨rfl, rfl⟩

set_option maxHeartbeats 1000000 in
theorem take_any {w : World} {B g c : Nat} {A : Option Addr} {l : List Int} (hc : Cnt w B g A c l) (hg : l.length ≤ 512) :
    Calls Try.prog 12 #[.pointer (some ⟨g, 0, none⟩)] w fun e w' => e = .returned (.tuple #[.int .i64 (takeF l).2.1, .int .i64 (takeF l).2.2]) ∧ Cnt w' B g A c (takeF l).1 ∧ Turned w w' g A c A c := by
  have hh := hc.head
  obtain ⟨n, hn⟩ : ∃ n, n = l.length := ⟨_, rfl⟩
  rw [← hn] at hh hg
  have HN := Lib.hid hn
  clear hn
  go_enter Try.func12, Try.ntmps12
  go_wp2_with fail
  go_loop [10] (fun i => ∃ k : Nat, k ≤ n ∧ i = .int .i64 k ∧ Hid (∀ j, j < k → ∀ x, l[j]? = some x → x ≠ 0)) (fun i => n - (intOf i).toNat)
  case atStart => exact ⟨0, Nat.zero_le _, rfl, Lib.hid fun j hj => by omega⟩
  case round =>
    obtain ⟨k, hk, rfl, hall⟩ := hrel
    by_cases hlt : k < n
    · have hkl : k < l.length := by rw [← HN.out]; exact hlt
      obtain ⟨b, rfl, hbg, h4, h5, h6⟩ := hc.cell hkl
      by_cases hz : l[k] = 0
      · have HZ := Lib.hid hz
        rw [hz] at h4
        clear hz
        have ht : takeF l = (l.set k 1, (k : Int), 0) := by unfold takeF; rw [firstZ_some hkl HZ.out hall.out]
        have HT := Lib.hid ht
        clear ht
        have h7 := h6 1
        go_wp2_with fail
        go_ret2
        rw [HT.out]
        exact ⟨rfl, h7.1, h7.2⟩
      · have HZ := Lib.hid hz
        go_wp2_with fail
        go_round
        case rel =>
          refine ⟨k + 1, by omega, by go_num, Lib.hid fun j hj x hx => ?_⟩
          by_cases hjk : j < k
          · exact hall.out j hjk x hx
          · obtain rfl : j = k := by omega
            rw [List.getElem?_eq_getElem hkl] at hx
            injection hx with hx
            exact hx ▸ HZ.out
        case measure => simp [intOf]; omega
    · have ht : takeF l = (l, 0, 70) := by unfold takeF; rw [firstZ_none (fun j hj => hall.out j (by have := HN.out; omega))]
      have HT := Lib.hid ht
      clear ht
      go_wp2_with fail
      go_ret2
      rw [HT.out]
      exact ⟨rfl, hc, Turned.refl _ _ _ _⟩

set_option maxHeartbeats 1000000 in
theorem set_any {w : World} {B g c : Nat} {A : Option Addr} {l : List Int} (hc : Cnt w B g A c l) (h n : Int) :
    Calls Try.prog 33 #[.pointer (some ⟨g, 0, none⟩), .int .i64 h, .int .i64 n] w fun e w' => e = .returned (.int .i64 (setF l h n).2) ∧ Cnt w' B g A c (setF l h n).1 ∧ Turned w w' g A c A c := by
  have hh := hc.head
  cases hi : isIn h l
  · have ht : setF l h n = (l, 1) := by unfold setF; rw [hi]; simp
    rw [ht]
    clear ht
    go_enter Try.func33, Try.ntmps33
    go_wp2_with (go_at_call 34; refine (is_any hc _).mono ?_; rw [hi]; rintro e w' ⟨rfl, rfl⟩)
    go_ret
    exact ⟨rfl, hc, Turned.refl _ _ _ _⟩
  · have HI := Lib.hid hi
    clear hi
    obtain ⟨k, rfl, hk⟩ := isIn_true HI.out
    by_cases hn0 : 0 ≤ n
    · by_cases hn1 : n ≤ 65535
      · have ht : setF l k n = (l.set k n, 0) := by unfold setF; rw [if_pos ⟨HI.out, hn0, hn1⟩]; simp
        rw [ht]
        clear ht
        obtain ⟨b, rfl, hbg, h4, h5, h6⟩ := hc.cell hk
        have h7 := h6 n
        go_enter Try.func33, Try.ntmps33
        go_wp2_with (go_at_call 34; refine (is_any hc _).mono ?_; rw [HI.out]; rintro e w' ⟨rfl, rfl⟩)
        go_ret
        exact ⟨rfl, h7.1, h7.2⟩
      · have ht : setF l k n = (l, 1) := by unfold setF; rw [if_neg (fun h => hn1 h.2.2)]
        rw [ht]
        clear ht
        go_enter Try.func33, Try.ntmps33
        go_wp2_with (go_at_call 34; refine (is_any hc _).mono ?_; rw [HI.out]; rintro e w' ⟨rfl, rfl⟩)
        go_ret
        exact ⟨rfl, hc, Turned.refl _ _ _ _⟩
    · have ht : setF l k n = (l, 1) := by unfold setF; rw [if_neg (fun h => hn0 h.2.1)]
      rw [ht]
      clear ht
      go_enter Try.func33, Try.ntmps33
      go_wp2_with (go_at_call 34; refine (is_any hc _).mono ?_; rw [HI.out]; rintro e w' ⟨rfl, rfl⟩)
      go_ret
      exact ⟨rfl, hc, Turned.refl _ _ _ _⟩
end Go.Proofs.Ytjkklndpfmemhaa
