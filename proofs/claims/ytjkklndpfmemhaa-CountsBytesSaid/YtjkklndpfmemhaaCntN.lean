/- counts: New, change (More, Less), Grow, Copy: what they answer and write. Conditions: the counts may be. -/
import Derived.Test.YtjkklndpfmemhaaCntM
import Derived.Test.YtjkklndpfmemhaaApp0
namespace Go.Proofs.Ytjkklndpfmemhaa
open Go.RowKit

theorem bad_new {n : Int} (h : n < 0 ∨ 512 < n) (w : World) :
    Calls Try.prog 10 #[.int .i64 n] w fun e w' => e = .returned (.tuple #[.pointer none, .int .i64 1]) ∧ w = w' := by
  by_cases h0 : n < 0
  · go_enter Try.func10, Try.ntmps10
    go_wp2_with fail
    go_ret2
    exact ⟨rfl, rfl⟩
  · have h1 : 512 < n := by omega
    go_enter Try.func10, Try.ntmps10
    go_wp2_with fail
    go_ret2
    exact ⟨rfl, rfl⟩

theorem iv_zeros (n : Nat) : iv (List.replicate n 0) = List.replicate n (.int .i64 0) := by simp [iv]

theorem new_any (n : Nat) (hn : n ≤ 512) (w : World) :
    Calls Try.prog 10 #[.int .i64 n] w fun e w' => e = .returned (.tuple #[.pointer (some ⟨w.heap.size + 1, 0, none⟩), .int .i64 0]) ∧ Cnt w' w.heap.size (w.heap.size + 1) (some ⟨w.heap.size, 0, none⟩) n (List.replicate n 0) ∧ Below w.heap.size w w' := by
  obtain ⟨i0, hi0, hz0, hz1, hz2⟩ := info_parts info_int
  have hmk := run_make1 (P := Try.prog) 22 3 i0 _ Try.underlying22 hi0 hz0 hz1 n (by rw [hz2]; omega) (by omega)
  have hown := Own.fresh w (madeCells (Value.int .i64 0).cells n) 3 1 n n 0 0 (iv (List.replicate n 0)) (by simp only [maxLen]; omega) (Nat.le_refl _) (by simp [madeCells, Value.cells]) (by simp [iv]) (by rw [show (Value.int .i64 0).cells = #[.int .i64 0] from rfl, madeCells_one, iv_zeros]; simp) (.inr (Nat.le_refl _))
  have hb0 : ¬ ((n : Int) < 0) := by omega
  have hb1 : ¬ (512 < (n : Int)) := by omega
  go_enter Try.func10, Try.ntmps10
  go_wp2_with fail
  go_ret2
  refine ⟨rfl, ⟨?_, ?_, by omega⟩, ((Below.refl _ _).alloc (Nat.le_refl _) _).alloc (by simp) _⟩
  · have h := Blk.new (w.alloc (.cells (madeCells (Value.int .i64 0).cells n) 3)) 57 #[.slice (some ⟨w.heap.size, 0, none⟩) n n]
    rw [World.size_alloc] at h
    rw [List.length_replicate]
    exact h
  · rw [List.length_replicate]
    exact hown.alloc _

theorem more1_any (x : Int) (w : World) : Calls Try.prog 35 #[.int .i64 x] w fun e w' => e = .returned (.int .i64 (if x = 0 then 71 else if x = 65535 then 70 else 0)) ∧ w = w' := by
  by_cases h0 : x = 0
  · subst h0
    go_enter Try.func35, Try.ntmps35
    go_wp2_with fail
    go_ret
    exact ⟨rfl, rfl⟩
  · by_cases h1 : x = 65535
    · subst h1
      go_enter Try.func35, Try.ntmps35
      go_wp2_with fail
      go_ret
      exact ⟨rfl, rfl⟩
    · rw [if_neg h0, if_neg h1]
      go_enter Try.func35, Try.ntmps35
      go_wp2_with fail
      go_ret
      exact ⟨rfl, rfl⟩
theorem less1_any (x : Int) (w : World) : Calls Try.prog 31 #[.int .i64 x] w fun e w' => e = .returned (.int .i64 (if x = 0 then 71 else 0)) ∧ w = w' := by
  by_cases h0 : x = 0
  · subst h0
    go_enter Try.func31, Try.ntmps31
    go_wp2_with fail
    go_ret
    exact ⟨rfl, rfl⟩
  · rw [if_neg h0]
    go_enter Try.func31, Try.ntmps31
    go_wp2_with fail
    go_ret
    exact ⟨rfl, rfl⟩

/-- change: the answer is that of the test, 1 where there is no such cluster. -/
def chF (l : List Int) (h by_ : Int) (t : Int → Int) : List Int × Int :=
  if isIn h l then (if t (atF l h) = 0 then (l.set h.toNat (atF l h + by_), 0) else (l, t (atF l h))) else (l, 1)

set_option maxHeartbeats 2000000 in
theorem change_any {w : World} {B g c : Nat} {A : Option Addr} {l : List Int} (hc : Cnt w B g A c l) (hg : Good l) (h by_ : Int) (hb0 : -1 ≤ by_) (hb1 : by_ ≤ 1) (k : Nat) (t : Int → Int)
    (hcf : ∀ (args : Array Value) (w : World), (callFunc k args).run Try.prog w = .ok (.enter k args) w) (ht : ∀ x w, Calls Try.prog k #[.int .i64 x] w fun e w' => e = .returned (.int .i64 (t x)) ∧ w = w') :
    Calls Try.prog 30 #[.pointer (some ⟨g, 0, none⟩), .int .i64 h, .int .i64 by_, .func (.func k) #[] #[]] w fun e w' => e = .returned (.int .i64 (chF l h by_ t).2) ∧ Cnt w' B g A c (chF l h by_ t).1 ∧ Turned w w' g A c A c := by
  have hh := hc.head
  have HT := Lib.hid ht
  clear ht
  cases hi : isIn h l
  · have hch : chF l h by_ t = (l, 1) := by unfold chF; rw [hi]; rfl
    rw [hch]
    clear hch
    go_enter Try.func30, Try.ntmps30
    go_wp2_with (go_at_call 34; refine (is_any hc _).mono ?_; rw [hi]; rintro e w' ⟨rfl, rfl⟩)
    go_ret
    exact ⟨rfl, hc, Turned.refl _ _ _ _⟩
  · have HI := Lib.hid hi
    clear hi
    obtain ⟨j, rfl, hj⟩ := isIn_true HI.out
    obtain ⟨b, rfl, hbg, h4, h5, h6⟩ := hc.cell hj
    have hgj := hg.at_ hj
    by_cases hz : t l[j] = 0
    · have hch : chF l j by_ t = (l.set j (l[j] + by_), 0) := by unfold chF; rw [HI.out, atF_in hj, if_pos rfl, if_pos hz]; rfl
      rw [hch]
      clear hch
      have HZ := Lib.hid hz
      clear hz
      have h7 := h6 (l[j] + by_)
      obtain ⟨x, hx⟩ : ∃ x, x = l[j] := ⟨_, rfl⟩
      rw [← hx] at h4 h7 HZ hgj ⊢
      clear hx
      go_enter Try.func30, Try.ntmps30
      go_wp2_with (go_at_call 34; refine (is_any hc _).mono ?_; rw [HI.out]; rintro e w' ⟨rfl, rfl⟩)
      refine (HT.out _ _).mono ?_
      rw [HZ.out]
      rintro e w' ⟨rfl, rfl⟩
      go_wp2_with fail
      go_ret
      exact ⟨rfl, h7.1, h7.2⟩
    · have hch : chF l j by_ t = (l, t l[j]) := by unfold chF; rw [HI.out, atF_in hj, if_pos rfl, if_neg hz]
      rw [hch]
      clear hch
      obtain ⟨y, hy⟩ : ∃ y, y = t l[j] := ⟨_, rfl⟩
      rw [← hy] at hz ⊢
      have HY := Lib.hid hy
      clear hy
      have hz1 : (y == 0) = false := by simpa using hz
      go_enter Try.func30, Try.ntmps30
      go_wp2_with (go_at_call 34; refine (is_any hc _).mono ?_; rw [HI.out]; rintro e w' ⟨rfl, rfl⟩)
      refine (HT.out _ _).mono ?_
      rw [← HY.out]
      rintro e w' ⟨rfl, rfl⟩
      go_wp2_with fail
      go_ret
      exact ⟨rfl, hc, Turned.refl _ _ _ _⟩

theorem enters_more1 (args : Array Value) (w : World) : (callFunc 35 args).run Try.prog w = .ok (.enter 35 args) w := by
  have h1 : Try.f35.name ≠ "runtime.NumGoroutine" := by decide
  have h2 : Try.f35.body = none → False := fun h => by
    have h3 : Try.f35.body.isNone = false := by kernel_rfl
    rw [h] at h3
    cases h3
  simp [callFunc, Try.func35, h1]
  exact fun h => (h2 h).elim
theorem enters_less1 (args : Array Value) (w : World) : (callFunc 31 args).run Try.prog w = .ok (.enter 31 args) w := by
  have h1 : Try.f31.name ≠ "runtime.NumGoroutine" := by decide
  have h2 : Try.f31.body = none → False := fun h => by
    have h3 : Try.f31.body.isNone = false := by kernel_rfl
    rw [h] at h3
    cases h3
  simp [callFunc, Try.func31, h1]
  exact fun h => (h2 h).elim

def moreT (x : Int) : Int := if x = 0 then 71 else if x = 65535 then 70 else 0
def lessT (x : Int) : Int := if x = 0 then 71 else 0
theorem ch_more (l : List Int) (h : Int) : chF l h 1 moreT = moreF l h := by
  unfold chF moreF moreT
  split
  · by_cases h0 : atF l h = 0
    · simp [h0]
    · by_cases h1 : atF l h = 65535
      · simp [h1]
      · simp [h0, h1]
  · rfl
theorem ch_less (l : List Int) (h : Int) : chF l h (-1) lessT = ((lessF l h).1, (lessF l h).2.2) := by
  unfold chF lessF lessT
  split
  · by_cases h0 : atF l h = 0
    · simp [h0]
    · simp [h0, Int.sub_eq_add_neg]
  · rfl

theorem more_any {w : World} {B g c : Nat} {A : Option Addr} {l : List Int} (hc : Cnt w B g A c l) (hg : Good l) (h : Int) :
    Calls Try.prog 23 #[.pointer (some ⟨g, 0, none⟩), .int .i64 h] w fun e w' => e = .returned (.int .i64 (moreF l h).2) ∧ Cnt w' B g A c (moreF l h).1 ∧ Turned w w' g A c A c := by
  go_enter Try.func23, Try.ntmps23
  go_wp2_with fail
  refine (change_any hc hg h 1 (by omega) (by omega) 35 moreT enters_more1 more1_any).mono ?_
  rw [ch_more]
  rintro e w' ⟨rfl, h1, h2⟩
  go_wp2_with fail
  go_ret
  exact ⟨rfl, h1, h2⟩

theorem less_any {w : World} {B g c : Nat} {A : Option Addr} {l : List Int} (hc : Cnt w B g A c l) (hg : Good l) (h : Int) :
    Calls Try.prog 13 #[.pointer (some ⟨g, 0, none⟩), .int .i64 h] w fun e w' => e = .returned (.tuple #[.int .i64 (lessF l h).2.1, .int .i64 (lessF l h).2.2]) ∧ Cnt w' B g A c (lessF l h).1 ∧ Turned w w' g A c A c := by
  go_enter Try.func13, Try.ntmps13
  go_wp2_with fail
  refine (change_any hc hg h (-1) (by omega) (by omega) 31 lessT enters_less1 less1_any).mono ?_
  rw [ch_less]
  rintro e w' ⟨rfl, h1, h2⟩
  by_cases hok : (lessF l h).2.2 = 0
  · have hi : isIn h l = true ∧ atF l h ≠ 0 := by
      unfold lessF at hok
      split at hok
      · rename_i h1
        refine ⟨h1, fun h0 => ?_⟩
        rw [if_pos h0] at hok
        cases hok
      · cases hok
    have hl : lessF l h = (l.set h.toNat (atF l h - 1), atF l h - 1, 0) := by unfold lessF; rw [if_pos hi.1, if_neg hi.2]
    simp only [hl] at h1
    have HL := Lib.hid hl
    clear hl
    obtain ⟨k, rfl, hk⟩ := isIn_true hi.1
    rw [Int.toNat_natCast] at h1
    have HL2 : Hid (lessF l k = (l.set k (atF l k - 1), atF l k - 1, 0)) := Lib.hid (by rw [HL.out, Int.toNat_natCast])
    clear HL
    have hk2 : k < (l.set k (atF l k - 1)).length := by rw [List.length_set]; exact hk
    have hh := h1.head
    rw [List.length_set] at hh
    obtain ⟨b, rfl, hbg, h4, h5, -⟩ := h1.cell hk2
    rw [List.getElem_set_self] at h4
    rw [show ((lessF l (k : Int)).1, (lessF l (k : Int)).2.2).2 = 0 by rw [HL2.out]]
    clear hok hi
    go_wp2_with fail
    go_ret2
    rw [HL2.out]
    exact ⟨rfl, h1, h2⟩
  · have hn : (lessF l h).2.1 = 0 := by
      unfold lessF at hok ⊢
      split
      · rename_i h1
        rw [if_pos h1] at hok
        split
        · rfl
        · rename_i h0
          rw [if_neg h0] at hok
          exact absurd rfl hok
      · rfl
    have HN := Lib.hid hn
    clear hn
    simp only at h1 ⊢
    obtain ⟨z, hz⟩ : ∃ z, z = (lessF l h).2.2 := ⟨_, rfl⟩
    rw [← hz] at hok ⊢
    have HZ := Lib.hid hz
    clear hz
    have hz1 : (z != 0) = true := by simpa using hok
    go_wp2_with fail
    go_ret2
    rw [HN.out, ← HZ.out]
    exact ⟨rfl, h1, h2⟩
end Go.Proofs.Ytjkklndpfmemhaa
