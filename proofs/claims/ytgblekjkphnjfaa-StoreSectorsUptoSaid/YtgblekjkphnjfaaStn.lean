/- pentimentolaw03.stands. Conditions: the lengths fit memory. -/
import Derived.Test.YtgblekjkphnjfaaDos
namespace Go.Proofs.Ytgblekjkphnjfaa
open Go.RowKit
set_option linter.unusedSimpArgs false

set_option maxHeartbeats 4000000 in
theorem stands_any (B : Nat) (f : Fp) (s : St) (A : Option Addr) (m c : Nat) (w : World) (h : Sto w B f s) (hm : s.l.length = m) (hr : Row w A (rcells s.l)) (hsz : m + 4096 ≤ 5000000000000) :
    Calls Try.prog 24 #[.pointer (some ⟨f.g, 0, none⟩), .agg #[.int .i64 s.n, .int .i64 s.room, .slice A m c, .int .i64 s.k]] w fun e w' => e = .returned (.bool true) ∧ Below w.heap.size w w' := by
  have hb0 : Below w.heap.size w (w.alloc (.cells #[.int .i64 s.n, .int .i64 s.room, .slice A m c, .int .i64 s.k] 49)) := (Below.refl _ _).alloc (Nat.le_refl _) _
  have h1 := h.alloc (.cells #[.int .i64 s.n, .int .i64 s.room, .slice A m c, .int .i64 s.k] 49)
  have hr1 := hr.alloc (.cells #[.int .i64 s.n, .int .i64 s.room, .slice A m c, .int .i64 s.k] 49)
  have hG := Blk.new w 49 #[.int .i64 s.n, .int .i64 s.room, .slice A m c, .int .i64 s.k]
  obtain ⟨N, hN⟩ := Int.eq_ofNat_of_zero_le h.ok.n0
  have hN4 : N ≤ 4096 := by have := h.ok.n1; omega
  have hk : s.k ≤ m := by rw [← hm]; exact h.ok.k
  have hrd := fun u (hu : Sto u B f s) => read_any B f s u hu 0 s.n (by omega) (by omega)
  have hrr := fun u (hu : Row u A (rcells s.l)) => rRead_any s.n s.room A m c s.k s.l 0 s.n u ⟨h.ok.n0, h.ok.n1⟩ hm hu (by omega) (fun x hx => (h.ok.w x hx).2.2) (by omega)
  have hus : ∀ u, Row u A (rcells s.l) → Calls Try.prog 39 #[.agg #[.int .i64 s.n, .int .i64 s.room, .slice A m c, .int .i64 s.k]] u fun e w' => e = .returned (.int .i64 (s.used : Nat)) ∧ Below u.heap.size u w' := fun u hu => by
    have h1 := rUsed_any N s.room A m c s.k s.l u hN4 hm hu (by omega)
    rw [← hN] at h1
    have e : usedN s.l N = s.used := by unfold St.used; rw [hN]; rfl
    rw [e] at h1
    exact h1
  have hlo : ∀ u, Sto u B f s → Calls Try.prog 20 #[.pointer (some ⟨f.g, 0, none⟩)] u fun e w' => e = .returned (.int .i64 ((m : Int) - s.k)) ∧ w' = u := fun u hu => by
    have h1 := loose_any B f s u hu
    rw [show ((s.l.length - s.k : Nat) : Int) = (m : Int) - s.k by omega] at h1
    exact h1
  obtain ⟨r1, hr1e⟩ : ∃ r1, r1 = (rdS s 0 s.n).1 := ⟨_, rfl⟩
  obtain ⟨r2, hr2e⟩ : ∃ r2, r2 = (rdS s 0 s.n).2 := ⟨_, rfl⟩
  have hrr' : ∀ u, Row u A (rcells s.l) → Calls Try.prog 36 #[.agg #[.int .i64 s.n, .int .i64 s.room, .slice A m c, .int .i64 s.k], .int .i64 0, .int .i64 s.n] u fun e w' => e = .returned (.tuple #[.string (str r1), .int .i64 r2]) ∧ Below u.heap.size u w' := fun u hu => by
    rw [hr1e, hr2e]
    exact hrr u hu
  rw [← hr1e, ← hr2e] at hrd
  have HRD := Lib.hid hrd
  have HRR := Lib.hid hrr'
  have HUS := Lib.hid hus
  have HLO := Lib.hid hlo
  obtain ⟨U, hU⟩ : ∃ U, U = s.used := ⟨_, rfl⟩
  have hU4 : U ≤ 4096 := by rw [hU]; exact Nat.le_trans (usedN_le _ _) (by omega)
  have huc := fun u (hu : Sto u B f s) => used_any B f s u hu
  rw [← hU] at HUS
  simp only [← hU] at huc
  have HUC := Lib.hid huc
  clear hrd hrr hrr' hus hlo hr1e hr2e h hr hN hm hU huc
  go_enter Try.func24, Try.ntmps24
  go_wp2_with fail
  refine (len_any B f s _ h1).mono ?_
  rintro e w1 ⟨rfl, rfl⟩
  go_wp2_with fail
  refine (HRD.out _ h1).mono ?_
  rintro e w2 ⟨A2, m2, c2, rfl, hl2, hown2, hb2⟩
  have HL2 := Lib.hid hl2
  have h2 := h1.below hb2
  have hr2 := hr1.below hb2
  have hG2 := hG.belowAll hb2
  have hb02 := below_all hb0 hb2
  have hx2 := hown2.row
  obtain ⟨⟨c0, c1, c2', c3⟩, _⟩ := hG2.four
  clear hl2 h1 hr1 hG hown2
  go_wp2_with fail
  refine (HRR.out _ hr2).mono ?_
  rintro e w3 ⟨rfl, hb3⟩
  have h3 := h2.below hb3
  have hr3 := hr2.below hb3
  have hG3 := hG2.belowAll hb3
  have hb03 := below_all hb02 hb3
  have hx3 := hx2.below hb3
  have hcv := run_string (P := Try.prog) HL2.out 29 9 5 (c := c2) Try.underlying29 Try.underlying5 Try.underlying9 hx3.drew
  clear c0 c1 c2' c3 h2 hr2 hG2 hb02 hx2 hb2 hb3
  obtain ⟨⟨c0, c1, c2', c3⟩, _⟩ := hG3.four
  go_wp2_with fail
  refine wp_region_seq true (.take 0 .copy (.take 2 .addr (.take 3 .load (.alone 1 (.take 4 .int2 (.take 5 .copy (.take 6 .copy (.take 7 .copy (.take 8 .int2 (.take 9 .copy (.take 10 .copy (.take 11 .copy (.take 12 (.text 29 5 9) (.take 13 .copy (.take 14 (.str2 9) (.take 15 .copy (.take 16 .copy (.take 17 .copy (.take 19 .addr (.take 20 .load (.take 21 (.len 47) (.take 22 .addr (.take 23 .load (.take 24 .int2 (.alone 18 (.take 25 .int2 (.take 26 .copy (.take 27 .copy (.take 28 .copy (.take 30 .load (.alone 29 (.alone 31 (.take 32 .int2 (.take 33 .copy (.take 34 .copy .fin))))))))))))))))))))))))))))))))))) (by kernel_rfl) (by kernel_rfl) (by kernel_rfl) ?_
  simp only [pre, nxt, List.getElem?_toArray, List.getElem?_cons_zero, List.getElem?_cons_succ, opAt, ghosts, List.nil_append, gInt, gStr, ghost, List.cons_append]
  go_wp2_with fail
  refine (len_any B f s _ h3.drew).mono ?_
  rintro e w4 ⟨rfl, rfl⟩
  go_wp2_with fail
  refine next_keep (Keep.refl _) ?_
  go_wp2_with fail
  refine (HLO.out _ h3.drew).mono ?_
  rintro e w4 ⟨rfl, rfl⟩
  go_wp2_with fail
  refine next_keep (Keep.refl _) ?_
  go_wp2_with fail
  refine (HUC.out _ h3.drew).mono ?_
  rintro e w4 ⟨rfl, rfl⟩
  go_wp2_with fail
  refine next_keep (Keep.refl _) ?_
  go_wp2_with fail
  refine (HUS.out _ hr3.drew).mono ?_
  rintro e w4 ⟨rfl, hb4⟩
  go_wp2_with fail
  refine next_keep (Keep.below hb4) ?_
  go_wp2_with fail
  refine ends_normal ?_
  go_wp2_with fail
  go_ret
  exact ⟨ret_bool (by simp), below_all hb03.drew hb4⟩
end Go.Proofs.Ytgblekjkphnjfaa
