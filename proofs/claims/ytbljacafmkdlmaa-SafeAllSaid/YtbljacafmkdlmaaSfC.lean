/- safe.newest, safe.Load. Condition: a store as one lies in memory. -/
import Derived.Test.YtbljacafmkdlmaaSfB
import Derived.OwnWalk
namespace Go.Proofs.Ytbljacafmkdlmaa
set_option maxRecDepth 100000
open Go.RowKit
set_option linter.unusedSimpArgs false

theorem copied_any (B : Nat) (f : Fp) (s : St) (w : World) (h : Sto w B f s) (k : Nat) (hk : k < 2) :
    Calls Try.prog 68 #[.pointer (some ⟨f.g, 0, none⟩), .int .i64 k] w (CopPost w (cop s k)) := by
  cases hx : opened (markB s k) with
  | none => exact copied_none B f s w h k hk hx
  | some x => exact copied_some B f s w h k (k : Int) (by omega) x hx

/-- The newest of the first copies. -/
def np (s : St) : Nat → Int × List UInt8 × Nat
  | 0 => (-1, [], 0)
  | j + 1 => if (np s j).2.2 < (cop s j).2 then ((j : Int), cop s j) else np s j
theorem np_two (s : St) : np s 2 = newestP s := by
  have e1 : np s 1 = if 0 < (cop s 0).2 then (0, cop s 0) else (-1, [], 0) := rfl
  have e2 : np s 2 = if (np s 1).2.2 < (cop s 1).2 then (1, cop s 1) else np s 1 := rfl
  rw [e2, e1]
  unfold newestP
  by_cases h0 : 0 < (cop s 0).2
  · rw [if_pos h0]
  · rw [if_neg h0]
    simp only
    by_cases h1 : 0 < (cop s 1).2
    · rw [if_pos h1, if_pos (by omega)]
    · rw [if_neg h1, if_neg (by omega)]

def NewPost (w : World) (r : Int × List UInt8 × Nat) (e : Ending) (w' : World) : Prop :=
  ∃ A m c, e = .returned (.tuple #[.int .i64 r.1, .slice A m c, .int .i64 (r.2.2 : Int)]) ∧ r.2.1.length = m ∧ m ≤ c ∧ Row w' A (bv r.2.1) ∧ Below w.heap.size w w'

set_option maxHeartbeats 2000000 in
theorem newest_any (B : Nat) (f : Fp) (s : St) (w : World) (h : Sto w B f s) :
    Calls Try.prog 34 #[.pointer (some ⟨f.g, 0, none⟩)] w (NewPost w (newestP s)) := by
  rw [← np_two]
  go_enter Try.func34, Try.ntmps34
  go_wp2_with fail
  go_loopw [5, 6, 7, 11] (fun a b x i wr => ∃ (j : Nat) (r : Int × List UInt8 × Nat) (A : Option Addr) (m c : Nat), j ≤ 2 ∧ i = .int .i64 j ∧ a = .int .i64 r.1 ∧ b = .int .i64 (r.2.2 : Int) ∧ x = .slice A m c ∧ Hid (r = np s j) ∧ Hid (r.2.1.length = m) ∧ m ≤ c ∧ Row wr A (bv r.2.1) ∧ Sto wr B f s ∧ Below w.heap.size w wr)
    (fun _ _ _ i _ => 2 - (intOf i).toNat)
  case atStart => exact ⟨0, (-1, [], 0), none, 0, 0, Nat.zero_le _, rfl, rfl, rfl, rfl, Lib.hid rfl, Lib.hid rfl, Nat.le_refl _, Row.nil _ _, h, Below.refl _ _⟩
  case round =>
    obtain ⟨j, ⟨pa, pb, pg⟩, A, m, c, hj, rfl, rfl, rfl, rfl, HR, HM, hmc, hx, hs, hbr⟩ := hrel
    by_cases hlt : j < 2
    · have hcp := copied_any B f s wr hs j hlt
      have hnx : np s (j + 1) = if (np s j).2.2 < (cop s j).2 then ((j : Int), cop s j) else np s j := rfl
      rw [← HR.out] at hnx
      obtain ⟨⟨cb, cg⟩, hcc⟩ : ∃ r, r = cop s j := ⟨_, rfl⟩
      rw [← hcc] at hcp hnx
      simp only at hnx
      clear hcc
      by_cases hg : pg < cg
      · rw [if_pos hg] at hnx
        have HNX := Lib.hid hnx
        clear hnx
        go_wp2_with fail
        refine hcp.mono ?_
        rintro e w2 ⟨A2, m2, c2, rfl, hl2, hmc2, hx2, hb2⟩
        have HL2 := Lib.hid hl2
        have hs2 := hs.below hb2
        have hb02 := below_all hbr hb2
        clear hl2 hcp hs hbr hx
        go_wp2_with fail
        go_roundw
        case rel => exact ⟨j + 1, ((j : Int), cb, cg), A2, m2, c2, by omega, by go_num, rfl, rfl, rfl, Lib.hid HNX.out.symm, HL2, hmc2, hx2, hs2, hb02⟩
        case measure => simp [intOf]; omega
      · rw [if_neg hg] at hnx
        have HNX := Lib.hid hnx
        clear hnx
        go_wp2_with fail
        refine hcp.mono ?_
        rintro e w2 ⟨A2, m2, c2, rfl, hl2, hmc2, hx2, hb2⟩
        have hs2 := hs.below hb2
        have hb02 := below_all hbr hb2
        have hx2' := hx.below hb2
        clear hl2 hcp hs hbr hx hx2
        go_wp2_with fail
        go_roundw
        case rel => exact ⟨j + 1, (pa, pb, pg), A, m, c, by omega, by go_num, rfl, rfl, rfl, Lib.hid HNX.out.symm, HM, hmc, hx2', hs2, hb02⟩
        case measure => simp [intOf]; omega
    · obtain rfl : j = 2 := by omega
      go_wp2_with fail
      go_ret3
      rw [← HR.out]
      exact ⟨A, m, c, rfl, HM.out, hmc, hx, hbr⟩

def LoadPost (w : World) (r : List UInt8 × Nat × Int) (e : Ending) (w' : World) : Prop :=
  ∃ A m c, e = .returned (.tuple #[.slice A m c, .int .i64 (r.2.1 : Int), .int .i64 r.2.2]) ∧ r.1.length = m ∧ m ≤ c ∧ Row w' A (bv r.1) ∧ Below w.heap.size w w'

set_option maxHeartbeats 2000000 in
theorem load_any (B : Nat) (f : Fp) (s : St) (w : World) (h : Sto w B f s) :
    Calls Try.prog 11 #[.pointer (some ⟨f.g, 0, none⟩)] w (LoadPost w (loadP s)) := by
  have hnw := newest_any B f s w h
  have hl : loadP s = if (newestP s).1 < 0 then ([], 0, 130) else ((newestP s).2.1, (newestP s).2.2, 0) := rfl
  obtain ⟨⟨pa, pb, pg⟩, hp⟩ : ∃ r, r = newestP s := ⟨_, rfl⟩
  rw [← hp] at hnw hl
  simp only at hl
  clear hp h
  by_cases ha : pa < 0
  · rw [if_pos ha] at hl
    rw [hl]
    clear hl
    go_enter Try.func11, Try.ntmps11
    go_wp2_with fail
    refine hnw.mono ?_
    rintro e w1 ⟨A, m, c, rfl, _, _, _, hb⟩
    go_wp2_with fail
    go_ret3
    exact ⟨none, 0, 0, rfl, rfl, Nat.le_refl _, Row.nil _ _, hb⟩
  · rw [if_neg ha] at hl
    rw [hl]
    clear hl
    go_enter Try.func11, Try.ntmps11
    go_wp2_with fail
    refine hnw.mono ?_
    rintro e w1 ⟨A, m, c, rfl, hm, hmc, hx, hb⟩
    have HM := Lib.hid hm
    clear hm
    go_wp2_with fail
    go_ret3
    exact ⟨A, m, c, rfl, HM.out, hmc, hx, hb⟩
end Go.Proofs.Ytbljacafmkdlmaa
