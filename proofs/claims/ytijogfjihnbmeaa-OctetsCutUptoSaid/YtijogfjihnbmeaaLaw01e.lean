/- The law OctetsStops. Conditions: the length of the bytes fits memory. -/
import Derived.Test.YtijogfjihnbmeaaPart
import Derived.Test.YtijogfjihnbmeaaRefRead
import Derived.Test.YtijogfjihnbmeaaAlive01
namespace Go.Proofs.Ytijogfjihnbmeaa
open Go.RowKit

theorem rp_err (l : List UInt8) (e k wd n : Int) (he : e ≠ 0) : rp l e k wd n = (l, e, 0, []) := by
  have ht : ∀ n b, tk l e n b = (l, e, []) := fun n b => by unfold tk; rw [if_pos he]
  have hn : nm l e wd = (l, e, 0) := by
    unfold nm
    simp only [ht]
    rfl
  have hx : tx l e wd = (l, e, []) := by
    unfold tx
    rw [hn]
    exact ht _ _
  unfold rp
  rw [hn, hx, ht]
  split
  · rfl
  split
  · rfl
  split <;> rfl

theorem only_below {w w1 w2 : World} {g : Nat} (h : Below w.heap.size w w1) (hg : w.heap.size ≤ g) (hon : Only w1 w2 (· = g)) : Below w.heap.size w w2 := below_only h (Nat.le_refl _) hg hon

set_option maxHeartbeats 4000000 in
theorem stops_law (A A2 A3 : Option Addr) (n c n2 c2 n3 c3 : Nat) (l : List UInt8) (ps qs : List Pt) (w : World) (hn : l.length = n) (hr : Row w A (bv l)) (hn2 : ps.length = n2) (hr2 : Row w A2 (pcells ps)) (hn3 : qs.length = n3) (hr3 : Row w A3 (pcells qs))
    (hsz : n ≤ 140737488355328) (hsz2 : n2 ≤ 140737488355328) (hsz3 : n3 ≤ 140737488355328) :
    Calls Try.prog 7 #[.slice A n c, .slice A2 n2 c2, .slice A3 n3 c3] w fun e w' => e = .returned (.bool true) ∧ Below w.heap.size w w' := by
  have HN := Lib.hid hn
  have HN2 := Lib.hid hn2
  have HN3 := Lib.hid hn3
  clear hn hn2 hn3
  by_cases h1 : 20000 < n
  · go_enter Try.func7, Try.ntmps7
    go_wp2_with fail
    refine (newReader_any A n c l w HN.out hr hsz).mono ?_
    rintro e w1 ⟨g, rfl, hg, hrd, hb1⟩
    go_wp2_with fail
    refine (alive_any w1).mono ?_
    rintro e w2 ⟨rfl, hb2⟩
    go_wp2_with fail
    go_ret
    exact ⟨rfl, below_all hb1 hb2⟩
  by_cases h2 : 300 < n2 + n3
  · go_enter Try.func7, Try.ntmps7
    go_wp2_with fail
    refine (newReader_any A n c l w HN.out hr hsz).mono ?_
    rintro e w1 ⟨g, rfl, hg, hrd, hb1⟩
    go_wp2_with fail
    refine (alive_any w1).mono ?_
    rintro e w2 ⟨rfl, hb2⟩
    go_wp2_with fail
    go_ret
    exact ⟨rfl, below_all hb1 hb2⟩
  go_enter Try.func7, Try.ntmps7
  go_wp2_with fail
  refine (newReader_any A n c l w HN.out hr hsz).mono ?_
  rintro e w1 ⟨g, rfl, hg, hrd, hb1⟩
  go_wp2_with fail
  go_loopw [38] (fun i wr => ∃ (k : Nat) (l' : List UInt8) (e' : Int), k ≤ n2 ∧ i = .int .i64 k ∧ Rd wr g l' e' ∧ Below w.heap.size w wr) (fun i _ => n2 - (intOf i).toNat)
  case atStart => exact ⟨0, l, 0, Nat.zero_le _, rfl, hrd, hb1⟩
  case round =>
    obtain ⟨k, l1, e1, hk, rfl, hrd1, hbel⟩ := hrel
    by_cases hlt : k < n2
    · have hkl : k < ps.length := by rw [HN2.out]; exact hlt
      obtain ⟨g2, o2, rfl, hg2, p1, p2, p3, p4⟩ := (hr2.below hbel).part hkl
      obtain ⟨pp, hpp⟩ : ∃ pp, pp = ps[k] := ⟨_, rfl⟩
      rw [← hpp] at p1 p2 p3 p4
      clear hpp
      go_wp2_with fail
      refine (read_any g l1 e1 pp.k pp.wd pp.n pp.s _ (hrd1.alloc _)).mono ?_
      rintro e w2 ⟨rfl, hrd2, hon2⟩
      go_wp2_with fail
      go_roundw
      case rel => exact ⟨k + 1, _, _, by omega, by go_num, hrd2, only_below (hbel.alloc hbel.size _) hg hon2⟩
      case measure => simp [intOf]; omega
    · obtain rfl : k = n2 := by omega
      go_wp2_with fail
      refine (err_any g l1 e1 wr hrd1).mono ?_
      rintro e w' ⟨rfl, rfl⟩
      by_cases he : e1 = 0
      · subst he
        go_wp2_with fail
        refine (alive_any wr).mono ?_
        rintro e w2 ⟨rfl, hb2⟩
        go_wp2_with fail
        go_ret
        exact ⟨rfl, below_all hbel hb2⟩
      · have he1 : (e1 == 0) = false := by simpa using he
        have hend : endOf l1 e1 = e1 := by unfold endOf; rw [if_neg (fun h => he h.1)]
        have HEND := Lib.hid hend
        have HE := Lib.hid he
        clear hend he
        go_wp2_with fail
        obtain ⟨wo, rfl⟩ : ∃ wo : World, wo = wr := ⟨_, rfl⟩
        go_loopw [53] (fun i wr => ∃ k : Nat, k ≤ n3 ∧ i = .int .i64 k ∧ Rd wr g l1 e1 ∧ Below w.heap.size w wr) (fun i _ => n3 - (intOf i).toNat)
        case atStart => exact ⟨0, Nat.zero_le _, rfl, hrd1, hbel⟩
        case round =>
          obtain ⟨k3, hk3, rfl, hrd3, hbel3⟩ := hrel
          by_cases hlt3 : k3 < n3
          · have hkl3 : k3 < qs.length := by rw [HN3.out]; exact hlt3
            obtain ⟨g4, o4, rfl, hg4, p1, p2, p3, p4⟩ := (hr3.below hbel3).part hkl3
            obtain ⟨pp, hpp⟩ : ∃ pp, pp = qs[k3] := ⟨_, rfl⟩
            rw [← hpp] at p1 p2 p3 p4
            clear hpp
            go_wp2_with fail
            refine (read_any g l1 e1 pp.k pp.wd pp.n pp.s _ (hrd3.alloc _)).mono ?_
            rintro e w2 ⟨rfl, hrd2, hon2⟩
            rw [rp_err _ _ _ _ _ HE.out] at hrd2 ⊢
            have hb2 := only_below (hbel3.alloc hbel3.size _) hg hon2
            go_wp2_with fail
            refine (err_any g l1 e1 _ (hrd2.alloc _)).mono ?_
            rintro e w' ⟨rfl, rfl⟩
            go_wp2_with fail
            refine (end_any g l1 e1 _ (hrd2.alloc _)).mono ?_
            rintro e w' ⟨rfl, rfl⟩
            rw [HEND.out]
            go_wp2_with fail
            go_roundw
            case rel => exact ⟨k3 + 1, by omega, by go_num, hrd2.alloc _, hb2.alloc hb2.size _⟩
            case measure => simp [intOf]; omega
          · obtain rfl : k3 = n3 := by omega
            go_wp2_with fail
            refine (alive_any wr).mono ?_
            rintro e w2 ⟨rfl, hb2⟩
            go_wp2_with fail
            go_ret
            exact ⟨rfl, below_all hbel3 hb2⟩
end Go.Proofs.Ytijogfjihnbmeaa
