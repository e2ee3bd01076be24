/- The law OctetsCut. Conditions: the texts' lengths together fit memory. -/
import Derived.Test.YtijogfjihnbmeaaLaw01g
namespace Go.Proofs.Ytijogfjihnbmeaa
open Go.RowKit

theorem tk_err (l : List UInt8) (e n : Int) (b : Bool) (he : e ≠ 0) : tk l e n b = (l, e, []) := by unfold tk; rw [if_pos he]

/-- Of what was written, cut, a part is read, or it is short. -/
theorem cut_step {p : Pt} (h : p.ok = true) (rest : List UInt8) (m : Nat) (hm : m < (p.bs ++ rest).length) :
    (rp ((p.bs ++ rest).take m) 0 p.k p.wd 0).2.1 = 10 ∨ ∃ m', m' < rest.length ∧ (rp ((p.bs ++ rest).take m) 0 p.k p.wd 0).1 = rest.take m' ∧ (rp ((p.bs ++ rest).take m) 0 p.k p.wd 0).2.1 = 0 := by
  by_cases hlen : p.bs.length ≤ m
  · right
    have e1 : (p.bs ++ rest).take m = p.bs ++ rest.take (m - p.bs.length) := by rw [List.take_append, List.take_of_length_le hlen]
    have hm2 : m - p.bs.length < rest.length := by rw [List.length_append] at hm; omega
    rw [e1]
    by_cases h0 : p.k = 0
    · rw [back_zero h h0]
      exact ⟨_, hm2, rfl, rfl⟩
    by_cases h1 : p.k = 1
    · rw [back_one h h1]
      exact ⟨_, hm2, rfl, rfl⟩
    · rw [back_else h0 h1]
      exact ⟨_, hm2, rfl, rfl⟩
  · left
    have e1 : (p.bs ++ rest).take m = p.bs.take m := by rw [List.take_append, show m - p.bs.length = 0 by omega]; simp
    rw [e1]
    by_cases h0 : p.k = 0
    · obtain ⟨W, n, hW, _, hw, _, hb⟩ := ok_zero h h0
      have hl : (p.bs.take m).length < W := by
        rw [hb, be_length] at hlen
        rw [List.length_take]
        omega
      unfold rp
      rw [if_pos h0, hW, nm_short _ W hw hl]
    by_cases h1 : p.k = 1
    · obtain ⟨W, hW, hw, hl1, hb⟩ := ok_one h h1
      unfold rp
      rw [if_neg h0, if_pos h1, hW]
      unfold tx
      by_cases hmW : m < W
      · have hl : (p.bs.take m).length < W := by rw [List.length_take]; omega
        rw [nm_short _ W hw hl]
        simp only
        rw [tk_err _ _ _ _ (by decide)]
      · have e2 : p.bs.take m = be W p.t.length ++ p.t.take (m - W) := by rw [hb, List.take_append, be_length, List.take_of_length_le (by rw [be_length]; omega)]
        rw [e2, nm_put W p.t.length _ hw hl1]
        simp only
        rw [hb, List.length_append, be_length] at hlen
        unfold tk
        rw [if_neg (by simp), if_neg (by simp), if_pos (by rw [List.length_take]; omega)]
    · rw [bs_else h0 h1] at hlen
      simp at hlen

set_option maxHeartbeats 8000000 in
theorem cut_law (A : Option Addr) (n c : Nat) (x : Int) (ps : List Pt) (w : World) (hn : ps.length = n) (hr : Row w A (pcells ps)) (hsz : n ≤ 140737488355328) (hW : totW ps ≤ 100000000) :
    Calls Try.prog 6 #[.slice A n c, .int .i64 x] w fun e w' => e = .returned (.bool true) ∧ Below w.heap.size w w' := by
  have HN := Lib.hid hn
  have hlen := outB_len ps
  clear hn
  cases hall : okAll ps
  · have HA := Lib.hid hall
    clear hall
    go_enter Try.func6, Try.ntmps6
    go_wp2_with fail
    refine (write_any A n c ps w HN.out hr hsz hW).mono ?_
    rw [HA.out]
    rintro e w1 ⟨A1, n1, c1, rfl, hl1, hown1, hb1⟩
    go_wp2_with fail
    refine (alive_any w1).mono ?_
    rintro e w2 ⟨rfl, hb2⟩
    go_wp2_with fail
    go_ret
    exact ⟨rfl, below_all hb1 hb2⟩
  · have HA := Lib.hid hall
    clear hall
    go_enter Try.func6, Try.ntmps6
    go_wp2_with fail
    refine (write_any A n c ps w HN.out hr hsz hW).mono ?_
    rw [HA.out]
    rintro e w1 ⟨A1, n1, c1, rfl, hl1, hown1, hb1⟩
    have hr1 := hr.below hb1
    go_wp2_with fail
    refine (few_any A n c ps w1 HN.out hr1 hsz hW).mono ?_
    rintro e w2 ⟨bf, rfl, hb2⟩
    have hb02 := below_all hb1 hb2
    cases bf
    · go_wp2_with fail
      refine (alive_any w2).mono ?_
      rintro e w3 ⟨rfl, hb3⟩
      go_wp2_with fail
      go_ret
      exact ⟨rfl, below_all hb02 hb3⟩
    by_cases hx0 : x < 0
    · go_wp2_with fail
      refine (alive_any w2).mono ?_
      rintro e w3 ⟨rfl, hb3⟩
      go_wp2_with fail
      go_ret
      exact ⟨rfl, below_all hb02 hb3⟩
    by_cases hx1 : (n1 : Int) ≤ x
    · go_wp2_with fail
      refine (alive_any w2).mono ?_
      rintro e w3 ⟨rfl, hb3⟩
      go_wp2_with fail
      go_ret
      exact ⟨rfl, below_all hb02 hb3⟩
    obtain ⟨m, rfl⟩ := Int.eq_ofNat_of_zero_le (show 0 ≤ x by omega)
    have hown2 := hown1.below hb2
    have hmn : m < n1 := by omega
    have hnc : n1 ≤ c1 := hown2.2.1
    have hmc : (m : Int) ≤ (c1 : Int) := by omega
    have hn1 : n1 ≤ 100000000 := by omega
    have hrow := hown2.row.take m
    rw [bv_take] at hrow
    have hlm : ((outB ps).take m).length = m := by rw [List.length_take, hl1]; omega
    have HLM := Lib.hid hlm
    have HL1 := Lib.hid hl1
    clear hl1 hlen hlm
    go_wp2_with fail
    refine (newReader_any A1 m c1 ((outB ps).take m) w2 HLM.out hrow (by omega)).mono ?_
    rintro e w4 ⟨g, rfl, hg, hrd4, hb4⟩
    have hb04 := below_all hb02 hb4
    have hgw : w.heap.size ≤ g := Nat.le_trans hb02.size hg
    have hst : ∃ (l1 : List UInt8) (e1 : Int), Rd w4 g l1 e1 ∧ (e1 = 10 ∨ (e1 = 0 ∧ ∃ m', m' < (outB (ps.drop 0)).length ∧ l1 = (outB (ps.drop 0)).take m')) := ⟨_, _, hrd4, .inr ⟨rfl, m, by rw [List.drop_zero, HL1.out]; exact hmn, by rw [List.drop_zero]⟩⟩
    have HST := Lib.hid hst
    clear hst hrd4 hrow hown1 hown2
    go_wp2_with fail
    go_loopw [41] (fun i wr => ∃ k : Nat, k ≤ n ∧ i = .int .i64 k ∧ Hid (∃ (l1 : List UInt8) (e1 : Int), Rd wr g l1 e1 ∧ (e1 = 10 ∨ (e1 = 0 ∧ ∃ m', m' < (outB (ps.drop k)).length ∧ l1 = (outB (ps.drop k)).take m'))) ∧ Below w.heap.size w wr) (fun i _ => n - (intOf i).toNat)
    case atStart => exact ⟨0, Nat.zero_le _, rfl, HST, hb04⟩
    case round =>
      obtain ⟨k, hk, rfl, hst, hb⟩ := hrel
      by_cases hlt : k < n
      · have hkl : k < ps.length := by rw [HN.out]; exact hlt
        obtain ⟨g2, o2, rfl, hg2, p1, p2, p3, p4⟩ := (hr.below hb).part hkl
        have hok := okAll_get HA.out hkl
        have hdr := outB_drop hkl
        rw [out_ok hok] at hdr
        obtain ⟨l1, e1, hrd, hcase⟩ := hst.out
        rw [hdr] at hcase
        have hnext : (rp l1 e1 ps[k].k ps[k].wd 0).2.1 = 10 ∨ ((rp l1 e1 ps[k].k ps[k].wd 0).2.1 = 0 ∧ ∃ m', m' < (outB (ps.drop (k + 1))).length ∧ (rp l1 e1 ps[k].k ps[k].wd 0).1 = (outB (ps.drop (k + 1))).take m') := by
          rcases hcase with h10 | ⟨h0, m', hm', hl'⟩
          · left
            rw [rp_err _ _ _ _ _ (by rw [h10]; decide)]
            exact h10
          · subst h0
            rw [hl']
            rcases cut_step hok (outB (ps.drop (k + 1))) m' hm' with h | ⟨m2, h1, h2, h3⟩
            · exact .inl h
            · exact .inr ⟨h3, m2, h1, h2⟩
        have hR := fun (u : World) (hu : Rd u g l1 e1) => read_any g l1 e1 ps[k].k ps[k].wd 0 ByteArray.empty u hu
        obtain ⟨p, hp⟩ : ∃ p, p = ps[k] := ⟨_, rfl⟩
        rw [← hp] at p1 p2 p3 p4 hnext hR
        have HNEXT := Lib.hid hnext
        have HR := Lib.hid hR
        clear hp hcase hdr hok hst hnext hR
        have hba := hb.alloc hb.size (.cells #[.int .i64 p.k, .int .i64 p.wd, .int .i64 p.n, .string p.s] 40)
        go_wp2_with fail
        refine (HR.out _ (hrd.alloc _)).mono ?_
        rintro e w5 ⟨rfl, hrd5, hon5⟩
        have hb5 := only_below hba hgw hon5
        go_wp2_with fail
        go_roundw
        case rel => exact ⟨k + 1, by omega, by go_num, Lib.hid ⟨_, _, hrd5, HNEXT.out⟩, hb5⟩
        case measure => simp [intOf]; omega
      · obtain rfl : k = n := by omega
        have hd0 : ps.drop k = [] := List.drop_eq_nil_of_le (by rw [HN.out]; exact Nat.le_refl _)
        obtain ⟨l1, e1, hrd, hcase⟩ := hst.out
        rw [hd0] at hcase
        obtain rfl : e1 = 10 := by
          rcases hcase with h | ⟨_, m', hm', _⟩
          · exact h
          · simp [outB] at hm'
        clear hcase hd0 hst
        go_wp2_with fail
        refine (alive_any wr).mono ?_
        rintro e w6 ⟨rfl, hb6⟩
        go_wp2_with fail
        refine (err_any g l1 10 w6 (hrd.only hb6)).mono ?_
        rintro e w7 ⟨rfl, rfl⟩
        go_wp2_with fail
        go_ret
        exact ⟨rfl, below_all hb hb6⟩
end Go.Proofs.Ytijogfjihnbmeaa
