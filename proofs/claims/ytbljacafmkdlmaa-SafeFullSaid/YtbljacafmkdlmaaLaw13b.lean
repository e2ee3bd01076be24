/- The law SafeFull. Condition: the lengths fit memory. -/
import Derived.Test.YtbljacafmkdlmaaAl13
namespace Go.Proofs.Ytbljacafmkdlmaa
set_option maxRecDepth 100000
open Go.RowKit
set_option linter.unusedSimpArgs false
set_option linter.unusedVariables false

theorem cop_room (s : St) (r : Int) (k : Nat) : cop (doR s r) k = cop s k := rfl
theorem mark_room (s : St) (r : Int) (k : Nat) : markB (doR s r) k = markB s k := rfl
theorem newest_room (s : St) (r : Int) : newestP (doR s r) = newestP s := rfl
theorem doW_sect {s : St} {a x : Int} {b : List UInt8} (hb : b.length = 16) (hx : x ≠ a) : sect (doW s a b).1.l x = sect s.l x := by
  unfold doW
  split
  · rfl
  split
  · rfl
  split
  · rfl
  · unfold sect
    simp only
    rw [lastW_chs, if_neg (by omega)]
theorem doW_n (s : St) (a : Int) (b : List UInt8) : (doW s a b).1.n = s.n := by
  unfold doW
  (repeat' split) <;> rfl
/-- Calls that write other sectors leave one as it is. -/
theorem exec_sect (x : Int) : ∀ (l : List SOp) (s : St), (∀ a b, SOp.write a b ∈ l → b.length = 16 ∧ x ≠ a) → sect (exec l s).1.l x = sect s.l x
  | [], _, _ => rfl
  | o :: l, s, h => by
    have h1 : sect (doS s o).1.l x = sect s.l x := by
      cases o with
      | flush => rfl
      | write a b =>
        obtain ⟨h2, h3⟩ := h a b (List.mem_cons_self ..)
        exact doW_sect h2 h3
    unfold exec
    split
    · rw [exec_sect x l _ (fun a b hm => h a b (List.mem_cons_of_mem _ hm)), h1]
    · exact h1
theorem dataOps_mem {a : Int} {b : List UInt8} {x : Int} {y : List UInt8} : ∀ {j : Nat}, SOp.write x y ∈ dataOps a b j → y.length = 16 ∧ a ≤ x
  | 0, h => by cases h
  | j + 1, h => by
    unfold dataOps at h
    rcases List.mem_append.1 h with h | h
    · exact dataOps_mem h
    · rw [List.mem_singleton] at h
      injection h with h1 h2
      exact ⟨by rw [h2]; exact pad16_length _, by omega⟩
theorem save_mark (s : St) (b : List UInt8) (k g : Nat) (hk : k < 2) : sect (exec (opsOf s.n k g b) s).1.l ((1 - k : Nat) : Int) = sect s.l ((1 - k : Nat) : Int) := by
  refine exec_sect _ _ _ fun a y hm => ?_
  unfold opsOf at hm
  rcases List.mem_append.1 hm with hm | hm
  · obtain ⟨h1, h2⟩ := dataOps_mem hm
    exact ⟨h1, by omega⟩
  · simp only [List.mem_cons, List.not_mem_nil, or_false, reduceCtorEq, false_or] at hm
    injection hm with h1 h2
    exact ⟨by rw [h2, sealed_length, markX_length], by omega⟩

theorem full_facts (a b : List UInt8) (room : Int) (ha : a.length ≤ 144) : ∃ s1 s3 er, saveP ⟨20, 1000, [], 0⟩ a = (s1, 0) ∧ s1.OK ∧ s1.l.length ≤ 8400896 ∧ saveP (doR s1 room) b = (s3, er) ∧
    ((er = 0 ∧ loadP s3 = (b, 2, 0)) ∨ (¬ er = 0 ∧ (er = 30 ∨ (er = 1 ∧ 144 < b.length)) ∧ loadP s3 = (a, 1, 0))) := by
  have h0 : St.OK ⟨20, 1000, [], 0⟩ := St.OK.new (by omega) (by omega) (by omega)
  have ha9 : areaN 20 = 9 := by decide
  have hnw := newest_new 20 1000 (by omega)
  have hko : kOf ⟨20, 1000, [], 0⟩ = 0 := by unfold kOf; rw [hnw]; rfl
  obtain ⟨k1, k2, k3, k4, k5⟩ := saveP_told h0 a (by decide) (by rw [ha9]; omega) (by rw [hnw]; decide) (by decide)
  have hk := saveP_ok h0 a
  have hl := saveP_len h0 a
  have hbg : beginP ⟨20, 1000, [], 0⟩ a = (opsOf 20 0 1 a, 0) := by
    unfold beginP
    rw [if_neg (by rw [ha9]; omega), hnw, if_neg (by decide), hko]
  have hex : saveP ⟨20, 1000, [], 0⟩ a = exec (opsOf 20 0 1 a) ⟨20, 1000, [], 0⟩ := by unfold saveP; rw [hbg]; rfl
  have hm1 := save_mark ⟨20, 1000, [], 0⟩ a 0 1 (by omega)
  have hrun := save_run h0 a 0 1 (by omega) (by decide) (by rw [ha9]; omega) (by omega)
  simp only at hm1 hrun
  rw [← hex] at hm1 hrun
  obtain ⟨_, _, _, _, hr5, hr6, _⟩ := hrun
  obtain ⟨⟨s1, e1⟩, hs1⟩ : ∃ r, r = saveP ⟨20, 1000, [], 0⟩ a := ⟨_, rfl⟩
  rw [← hs1] at k1 k2 k3 k4 k5 hk hl hm1 hr5 hr6
  simp only at k1 k2 k3 k4 k5 hk hl hm1 hr5 hr6
  have hc0 : cop s1 0 = (a, 1) := hr6 k1
  have hmk1 : opened (markB s1 1) = none := by
    rw [markB_in (show ((1 : Nat) : Int) < s1.n by rw [k2]; decide)]
    have : sect s1.l ((1 : Nat) : Int) = z16 := hm1
    rw [this]
    decide
  have hc1 : cop s1 1 = ([], 0) := by unfold cop; rw [hmk1]
  have hn1 : newestP s1 = (0, a, 1) := newest_of (k := 0) (by omega) hc0 (by show (cop s1 1).2 < 1; rw [hc1]; decide)
  have hR : (doR s1 room).OK := hk.roomed room
  have hRn : (doR s1 room).n = 20 := k2
  have hsv : saveP (doR s1 room) b = if (beginP (doR s1 room) b).2 = 0 then exec (beginP (doR s1 room) b).1 (doR s1 room) else (doR s1 room, (beginP (doR s1 room) b).2) := rfl
  obtain ⟨⟨s3, er⟩, hs3⟩ : ∃ r, r = saveP (doR s1 room) b := ⟨_, rfl⟩
  refine ⟨s1, s3, er, by rw [← hs1, k1], hk, by simpa using hl, hs3.symm, ?_⟩
  by_cases hb : 144 < b.length
  · have hbb : beginP (doR s1 room) b = ([], 1) := by
      unfold beginP
      rw [hRn, if_pos (by rw [ha9]; omega)]
    rw [hbb, if_neg (by decide), ← hs3] at hsv
    injection hsv with e3 e4
    subst e3 e4
    refine .inr ⟨by decide, .inr ⟨rfl, hb⟩, ?_⟩
    exact loadP_of (k := 0) (by rw [newest_room]; exact hn1)
  · have hkk : kOf (doR s1 room) = 1 := by unfold kOf; rw [newest_room, hn1]; rfl
    have hbb : beginP (doR s1 room) b = (opsOf (doR s1 room).n 1 2 b, 0) := by
      unfold beginP
      rw [hRn, if_neg (by rw [ha9]; omega), newest_room, hn1, if_neg (show ¬ 1073741824 ≤ 1 by decide), hkk]
    rw [hbb, if_pos rfl] at hsv
    obtain ⟨_, _, q3, _, q5, q6, q7⟩ := save_run hR b 1 2 (by omega) (by rw [hRn]; omega) (by rw [hRn, ha9]; omega) (by omega)
    simp only at hsv
    rw [← hsv, ← hs3] at q3 q5 q6 q7
    simp only at q3 q5 q6 q7
    by_cases he : er = 0
    · refine .inl ⟨he, loadP_of (k := 1) (newest_of (by omega) (q6 he) ?_)⟩
      show (cop s3 0).2 < 2
      have : cop s3 0 = cop (doR s1 room) 0 := q5
      rw [this, cop_room, hc0]
      exact (by decide : (1 : Nat) < 2)
    · refine .inr ⟨he, .inl (by omega), loadP_of (k := 0) (newest_of (k := 0) (by omega) (by rw [show cop s3 0 = cop (doR s1 room) 0 from q5, cop_room]; exact hc0) ?_)⟩
      show (cop s3 1).2 < 1
      have : cop s3 1 = ([], 0) := by
        unfold cop
        rw [q7 he, mark_room, hmk1]
      rw [this]
      decide

set_option maxHeartbeats 4000000 in
theorem full_law (A : Option Addr) (na ca : Nat) (a : List UInt8) (Bb : Option Addr) (nb cb : Nat) (b : List UInt8) (room : Int) (w : World) (hna : a.length = na) (hra : Row w A (bv a)) (hac : na ≤ ca) (ha47 : na ≤ 140737488355328) (hnb : b.length = nb) (hrb : Row w Bb (bv b)) (hbc : nb ≤ cb) (hb47 : nb ≤ 140737488355328) :
    Calls Try.prog 8 #[.slice A na ca, .slice Bb nb cb, .int .i64 room] w fun e w' => e = .returned (.bool true) ∧ Below w.heap.size w w' := by
  have hmo := fun u => most_any 20 u (by omega) (by omega)
  rw [show (16 * areaN 20 : Nat) = 144 by decide] at hmo
  have HMO := Lib.hid hmo
  have HNA := Lib.hid hna
  have HNB := Lib.hid hnb
  clear hmo hna hnb
  go_enter Try.func8, Try.ntmps8
  go_wp2_with fail
  refine (new_yes 20 1000 w (by omega)).mono ?_
  rintro e w1 ⟨f, rfl, hs1, hb1⟩
  go_wp2_with fail
  refine (HMO.out _).mono ?_
  rintro e w2 ⟨rfl, rfl⟩
  by_cases hla : 144 < na
  · go_wp2_with fail
    refine (alive_any _).mono ?_
    rintro e w3 ⟨rfl, hb3⟩
    go_wp2_with fail
    go_ret
    exact ⟨rfl, below_all hb1 hb3⟩
  by_cases hlb : 1000 < nb
  · have hla1 : decide (144 < (na : Int)) = false := decide_eq_false (by omega)
    have hla2 : decide (144 < na) = false := decide_eq_false hla
    clear hla
    go_wp2_with fail
    refine (alive_any _).mono ?_
    rintro e w3 ⟨rfl, hb3⟩
    go_wp2_with fail
    go_ret
    exact ⟨rfl, below_all hb1 hb3⟩
  obtain ⟨s1, s3, er, q1, hok1, hl1, q2, q3⟩ := full_facts a b room (by rw [HNA.out]; omega)
  have hsv := save_any w.heap.size f _ w2 hs1 A na ca a HNA.out hac (hra.below hb1) ha47 (by simp)
  rw [q1] at hsv
  have Q2 := Lib.hid q2
  have Q3 := Lib.hid q3
  have hlb3 : nb ≤ 1000 := by omega
  have HLB3 := Lib.hid hlb3
  have hla1 : decide (144 < (na : Int)) = false := decide_eq_false (by omega)
  have hla2 : decide (144 < na) = false := decide_eq_false hla
  have hlb1 : decide (1000 < (nb : Int)) = false := decide_eq_false (by omega)
  have hlb2 : decide (1000 < nb) = false := decide_eq_false hlb
  clear hla hlb q1 q2 q3 hlb3
  go_wp2_with fail
  refine hsv.mono ?_
  rintro e w3 ⟨f3, rfl, hs3, ht3⟩
  simp only at hs3
  have hb03 := hb1.trans (ht3.belowB hs1)
  have hf3 : f3.g = f.g := ht3.same
  have hrm := room_any w.heap.size f3 s1 w3 hs3 room
  rw [hf3] at hrm
  clear hsv hs1 hb1 ht3 hla1 hla2 hlb1 hlb2
  go_wp2_with fail
  refine hrm.mono ?_
  rintro e w4 ⟨rfl, hs4, ht4⟩
  have hb04 := hb03.trans (ht4.belowB hs3)
  have hra4 := hra.below hb04
  have hrb4 := hrb.below hb04
  have hsv2 := save_any w.heap.size f3 (doR s1 room) w4 hs4 Bb nb cb b HNB.out hbc hrb4 hb47 (by show s1.l.length ≤ _; omega)
  rw [Q2.out, hf3] at hsv2
  clear hrm hs3 hb03 ht4 hra4 hrb4
  go_wp2_with fail
  refine hsv2.mono ?_
  rintro e w5 ⟨f5, rfl, hs5, ht5⟩
  simp only at hs5
  have hb05 := hb04.trans (ht5.belowB hs4)
  have hf5 : f5.g = f.g := ht5.same.trans hf3
  have hld := load_any w.heap.size f5 s3 w5 hs5
  rw [hf5] at hld
  clear hsv2 hs4 hb04 ht5 hf3
  rcases Q3.out with ⟨rfl, hq⟩ | ⟨her, her2, hq⟩
  · rw [hq] at hld
    clear hq
    go_wp2_with fail
    refine hld.mono ?_
    rintro e w6 ⟨A6, m6, c6, rfl, hm6, _, hx6, hb6⟩
    have hb06 := below_all hb05 hb6
    obtain rfl : m6 = nb := by rw [← hm6]; exact HNB.out
    clear hld hs5 hb05 hb6 hf5 hm6
    go_wp2_with fail
    refine (alive_any _).mono ?_
    rintro e w7 ⟨rfl, hb7⟩
    have hb07 := below_all hb06 hb7
    have hst1 := run_string (P := Try.prog) HNB.out 23 9 5 (c := c6) Try.underlying23 Try.underlying5 Try.underlying9 (hx6.below hb7)
    have hst2 := run_string (P := Try.prog) HNB.out 23 9 5 (c := cb) Try.underlying23 Try.underlying5 Try.underlying9 (hrb.below hb07)
    clear hb06 hb7 hx6
    go_wp2_with fail
    go_ret
    exact ⟨rfl, hb07⟩
  · rw [hq] at hld
    clear hq
    go_wp2_with fail
    refine hld.mono ?_
    rintro e w6 ⟨A6, m6, c6, rfl, hm6, _, hx6, hb6⟩
    have hb06 := below_all hb05 hb6
    obtain rfl : m6 = na := by rw [← hm6]; exact HNA.out
    clear hld hs5 hb05 hb6 hf5 hm6
    rcases her2 with rfl | ⟨rfl, h144⟩
    · clear her
      go_wp2_with fail
      refine (alive_any _).mono ?_
      rintro e w7 ⟨rfl, hb7⟩
      have hb07 := below_all hb06 hb7
      have hst1 := run_string (P := Try.prog) HNA.out 23 9 5 (c := c6) Try.underlying23 Try.underlying5 Try.underlying9 (hx6.below hb7)
      have hst2 := run_string (P := Try.prog) HNA.out 23 9 5 (c := ca) Try.underlying23 Try.underlying5 Try.underlying9 (hra.below hb07)
      clear hb06 hb7 hx6
      go_wp2_with fail
      go_ret
      exact ⟨rfl, hb07⟩
    · have h145 : decide (144 < nb) = true := decide_eq_true (by rw [← HNB.out]; exact h144)
      have h146 : decide ((144 : Int) < (nb : Int)) = true := decide_eq_true (by have := HNB.out; omega)
      clear her h144
      go_wp2_with fail
      refine (alive_any _).mono ?_
      rintro e w7 ⟨rfl, hb7⟩
      have hb07 := below_all hb06 hb7
      have hst1 := run_string (P := Try.prog) HNA.out 23 9 5 (c := c6) Try.underlying23 Try.underlying5 Try.underlying9 (hx6.below hb7)
      have hst2 := run_string (P := Try.prog) HNA.out 23 9 5 (c := ca) Try.underlying23 Try.underlying5 Try.underlying9 (hra.below hb07)
      clear hb06 hb7 hx6
      go_wp2_with fail
      refine (HMO.out _).mono ?_
      rintro e w8 ⟨rfl, rfl⟩
      go_wp2_with fail
      go_ret
      exact ⟨rfl, hb07⟩
end Go.Proofs.Ytbljacafmkdlmaa
