/- Saving, as data, again; pentimentolaw13.alive. Conditions: where a bound is named. -/
import Derived.Test.YtbljacafmkdlmaaSvD
import Derived.Lib.SlBytesConst
namespace Go.Proofs.Ytbljacafmkdlmaa
set_option maxRecDepth 100000
open Go.RowKit
set_option linter.unusedSimpArgs false
set_option linter.unusedVariables false

theorem exec_len {s : St} (h : s.OK) (l : List SOp) : (exec l s).1.l.length ≤ s.l.length + 4096 * l.length := by
  induction l generalizing s with
  | nil => exact Nat.le_add_right _ _
  | cons o l ih =>
    have h1 := doS_len h o
    have h2 := ih (doS_ok h o)
    unfold exec
    rw [List.length_cons]
    split
    · omega
    · simp only; omega
theorem ops_len {s : St} (h : s.OK) (b : List UInt8) : (beginP s b).1.length ≤ 2051 := by
  unfold beginP
  split
  · exact Nat.zero_le _
  split
  · exact Nat.zero_le _
  · rename_i h1 _
    have h2 := h.n1
    have h3 : areaN s.n ≤ 2047 := by unfold areaN; omega
    unfold opsOf
    rw [List.length_append, dataOps_length]
    simp only [List.length_cons, List.length_nil]
    unfold nch
    omega
theorem saveP_len {s : St} (h : s.OK) (b : List UInt8) : (saveP s b).1.l.length ≤ s.l.length + 8400896 := by
  have h1 := exec_len h (beginP s b).1
  have h2 := ops_len h b
  unfold saveP
  split
  · omega
  · simp only; omega
theorem saveP_ok {s : St} (h : s.OK) (b : List UInt8) : (saveP s b).1.OK := by
  unfold saveP
  split
  · exact exec_ok h _
  · exact h
/-- Saving where there is room. -/
theorem saveP_told {s : St} (hs : s.OK) (b : List UInt8) (hn : 2 ≤ s.n) (hb : b.length ≤ 16 * areaN s.n) (hg : (newestP s).2.2 < 1073741824) (hr : s.n ≤ s.room) :
    (saveP s b).2 = 0 ∧ (saveP s b).1.n = s.n ∧ (saveP s b).1.room = s.room ∧ loadP (saveP s b).1 = (b, (newestP s).2.2 + 1, 0) ∧ (newestP (saveP s b).1).2.2 = (newestP s).2.2 + 1 := by
  obtain ⟨h1, h2, h3, h4, h5, h6⟩ := save_told hs b hn hb hg
  have h7 := h5 hr
  obtain ⟨h8, h9⟩ := h6 h7
  have e : saveP s b = exec (beginP s b).1 s := by unfold saveP; rw [if_pos h3]
  rw [e]
  exact ⟨h7, h1, h2, h8, by rw [h9]⟩
theorem load_new (n room : Int) (h : 2 ≤ n) : loadP ⟨n, room, [], 0⟩ = ([], 0, 130) := by
  unfold loadP
  rw [newest_new n room h]
  rfl
theorem St.OK.new {n room : Int} (h0 : 0 ≤ n) (h1 : n ≤ 4096) (h2 : 0 ≤ room) : St.OK ⟨n, room, [], 0⟩ := ⟨h0, h1, h2, Nat.le_refl _, fun w hw => by cases hw⟩

theorem row_marks {w : World} {cs : Array Value} {e : TypeId} {lh : Nat × Nat} : Row (w.alloc (.cells cs e lh)) (some ⟨w.heap.size, 0, none⟩) cs.toList :=
  .inr ⟨_, 0, rfl, fun j u hu => by rw [cell_of_row _ _ _ cs e lh (heap_alloc_new w _), Nat.zero_add]; simpa using hu⟩
theorem alive_facts : ∃ s1 s2 : St, saveP ⟨6, 100, [], 0⟩ [120] = (s1, 0) ∧ saveP s1 [121, 122] = (s2, 0) ∧ loadP s2 = ([121, 122], 2, 0) ∧ s1.OK ∧ s1.l.length ≤ 8400896 := by
  have h0 : St.OK ⟨6, 100, [], 0⟩ := St.OK.new (by omega) (by omega) (by omega)
  have ha : areaN 6 = 2 := by decide
  have hnw := newest_new 6 100 (by omega)
  obtain ⟨k1, k2, k3, k4, k5⟩ := saveP_told h0 [120] (by decide) (by rw [ha]; decide) (by rw [hnw]; decide) (by decide)
  have hk := saveP_ok h0 [120]
  have hl := saveP_len h0 [120]
  obtain ⟨⟨s1, e1⟩, hs1⟩ : ∃ r, r = saveP ⟨6, 100, [], 0⟩ [120] := ⟨_, rfl⟩
  rw [← hs1] at k1 k2 k3 k4 k5 hk hl
  simp only at k1 k2 k3 k4 k5 hk hl
  rw [hnw] at k5
  simp only at k5
  obtain ⟨m1, m2, m3, m4, m5⟩ := saveP_told hk [121, 122] (by rw [k2]; omega) (by rw [k2, ha]; decide) (by rw [k5]; decide) (by rw [k2, k3]; omega)
  obtain ⟨⟨s2, e2⟩, hs2⟩ : ∃ r, r = saveP s1 [121, 122] := ⟨_, rfl⟩
  rw [← hs2] at m1 m4
  simp only at m1 m4
  rw [k5] at m4
  exact ⟨s1, s2, by rw [← hs1, k1], by rw [← hs2, m1], m4, hk, by simpa using hl⟩

set_option maxHeartbeats 4000000 in
theorem alive_any (w : World) : Calls Try.prog 10 #[] w fun e w' => e = .returned (.bool true) ∧ Below w.heap.size w w' := by
  obtain ⟨s1, s2, q1, q2, q3, hok1, hl1⟩ := alive_facts
  have q0 := load_new 6 100 (by omega)
  have Q0 := Lib.hid q0
  have Q1 := Lib.hid q1
  have Q2 := Lib.hid q2
  have Q3 := Lib.hid q3
  clear q0 q1 q2 q3
  have kc := fun (w : World) (C : Array Value) (n c : Nat) => Lib.run_convert_bytes_const (P := Try.prog) w 23 5 C n c Try.underlying23 Try.underlying5
  go_enter Try.func10, Try.ntmps10
  go_wp2_with fail
  refine (new_yes 6 100 w (by omega)).mono ?_
  rintro e w1 ⟨f, rfl, hs1, hb1⟩
  have hld := load_any w.heap.size f _ w1 hs1
  rw [Q0.out] at hld
  go_wp2_with fail
  refine hld.mono ?_
  rintro e w2 ⟨A2, m2, c2, rfl, _, _, _, hb2⟩
  have hs2 := hs1.below hb2
  have hb02 := below_all hb1 hb2
  clear hld hs1 hb1 hb2
  have hs3 := hs2.alloc (.cells #[.int .u8 120] 5 (1, 2))
  have hsv := save_any w.heap.size f _ _ hs3 (some ⟨w2.heap.size, 0, none⟩) 1 1 [120] rfl (Nat.le_refl _) row_marks (by omega) (by simp)
  rw [Q1.out] at hsv
  have hb03 := hb02.alloc hb02.size (.cells #[.int .u8 120] 5 (1, 2))
  clear hs2 hb02
  go_wp2_with fail
  refine hsv.mono ?_
  rintro e w4 ⟨f4, rfl, hs4, ht4⟩
  simp only at hs4
  have hb04 := hb03.trans (ht4.belowB hs3)
  have hf4 : f4.g = f.g := ht4.same
  have hs5 := hs4.alloc (.cells #[.int .u8 121, .int .u8 122] 5 (2, 3))
  have hsv2 := save_any w.heap.size f4 s1 _ hs5 (some ⟨w4.heap.size, 0, none⟩) 2 2 [121, 122] rfl (Nat.le_refl _) row_marks (by omega) (by omega)
  rw [Q2.out, hf4] at hsv2
  have hb05 := hb04.alloc hb04.size (.cells #[.int .u8 121, .int .u8 122] 5 (2, 3))
  clear hsv hs3 hb03 ht4 hs4 hb04
  go_wp2_with fail
  refine hsv2.mono ?_
  rintro e w6 ⟨f6, rfl, hs6, ht6⟩
  simp only at hs6
  have hb06 := hb05.trans (ht6.belowB hs5)
  have hf6 : f6.g = f.g := ht6.same.trans hf4
  have hld2 := load_any w.heap.size f6 s2 w6 hs6
  rw [Q3.out, hf6] at hld2
  clear hsv2 hs5 hb05 ht6 hf4
  go_wp2_with fail
  refine hld2.mono ?_
  rintro e w7 ⟨A7, m7, c7, rfl, hm7, _, hx7, hb7⟩
  obtain rfl : m7 = 2 := by simpa using hm7.symm
  have hb07 := below_all hb06 hb7
  have hst := run_string (P := Try.prog) (n := 2) (l := [121, 122]) rfl 23 9 5 (c := c7) Try.underlying23 Try.underlying5 Try.underlying9 hx7
  have hmo := fun u => most_any 6 u (by omega) (by omega)
  rw [show (16 * areaN 6 : Nat) = 32 by decide] at hmo
  clear hld2 hs6 hb06 hf6 hm7 hx7 hb7
  go_wp2_with fail
  refine (hmo _).mono ?_
  rintro e w8 ⟨rfl, rfl⟩
  go_wp2_with fail
  go_ret
  exact ⟨rfl, hb07⟩
end Go.Proofs.Ytbljacafmkdlmaa
