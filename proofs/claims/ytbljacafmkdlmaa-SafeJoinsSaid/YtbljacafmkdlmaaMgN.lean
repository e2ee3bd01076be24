/- Several texts in one: SvD, Al13. -/
import Derived.Test.YtbljacafmkdlmaaSvC
import Derived.Lib.SlBytesConst
/- Saver.Step at any saver; safe.Save. Conditions: a store as one lies in memory; what is loose fits memory. -/
namespace Go.Proofs.Ytbljacafmkdlmaa
set_option maxRecDepth 100000
open Go.RowKit
set_option linter.unusedSimpArgs false
set_option linter.unusedVariables false

theorem doS_len {s : St} (h : s.OK) (o : SOp) : (doS s o).1.l.length ≤ s.l.length + 4096 := by
  cases o with
  | flush => exact Nat.le_add_right _ _
  | write a b =>
    show (doW s a b).1.l.length ≤ _
    unfold doW
    split
    · exact Nat.le_add_right _ _
    split
    · exact Nat.le_add_right _ _
    split
    · exact Nat.le_add_right _ _
    · rename_i h2 _
      have hi : insideB s.n a ((b.length / 16 : Nat) : Int) = true := by simpa using h2
      have h3 := insideB_of hi
      have h4 := h.n1
      simp only [List.length_append, chs_length]
      omega
theorem stepV_len {t : St × List SOp × Int} (h : t.1.OK) : (stepV t).1.l.length ≤ t.1.l.length + 4096 := by
  obtain ⟨s, l, e⟩ := t
  cases l with
  | nil => exact Nat.le_add_right _ _
  | cons o r =>
    have h1 := doS_len h o
    unfold stepV
    simp only
    split <;> exact h1

theorem vstep_any (B : Nat) (f : Fp) (s : St) (gv : Nat) (l : List SOp) (e0 : Int) (w : World) (h : Sto w B f s) (hv : Sv w gv f.g l e0) (hsz : s.l.length + 4096 ≤ 5000000000000) :
    Calls Try.prog 18 #[.pointer (some ⟨gv, 0, none⟩)] w (StepPost w B f gv (s, l, e0)) := by
  cases l with
  | nil => exact step_nil B f s gv e0 w h hv
  | cons o r => exact step_cons B f s gv o r e0 w h hv hsz

/-- A saver's own block, laid behind what was there, turned beside the store's. -/
theorem Turned.step {w w1 w2 : World} {f f1 f2 : Fp} {gv : Nat} (h : Turned w w1 f f1) (hg : w.heap.size ≤ gv) (ho : Only w1 w2 (fun k => Foot f1 k ∨ k = gv)) (hgr : ∀ k, Foot f2 k → Foot f1 k ∨ w1.heap.size ≤ k) (hs : f2.g = f1.g) : Turned w w2 f f2 :=
  ⟨h.only.trans ho (fun i hi hf => by
    rcases hf with hf | hf
    · rcases h.grows i hf with hf | hf
      · exact hf
      · omega
    · omega), fun i hi => by
    rcases hgr i hi with hf | hf
    · exact h.grows i hf
    · exact .inr (Nat.le_trans h.only.size hf), hs.trans h.same⟩

/-- Save: what the store is then, the error. -/
def saveP (s : St) (b : List UInt8) : St × Int := if (beginP s b).2 = 0 then exec (beginP s b).1 s else (s, (beginP s b).2)

set_option maxHeartbeats 4000000 in
theorem save_any (B : Nat) (f : Fp) (s : St) (w : World) (h : Sto w B f s) (Ab : Option Addr) (nb cb : Nat) (b : List UInt8) (hnb : b.length = nb) (hbc : nb ≤ cb) (hrb : Row w Ab (bv b)) (hb47 : nb ≤ 140737488355328) (hsz : s.l.length ≤ 4000000000000) :
    Calls Try.prog 29 #[.pointer (some ⟨f.g, 0, none⟩), .slice Ab nb cb] w (WrPost w B f (saveP s b)) := by
  have hbg := begin_any B f s w h Ab nb cb b hnb hbc hrb hb47
  have hsp : saveP s b = if (beginP s b).2 = 0 then exec (beginP s b).1 s else (s, (beginP s b).2) := rfl
  have hlen : (beginP s b).1.length ≤ 2051 := by
    unfold beginP
    split
    · exact Nat.zero_le _
    split
    · exact Nat.zero_le _
    · rename_i h1 _
      have h2 := h.ok.n1
      have h3 : areaN s.n ≤ 2047 := by unfold areaN; omega
      unfold opsOf
      rw [List.length_append, dataOps_length]
      simp only [List.length_cons, List.length_nil]
      unfold nch
      omega
  obtain ⟨⟨ops, er⟩, hr⟩ : ∃ r, r = beginP s b := ⟨_, rfl⟩
  rw [← hr] at hbg hsp hlen
  simp only at hsp hlen
  obtain ⟨q, hq⟩ : ∃ q, q = saveP s b := ⟨_, rfl⟩
  rw [← hq] at hsp ⊢
  have HNB := Lib.hid hnb
  have HSP := Lib.hid hsp
  clear hr hq hnb hsp
  by_cases her : er = 0
  rotate_left
  · go_enter Try.func29, Try.ntmps29
    go_wp2_with fail
    refine hbg.mono ?_
    rintro e w1 ⟨hb1, ⟨h0, _⟩ | ⟨_, rfl⟩⟩
    · exact absurd h0 her
    · have hq2 : q = (s, er) := by rw [HSP.out, if_neg her]
      have HQ2 := Lib.hid hq2
      have hs1 := h.below hb1
      clear hbg hq2
      go_wp2_with fail
      go_ret
      rw [HQ2.out]
      exact ⟨f, rfl, hs1, (Turned.refl w f).below hb1⟩
  subst her
  have hq2 : q = exec ops s := by rw [HSP.out, if_pos rfl]
  have HQ2 := Lib.hid hq2
  obtain ⟨n, hn⟩ : ∃ n, n = ops.length := ⟨_, rfl⟩
  rw [← hn] at hlen
  have HN := Lib.hid hn
  clear hq2 hn HSP
  go_enter Try.func29, Try.ntmps29
  go_wp2_with fail
  refine hbg.mono ?_
  rintro e w1 ⟨hb1, ⟨_, gv, rfl, hv1, hgv⟩ | ⟨h0, _⟩⟩
  rotate_left
  · exact absurd rfl h0
  simp only at hv1
  have hs1 := h.below hb1
  have ht1 := (Turned.refl w f).below hb1
  have hvl := vleft_any gv f.g ops 0 w1 hv1
  rw [← HN.out] at hvl
  clear hbg h hb1
  go_wp2_with fail
  refine hvl.mono ?_
  rintro e w2 ⟨rfl, rfl⟩
  clear hvl
  go_wp2_with fail
  go_loopw [6, 18] (fun ev i wr => ∃ (j : Nat) (t : St × List SOp × Int) (f' : Fp), j ≤ n ∧ i = .int .i64 j ∧ ev = .int .i64 t.2.2 ∧ Hid (t = stepsV j (s, ops, 0)) ∧ Sto wr B f' t.1 ∧ Sv wr gv f'.g t.2.1 t.2.2 ∧ Turned w wr f f' ∧ t.1.l.length ≤ 4000000000000 + 4096 * j)
    (fun _ i _ => n - (intOf i).toNat)
  case atStart => exact ⟨0, (s, ops, 0), f, Nat.zero_le _, rfl, rfl, Lib.hid rfl, hs1, hv1, ht1, hsz⟩
  case round =>
    obtain ⟨j, t, f', hj, rfl, rfl, HT, hs, hv, ht, htl⟩ := hrel
    clear hs1 hv1 ht1
    by_cases hlt : j < n
    · have hst := vstep_any B f' t.1 gv t.2.1 t.2.2 wr hs hv (by omega)
      have hfg := ht.same
      rw [hfg] at hv
      have hnx : stepV t = stepsV (j + 1) (s, ops, 0) := by rw [HT.out]; rfl
      have htl2 : (stepV t).1.l.length ≤ 4000000000000 + 4096 * (j + 1) := Nat.le_trans (stepV_len hs.ok) (by omega)
      have htt : ((t.1, t.2.1, t.2.2) : St × List SOp × Int) = t := rfl
      rw [htt] at hst
      obtain ⟨t2, ht2⟩ : ∃ t2, t2 = stepV t := ⟨_, rfl⟩
      obtain ⟨d2, hd2⟩ : ∃ d2, d2 = stepD t := ⟨_, rfl⟩
      have hst2 : Calls Try.prog 18 #[.pointer (some ⟨gv, 0, none⟩)] wr fun e w' => ∃ f2, e = .returned (.tuple #[.bool d2, .int .i64 t2.2.2]) ∧ Sto w' B f2 t2.1 ∧ Sv w' gv f'.g t2.2.1 t2.2.2 ∧ Only wr w' (fun k => Foot f' k ∨ k = gv) ∧ (∀ k, Foot f2 k → Foot f' k ∨ wr.heap.size ≤ k) ∧ f2.g = f'.g := by
        rw [ht2, hd2]
        exact hst
      rw [← ht2] at hnx htl2
      have HNX := Lib.hid hnx
      have HFG := Lib.hid hfg
      clear hst ht2 hd2 htt hnx hfg hs hv HT
      go_wp2_with fail
      refine hst2.mono ?_
      rintro e w3 ⟨f2, rfl, hs3, hv3, ho3, hgr3, hg3⟩
      have ht3 := ht.step hgv ho3 hgr3 hg3
      rw [← hg3] at hv3
      have HT3 := Lib.hid ht3
      have HV3 := Lib.hid hv3
      clear hst2 ht ho3 hgr3 hg3 ht3 hv3
      go_wp2_with fail
      go_roundw
      case rel => exact ⟨j + 1, t2, f2, by omega, by go_num, rfl, HNX, hs3, HV3.out, HT3.out, htl2⟩
      case measure => simp [intOf]; omega
    · obtain rfl : j = n := by omega
      have hall : t = ((exec ops s).1, [], (exec ops s).2) := by rw [HT.out, HN.out]; exact stepsV_all ops s
      have HALL := Lib.hid hall
      clear hall
      go_wp2_with fail
      go_ret
      have e1 : t.2.2 = q.2 := (congrArg (fun x : St × List SOp × Int => x.2.2) HALL.out).trans (congrArg (fun x : St × Int => x.2) HQ2.out).symm
      have e2 : t.1 = q.1 := (congrArg (fun x : St × List SOp × Int => x.1) HALL.out).trans (congrArg (fun x : St × Int => x.1) HQ2.out).symm
      rw [e2] at hs
      exact ⟨f', by rw [e1]; rfl, hs, ht⟩
end Go.Proofs.Ytbljacafmkdlmaa

/- Saving, as data, again; pentimentolaw13.alive. Conditions: where a bound is named. -/
namespace Go.Proofs.Ytbljacafmkdlmaa
set_option maxRecDepth 100000
open Go.RowKit
set_option linter.unusedSimpArgs false
set_option linter.unusedVariables false

theorem exec_len {s : St} (h : s.OK) (l : List SOp) : (exec l s).1.l.length ≤ s.l.length + 4096 * l.length := by
  induction l generalizing s with
  | nil => exact Nat.le_add_right _ _
  | cons o l ih =>
    have h1 := doS_len h o
    have h2 := ih (doS_ok h o)
    unfold exec
    rw [List.length_cons]
    split
    · omega
    · simp only; omega
theorem ops_len {s : St} (h : s.OK) (b : List UInt8) : (beginP s b).1.length ≤ 2051 := by
  unfold beginP
  split
  · exact Nat.zero_le _
  split
  · exact Nat.zero_le _
  · rename_i h1 _
    have h2 := h.n1
    have h3 : areaN s.n ≤ 2047 := by unfold areaN; omega
    unfold opsOf
    rw [List.length_append, dataOps_length]
    simp only [List.length_cons, List.length_nil]
    unfold nch
    omega
theorem saveP_len {s : St} (h : s.OK) (b : List UInt8) : (saveP s b).1.l.length ≤ s.l.length + 8400896 := by
  have h1 := exec_len h (beginP s b).1
  have h2 := ops_len h b
  unfold saveP
  split
  · omega
  · simp only; omega
theorem saveP_ok {s : St} (h : s.OK) (b : List UInt8) : (saveP s b).1.OK := by
  unfold saveP
  split
  · exact exec_ok h _
  · exact h
/-- Saving where there is room. -/
theorem saveP_told {s : St} (hs : s.OK) (b : List UInt8) (hn : 2 ≤ s.n) (hb : b.length ≤ 16 * areaN s.n) (hg : (newestP s).2.2 < 1073741824) (hr : s.n ≤ s.room) :
    (saveP s b).2 = 0 ∧ (saveP s b).1.n = s.n ∧ (saveP s b).1.room = s.room ∧ loadP (saveP s b).1 = (b, (newestP s).2.2 + 1, 0) ∧ (newestP (saveP s b).1).2.2 = (newestP s).2.2 + 1 := by
  obtain ⟨h1, h2, h3, h4, h5, h6⟩ := save_told hs b hn hb hg
  have h7 := h5 hr
  obtain ⟨h8, h9⟩ := h6 h7
  have e : saveP s b = exec (beginP s b).1 s := by unfold saveP; rw [if_pos h3]
  rw [e]
  exact ⟨h7, h1, h2, h8, by rw [h9]⟩
theorem load_new (n room : Int) (h : 2 ≤ n) : loadP ⟨n, room, [], 0⟩ = ([], 0, 130) := by
  unfold loadP
  rw [newest_new n room h]
  rfl
theorem St.OK.new {n room : Int} (h0 : 0 ≤ n) (h1 : n ≤ 4096) (h2 : 0 ≤ room) : St.OK ⟨n, room, [], 0⟩ := ⟨h0, h1, h2, Nat.le_refl _, fun w hw => by cases hw⟩

theorem row_marks {w : World} {cs : Array Value} {e : TypeId} {lh : Nat × Nat} : Row (w.alloc (.cells cs e lh)) (some ⟨w.heap.size, 0, none⟩) cs.toList :=
  .inr ⟨_, 0, rfl, fun j u hu => by rw [cell_of_row _ _ _ cs e lh (heap_alloc_new w _), Nat.zero_add]; simpa using hu⟩
theorem alive_facts : ∃ s1 s2 : St, saveP ⟨6, 100, [], 0⟩ [120] = (s1, 0) ∧ saveP s1 [121, 122] = (s2, 0) ∧ loadP s2 = ([121, 122], 2, 0) ∧ s1.OK ∧ s1.l.length ≤ 8400896 := by
  have h0 : St.OK ⟨6, 100, [], 0⟩ := St.OK.new (by omega) (by omega) (by omega)
  have ha : areaN 6 = 2 := by decide
  have hnw := newest_new 6 100 (by omega)
  obtain ⟨k1, k2, k3, k4, k5⟩ := saveP_told h0 [120] (by decide) (by rw [ha]; decide) (by rw [hnw]; decide) (by decide)
  have hk := saveP_ok h0 [120]
  have hl := saveP_len h0 [120]
  obtain ⟨⟨s1, e1⟩, hs1⟩ : ∃ r, r = saveP ⟨6, 100, [], 0⟩ [120] := ⟨_, rfl⟩
  rw [← hs1] at k1 k2 k3 k4 k5 hk hl
  simp only at k1 k2 k3 k4 k5 hk hl
  rw [hnw] at k5
  simp only at k5
  obtain ⟨m1, m2, m3, m4, m5⟩ := saveP_told hk [121, 122] (by rw [k2]; omega) (by rw [k2, ha]; decide) (by rw [k5]; decide) (by rw [k2, k3]; omega)
  obtain ⟨⟨s2, e2⟩, hs2⟩ : ∃ r, r = saveP s1 [121, 122] := ⟨_, rfl⟩
  rw [← hs2] at m1 m4
  simp only at m1 m4
  rw [k5] at m4
  exact ⟨s1, s2, by rw [← hs1, k1], by rw [← hs2, m1], m4, hk, by simpa using hl⟩

set_option maxHeartbeats 4000000 in
theorem alive_any (w : World) : Calls Try.prog 10 #[] w fun e w' => e = .returned (.bool true) ∧ Below w.heap.size w w' := by
  obtain ⟨s1, s2, q1, q2, q3, hok1, hl1⟩ := alive_facts
  have q0 := load_new 6 100 (by omega)
  have Q0 := Lib.hid q0
  have Q1 := Lib.hid q1
  have Q2 := Lib.hid q2
  have Q3 := Lib.hid q3
  clear q0 q1 q2 q3
  have kc := fun (w : World) (C : Array Value) (n c : Nat) => Lib.run_convert_bytes_const (P := Try.prog) w 23 5 C n c Try.underlying23 Try.underlying5
  go_enter Try.func10, Try.ntmps10
  go_wp2_with fail
  refine (new_yes 6 100 w (by omega)).mono ?_
  rintro e w1 ⟨f, rfl, hs1, hb1⟩
  have hld := load_any w.heap.size f _ w1 hs1
  rw [Q0.out] at hld
  go_wp2_with fail
  refine hld.mono ?_
  rintro e w2 ⟨A2, m2, c2, rfl, _, _, _, hb2⟩
  have hs2 := hs1.below hb2
  have hb02 := below_all hb1 hb2
  clear hld hs1 hb1 hb2
  have hs3 := hs2.alloc (.cells #[.int .u8 120] 5 (1, 2))
  have hsv := save_any w.heap.size f _ _ hs3 (some ⟨w2.heap.size, 0, none⟩) 1 1 [120] rfl (Nat.le_refl _) row_marks (by omega) (by simp)
  rw [Q1.out] at hsv
  have hb03 := hb02.alloc hb02.size (.cells #[.int .u8 120] 5 (1, 2))
  clear hs2 hb02
  go_wp2_with fail
  refine hsv.mono ?_
  rintro e w4 ⟨f4, rfl, hs4, ht4⟩
  simp only at hs4
  have hb04 := hb03.trans (ht4.belowB hs3)
  have hf4 : f4.g = f.g := ht4.same
  have hs5 := hs4.alloc (.cells #[.int .u8 121, .int .u8 122] 5 (2, 3))
  have hsv2 := save_any w.heap.size f4 s1 _ hs5 (some ⟨w4.heap.size, 0, none⟩) 2 2 [121, 122] rfl (Nat.le_refl _) row_marks (by omega) (by omega)
  rw [Q2.out, hf4] at hsv2
  have hb05 := hb04.alloc hb04.size (.cells #[.int .u8 121, .int .u8 122] 5 (2, 3))
  clear hsv hs3 hb03 ht4 hs4 hb04
  go_wp2_with fail
  refine hsv2.mono ?_
  rintro e w6 ⟨f6, rfl, hs6, ht6⟩
  simp only at hs6
  have hb06 := hb05.trans (ht6.belowB hs5)
  have hf6 : f6.g = f.g := ht6.same.trans hf4
  have hld2 := load_any w.heap.size f6 s2 w6 hs6
  rw [Q3.out, hf6] at hld2
  clear hsv2 hs5 hb05 ht6 hf4
  go_wp2_with fail
  refine hld2.mono ?_
  rintro e w7 ⟨A7, m7, c7, rfl, hm7, _, hx7, hb7⟩
  obtain rfl : m7 = 2 := by simpa using hm7.symm
  have hb07 := below_all hb06 hb7
  have hst := run_string (P := Try.prog) (n := 2) (l := [121, 122]) rfl 23 9 5 (c := c7) Try.underlying23 Try.underlying5 Try.underlying9 hx7
  have hmo := fun u => most_any 6 u (by omega) (by omega)
  rw [show (16 * areaN 6 : Nat) = 32 by decide] at hmo
  clear hld2 hs6 hb06 hf6 hm7 hx7 hb7
  go_wp2_with fail
  refine (hmo _).mono ?_
  rintro e w8 ⟨rfl, rfl⟩
  go_wp2_with fail
  go_ret
  exact ⟨rfl, hb07⟩
end Go.Proofs.Ytbljacafmkdlmaa
