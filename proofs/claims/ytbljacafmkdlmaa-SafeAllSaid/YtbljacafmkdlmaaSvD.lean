/- Saver.Step at any saver; safe.Save. Conditions: a store as one lies in memory; what is loose fits memory. -/
import Derived.Test.YtbljacafmkdlmaaSvC
namespace Go.Proofs.Ytbljacafmkdlmaa
set_option maxRecDepth 100000
open Go.RowKit
set_option linter.unusedSimpArgs false
set_option linter.unusedVariables false

theorem doS_len {s : St} (h : s.OK) (o : SOp) : (doS s o).1.l.length ≤ s.l.length + 4096 := by
  cases o with
  | flush => exact Nat.le_add_right _ _
  | write a b =>
    show (doW s a b).1.l.length ≤ _
    unfold doW
    split
    · exact Nat.le_add_right _ _
    split
    · exact Nat.le_add_right _ _
    split
    · exact Nat.le_add_right _ _
    · rename_i h2 _
      have hi : insideB s.n a ((b.length / 16 : Nat) : Int) = true := by simpa using h2
      have h3 := insideB_of hi
      have h4 := h.n1
      simp only [List.length_append, chs_length]
      omega
theorem stepV_len {t : St × List SOp × Int} (h : t.1.OK) : (stepV t).1.l.length ≤ t.1.l.length + 4096 := by
  obtain ⟨s, l, e⟩ := t
  cases l with
  | nil => exact Nat.le_add_right _ _
  | cons o r =>
    have h1 := doS_len h o
    unfold stepV
    simp only
    split <;> exact h1

theorem vstep_any (B : Nat) (f : Fp) (s : St) (gv : Nat) (l : List SOp) (e0 : Int) (w : World) (h : Sto w B f s) (hv : Sv w gv f.g l e0) (hsz : s.l.length + 4096 ≤ 5000000000000) :
    Calls Try.prog 18 #[.pointer (some ⟨gv, 0, none⟩)] w (StepPost w B f gv (s, l, e0)) := by
  cases l with
  | nil => exact step_nil B f s gv e0 w h hv
  | cons o r => exact step_cons B f s gv o r e0 w h hv hsz

/-- A saver's own block, laid behind what was there, turned beside the store's. -/
theorem Turned.step {w w1 w2 : World} {f f1 f2 : Fp} {gv : Nat} (h : Turned w w1 f f1) (hg : w.heap.size ≤ gv) (ho : Only w1 w2 (fun k => Foot f1 k ∨ k = gv)) (hgr : ∀ k, Foot f2 k → Foot f1 k ∨ w1.heap.size ≤ k) (hs : f2.g = f1.g) : Turned w w2 f f2 :=
  ⟨h.only.trans ho (fun i hi hf => by
    rcases hf with hf | hf
    · rcases h.grows i hf with hf | hf
      · exact hf
      · omega
    · omega), fun i hi => by
    rcases hgr i hi with hf | hf
    · exact h.grows i hf
    · exact .inr (Nat.le_trans h.only.size hf), hs.trans h.same⟩

/-- Save: what the store is then, the error. -/
def saveP (s : St) (b : List UInt8) : St × Int := if (beginP s b).2 = 0 then exec (beginP s b).1 s else (s, (beginP s b).2)

set_option maxHeartbeats 4000000 in
theorem save_any (B : Nat) (f : Fp) (s : St) (w : World) (h : Sto w B f s) (Ab : Option Addr) (nb cb : Nat) (b : List UInt8) (hnb : b.length = nb) (hbc : nb ≤ cb) (hrb : Row w Ab (bv b)) (hb47 : nb ≤ 140737488355328) (hsz : s.l.length ≤ 4000000000000) :
    Calls Try.prog 29 #[.pointer (some ⟨f.g, 0, none⟩), .slice Ab nb cb] w (WrPost w B f (saveP s b)) := by
  have hbg := begin_any B f s w h Ab nb cb b hnb hbc hrb hb47
  have hsp : saveP s b = if (beginP s b).2 = 0 then exec (beginP s b).1 s else (s, (beginP s b).2) := rfl
  have hlen : (beginP s b).1.length ≤ 2051 := by
    unfold beginP
    split
    · exact Nat.zero_le _
    split
    · exact Nat.zero_le _
    · rename_i h1 _
      have h2 := h.ok.n1
      have h3 : areaN s.n ≤ 2047 := by unfold areaN; omega
      unfold opsOf
      rw [List.length_append, dataOps_length]
      simp only [List.length_cons, List.length_nil]
      unfold nch
      omega
  obtain ⟨⟨ops, er⟩, hr⟩ : ∃ r, r = beginP s b := ⟨_, rfl⟩
  rw [← hr] at hbg hsp hlen
  simp only at hsp hlen
  obtain ⟨q, hq⟩ : ∃ q, q = saveP s b := ⟨_, rfl⟩
  rw [← hq] at hsp ⊢
  have HNB := Lib.hid hnb
  have HSP := Lib.hid hsp
  clear hr hq hnb hsp
  by_cases her : er = 0
  rotate_left
  · go_enter Try.func29, Try.ntmps29
    go_wp2_with fail
    refine hbg.mono ?_
    rintro e w1 ⟨hb1, ⟨h0, _⟩ | ⟨_, rfl⟩⟩
    · exact absurd h0 her
    · have hq2 : q = (s, er) := by rw [HSP.out, if_neg her]
      have HQ2 := Lib.hid hq2
      have hs1 := h.below hb1
      clear hbg hq2
      go_wp2_with fail
      go_ret
      rw [HQ2.out]
      exact ⟨f, rfl, hs1, (Turned.refl w f).below hb1⟩
  subst her
  have hq2 : q = exec ops s := by rw [HSP.out, if_pos rfl]
  have HQ2 := Lib.hid hq2
  obtain ⟨n, hn⟩ : ∃ n, n = ops.length := ⟨_, rfl⟩
  rw [← hn] at hlen
  have HN := Lib.hid hn
  clear hq2 hn HSP
  go_enter Try.func29, Try.ntmps29
  go_wp2_with fail
  refine hbg.mono ?_
  rintro e w1 ⟨hb1, ⟨_, gv, rfl, hv1, hgv⟩ | ⟨h0, _⟩⟩
  rotate_left
  · exact absurd rfl h0
  simp only at hv1
  have hs1 := h.below hb1
  have ht1 := (Turned.refl w f).below hb1
  have hvl := vleft_any gv f.g ops 0 w1 hv1
  rw [← HN.out] at hvl
  clear hbg h hb1
  go_wp2_with fail
  refine hvl.mono ?_
  rintro e w2 ⟨rfl, rfl⟩
  clear hvl
  go_wp2_with fail
  go_loopw [6, 18] (fun ev i wr => ∃ (j : Nat) (t : St × List SOp × Int) (f' : Fp), j ≤ n ∧ i = .int .i64 j ∧ ev = .int .i64 t.2.2 ∧ Hid (t = stepsV j (s, ops, 0)) ∧ Sto wr B f' t.1 ∧ Sv wr gv f'.g t.2.1 t.2.2 ∧ Turned w wr f f' ∧ t.1.l.length ≤ 4000000000000 + 4096 * j)
    (fun _ i _ => n - (intOf i).toNat)
  case atStart => exact ⟨0, (s, ops, 0), f, Nat.zero_le _, rfl, rfl, Lib.hid rfl, hs1, hv1, ht1, hsz⟩
  case round =>
    obtain ⟨j, t, f', hj, rfl, rfl, HT, hs, hv, ht, htl⟩ := hrel
    clear hs1 hv1 ht1
    by_cases hlt : j < n
    · have hst := vstep_any B f' t.1 gv t.2.1 t.2.2 wr hs hv (by omega)
      have hfg := ht.same
      rw [hfg] at hv
      have hnx : stepV t = stepsV (j + 1) (s, ops, 0) := by rw [HT.out]; rfl
      have htl2 : (stepV t).1.l.length ≤ 4000000000000 + 4096 * (j + 1) := Nat.le_trans (stepV_len hs.ok) (by omega)
      have htt : ((t.1, t.2.1, t.2.2) : St × List SOp × Int) = t := rfl
      rw [htt] at hst
      obtain ⟨t2, ht2⟩ : ∃ t2, t2 = stepV t := ⟨_, rfl⟩
      obtain ⟨d2, hd2⟩ : ∃ d2, d2 = stepD t := ⟨_, rfl⟩
      have hst2 : Calls Try.prog 18 #[.pointer (some ⟨gv, 0, none⟩)] wr fun e w' => ∃ f2, e = .returned (.tuple #[.bool d2, .int .i64 t2.2.2]) ∧ Sto w' B f2 t2.1 ∧ Sv w' gv f'.g t2.2.1 t2.2.2 ∧ Only wr w' (fun k => Foot f' k ∨ k = gv) ∧ (∀ k, Foot f2 k → Foot f' k ∨ wr.heap.size ≤ k) ∧ f2.g = f'.g := by
        rw [ht2, hd2]
        exact hst
      rw [← ht2] at hnx htl2
      have HNX := Lib.hid hnx
      have HFG := Lib.hid hfg
      clear hst ht2 hd2 htt hnx hfg hs hv HT
      go_wp2_with fail
      refine hst2.mono ?_
      rintro e w3 ⟨f2, rfl, hs3, hv3, ho3, hgr3, hg3⟩
      have ht3 := ht.step hgv ho3 hgr3 hg3
      rw [← hg3] at hv3
      have HT3 := Lib.hid ht3
      have HV3 := Lib.hid hv3
      clear hst2 ht ho3 hgr3 hg3 ht3 hv3
      go_wp2_with fail
      go_roundw
      case rel => exact ⟨j + 1, t2, f2, by omega, by go_num, rfl, HNX, hs3, HV3.out, HT3.out, htl2⟩
      case measure => simp [intOf]; omega
    · obtain rfl : j = n := by omega
      have hall : t = ((exec ops s).1, [], (exec ops s).2) := by rw [HT.out, HN.out]; exact stepsV_all ops s
      have HALL := Lib.hid hall
      clear hall
      go_wp2_with fail
      go_ret
      have e1 : t.2.2 = q.2 := (congrArg (fun x : St × List SOp × Int => x.2.2) HALL.out).trans (congrArg (fun x : St × Int => x.2) HQ2.out).symm
      have e2 : t.1 = q.1 := (congrArg (fun x : St × List SOp × Int => x.1) HALL.out).trans (congrArg (fun x : St × Int => x.1) HQ2.out).symm
      rw [e2] at hs
      exact ⟨f', by rw [e1]; rfl, hs, ht⟩
end Go.Proofs.Ytbljacafmkdlmaa
