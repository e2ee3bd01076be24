/- store.Resize. No condition. -/
import Derived.Test.YtgblekjkphnjfaaStZ
namespace Go.Proofs.Ytgblekjkphnjfaa
open Go.RowKit
set_option linter.unusedSimpArgs false

set_option maxHeartbeats 1000000 in
/-- What Flush does to a store's block, whatever stands there. -/
theorem flush_raw (g b1 b2 : Nat) (n room : Int) (A : Option Addr) (m c : Nat) (D : DataW Unit) (w : World) (hb : Blk w g 64 #[.int .i64 n, .int .i64 room, .map (some b1), .map (some b2), .slice A m c]) (hm : Mp w b2 D) :
    Calls Try.prog 13 #[.pointer (some ⟨g, 0, none⟩)] w
    fun e w' => ∃ w1, e = .returned (.tuple #[]) ∧ Below w.heap.size w w1 ∧ Mp w1 w.heap.size D ∧ w' = (w1.setCell ⟨g, 2, none⟩ (.map (some w.heap.size))).setCell ⟨g, 4, none⟩ (.slice none 0 0) := by
  have c3 : w.cell? ⟨g, 3, none⟩ = some (.map (some b2)) := hb.cell 3
  have hc := clone_any b2 D w hm
  go_enter Try.func13, Try.ntmps13
  go_wp2_with fail
  refine hc.mono ?_
  rintro e w' ⟨rfl, hm1, hB⟩
  have h6 := hb.belowAll hB
  obtain ⟨⟨d2, d4⟩, z2, z4⟩ : (w'.cell? ⟨g, 2, none⟩ = some (.map (some b1)) ∧ w'.cell? ⟨g, 4, none⟩ = some (.slice A m c)) ∧ w'.frozen? ⟨g, 2, none⟩ = false ∧ w'.frozen? ⟨g, 4, none⟩ = false := ⟨⟨h6.cell 2, h6.cell 4⟩, h6.frozen 2, h6.frozen 4⟩
  clear hc c3
  go_wp2_with fail
  go_end0
  exact ⟨w', rfl, hB, hm1, rfl⟩

theorem Sto.resized {w w1 w2 : World} {B : Nat} {f : Fp} {s : St} (h : Sto w B f s) (n : Int) (hn : 0 ≤ n ∧ n ≤ 4096) (ho : Only w w1 (fun i => i = f.b2)) (hm : Mp w1 f.b2 (Dof (resL s n))) (b : Nat) (hb : w.heap.size ≤ b)
    (hB : Below (w1.setCell ⟨f.g, 0, none⟩ (.int .i64 n)).heap.size (w1.setCell ⟨f.g, 0, none⟩ (.int .i64 n)) w2) (hm2 : Mp w2 b (Dof (resL s n))) :
    Sto ((w2.setCell ⟨f.g, 2, none⟩ (.map (some b))).setCell ⟨f.g, 4, none⟩ (.slice none 0 0)) B ⟨f.g, b, f.b2, none, 0⟩ (doZ s n).1 ∧ Turned w ((w2.setCell ⟨f.g, 2, none⟩ (.map (some b))).setCell ⟨f.g, 4, none⟩ (.slice none 0 0)) f ⟨f.g, b, f.b2, none, 0⟩ := by
  have hok := h.ok.resize n
  have ed : (doZ s n).1 = ⟨n, s.room, resL s n, (resL s n).length⟩ := by unfold doZ; rw [if_neg (by omega)]
  rw [ed] at hok ⊢
  have hg1 := h.blk.only ho (fun e => h.blk.ne_map h.seen e)
  have hgs := hg1.set_ 0 (.int .i64 n)
  have hg2 := hgs.belowAll hB
  have h5 : Only w1 (w1.setCell ⟨f.g, 0, none⟩ (.int .i64 n)) (fun k => k = f.g) := Only.setCell (F := fun k => k = f.g) (Only.refl _ _) (.inl rfl) _
  have hm1 := (hm.only h5 (fun e => hg1.ne_map hm e.symm)).below hB
  have ho3 : Only w2 ((w2.setCell ⟨f.g, 2, none⟩ (.map (some b))).setCell ⟨f.g, 4, none⟩ (.slice none 0 0)) (fun k => k = f.g) := Only.setCell (F := fun k => k = f.g) (Only.setCell (F := fun k => k = f.g) (Only.refl _ _) (.inl rfl) _) (.inl rfl) _
  have hb2 := h.seen.lt
  have hBs := h.size
  refine ⟨⟨?_, ?_, hm1.only ho3 (fun e => hg2.ne_map hm1 e.symm), ?_, hok, ⟨h.low.1, Nat.le_trans hBs hb, h.low.2.2⟩, by simp only; omega⟩, ⟨?_, fun k hk => ?_, rfl⟩⟩
  · simp only
    rw [Nat.sub_self]
    exact (hg2.set_ 2 (.map (some b))).set_ 4 (.slice none 0 0)
  · simp only
    rw [List.take_of_length_le (Nat.le_refl _)]
    exact hm2.only ho3 (fun e => hg2.ne_map hm2 e.symm)
  · simp only
    rw [Nat.sub_self, List.drop_eq_nil_of_le (Nat.le_refl _)]
    exact Own.nil _ _ _ _ _
  · refine Only.trans (Only.trans (Only.trans (ho.mono (fun k _ hk => ?_)) h5 (fun k _ hk => ?_)) (Only.of_below hB (fun _ => False)) (fun _ _ hk => hk.elim)) ho3 (fun k _ hk => ?_)
    · exact .inr (.inr (.inl hk))
    · exact .inl hk
    · exact .inl hk
  · rcases hk with hk | hk | hk | hk
    · exact .inl (.inl hk)
    · have hk2 : k = b := hk
      exact .inr (hk2 ▸ hb)
    · exact .inl (.inr (.inr (.inl hk)))
    · simp [ownB] at hk

set_option maxHeartbeats 1000000 in
theorem resize_any (B : Nat) (f : Fp) (s : St) (w : World) (h : Sto w B f s) (n : Int) :
    Calls Try.prog 21 #[.pointer (some ⟨f.g, 0, none⟩), .int .i64 n] w fun e w' => ∃ f', e = .returned (.int .i64 (doZ s n).2) ∧ Sto w' B f' (doZ s n).1 ∧ Turned w w' f f' := by
  have hb0 : Below w.heap.size w (w.alloc (.cells #[.int .i64 n] 3)) := (Below.refl _ _).alloc (Nat.le_refl _) _
  by_cases hbad : n < 0 ∨ 4096 < n
  · have ed : doZ s n = (s, 1) := by unfold doZ; rw [if_pos hbad]
    have hn : (decide (0 ≤ n) && decide (n ≤ 4096)) = false := by rw [Bool.eq_false_iff]; intro h2; simp only [Bool.and_eq_true, decide_eq_true_eq] at h2; omega
    have hc := fun u => right_any n u
    simp only [hn] at hc
    have H := Lib.hid h
    have ED := Lib.hid ed
    have HB0 := Lib.hid hb0
    clear hbad hn h ed hb0
    go_enter Try.func21, Try.ntmps21
    go_wp2_with fail
    refine (hc _).mono ?_
    rintro e w' ⟨rfl, rfl⟩
    go_wp2_with fail
    go_ret
    rw [ED.out]
    exact ⟨f, rfl, H.out.below HB0.out, (Turned.refl _ _).below HB0.out⟩
  · have hnn : 0 ≤ n ∧ n ≤ 4096 := by omega
    have ed : (doZ s n).2 = 0 := by unfold doZ; rw [if_neg hbad]
    have hn : (decide (0 ≤ n) && decide (n ≤ 4096)) = true := by simp only [Bool.and_eq_true, decide_eq_true_eq]; exact hnn
    have hc := fun u => right_any n u
    simp only [hn] at hc
    have h1 := h.alloc (.cells #[.int .i64 n] 3)
    obtain ⟨⟨c0, c1, c2, c3, c4⟩, z0, z1, z2, z3, z4⟩ := h1.five
    have hd := deleteFunc_any n w.heap.size f.b2 4096 (Dof s.l) (w.alloc (.cells #[.int .i64 n] 3)) (CI_Dof _) h1.seen (Blk.new w _ _)
    rw [Dof_strike] at hd
    have hbk := Blk.new w 3 #[.int .i64 n]
    have hkb2 := hbk.ne_map h1.seen
    have H := Lib.hid h
    have H1 := Lib.hid h1
    have ED := Lib.hid ed
    have HB0 := Lib.hid hb0
    have HNN := Lib.hid hnn
    clear hbad hn h ed hb0 hnn h1
    go_enter Try.func21, Try.ntmps21
    go_wp2_with fail
    refine (hc _).mono ?_
    rintro e w' ⟨rfl, rfl⟩
    go_wp2_with fail
    refine hd.mono ?_
    rintro e w1 ⟨rfl, hm1, hg1⟩
    have hm1' : Mp w1 f.b2 (Dof (resL s n)) := hm1
    have ho1 : Only (w.alloc (.cells #[.int .i64 n] 3)) w1 (fun i => i = f.b2) := ⟨hg1.os, hg1.tape, hg1.output, hg1.size, fun k hk hn => hg1.block k hk (fun e => hn (by injection e))⟩
    have hb1 := H1.out.blk.only ho1 (fun e => H1.out.blk.ne_map H1.out.seen e)
    have hbk1 := hbk.only ho1 hkb2
    have k0 := hbk1.cell 0
    obtain ⟨⟨d0, d1, d2, d3, d4⟩, y0⟩ : (w1.cell? ⟨f.g, 0, none⟩ = some (.int .i64 s.n) ∧ w1.cell? ⟨f.g, 1, none⟩ = some (.int .i64 s.room) ∧ w1.cell? ⟨f.g, 2, none⟩ = some (.map (some f.b1)) ∧ w1.cell? ⟨f.g, 3, none⟩ = some (.map (some f.b2)) ∧ w1.cell? ⟨f.g, 4, none⟩ = some (.slice f.A (s.l.length - s.k) f.c)) ∧ w1.frozen? ⟨f.g, 0, none⟩ = false := ⟨⟨hb1.cell 0, hb1.cell 1, hb1.cell 2, hb1.cell 3, hb1.cell 4⟩, hb1.frozen 0⟩
    have hfl := flush_raw f.g f.b1 f.b2 n s.room f.A (s.l.length - s.k) f.c (Dof (resL s n)) (w1.setCell ⟨f.g, 0, none⟩ (.int .i64 n)) (hb1.set_ 0 (.int .i64 n)) (hm1'.only (Only.setCell (F := fun k => k = f.g) (Only.refl _ _) (.inl rfl) _) (fun e => hb1.ne_map hm1' e.symm))
    have how : Only w w1 (fun i => i = f.b2) := (Only.of_below HB0.out (fun i => i = f.b2)).trans ho1 (fun _ _ h => h)
    have hsz : w.heap.size ≤ (w1.setCell ⟨f.g, 0, none⟩ (.int .i64 n)).heap.size := by have := how.size; simpa using this
    have HFL := Lib.hid hfl
    have HOW := Lib.hid how
    have HM1 := Lib.hid hm1'
    have HSZ := Lib.hid hsz
    clear c0 c1 c2 c3 c4 z0 z1 z2 z3 z4 hd hm1 hm1' hg1 ho1 hfl how hsz hbk hbk1 hb1 hkb2
    go_wp2_with fail
    refine HFL.out.mono ?_
    rintro e w2 ⟨w3, rfl, hB3, hm3, rfl⟩
    have key := H.out.resized n HNN.out HOW.out HM1.out _ HSZ.out hB3 hm3
    have e9 : (w1.setCell ⟨f.g, 0, none⟩ (.int .i64 n)).heap.size = w1.heap.size := by simp
    rw [e9] at key
    have HK := Lib.hid key
    clear key e9
    go_wp2_with fail
    go_ret
    rw [ED.out]
    exact ⟨_, rfl, HK.out⟩
end Go.Proofs.Ytgblekjkphnjfaa
