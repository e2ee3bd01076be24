/- store.Resize. No condition. -/
import Derived.Test.YtbljacafmkdlmaaStZ
namespace Go.Proofs.Ytbljacafmkdlmaa
set_option maxRecDepth 100000
open Go.RowKit
set_option linter.unusedSimpArgs false

set_option maxHeartbeats 1000000 in
/-- What Flush does to a store's block, whatever stands there. -/
theorem flush_raw (g b1 b2 : Nat) (n room : Int) (A : Option Addr) (m c : Nat) (D : DataW Unit) (w : World) (hb : Blk w g 108 #[.int .i64 n, .int .i64 room, .map (some b1), .map (some b2), .slice A m c]) (hm : Mp w b2 D) :
    Calls Try.prog 39 #[.pointer (some ⟨g, 0, none⟩)] w
    fun e w' => ∃ w1, e = .returned (.tuple #[]) ∧ Below w.heap.size w w1 ∧ Mp w1 w.heap.size D ∧ w' = (w1.setCell ⟨g, 2, none⟩ (.map (some w.heap.size))).setCell ⟨g, 4, none⟩ (.slice none 0 0) := by
  have c3 : w.cell? ⟨g, 3, none⟩ = some (.map (some b2)) := hb.cell 3
  have hc := clone_any b2 D w hm
  go_enter Try.func39, Try.ntmps39
  go_wp2_with fail
  refine hc.mono ?_
  rintro e w' ⟨rfl, hm1, hB⟩
  have h6 := hb.belowAll hB
  obtain ⟨⟨d2, d4⟩, z2, z4⟩ : (w'.cell? ⟨g, 2, none⟩ = some (.map (some b1)) ∧ w'.cell? ⟨g, 4, none⟩ = some (.slice A m c)) ∧ w'.frozen? ⟨g, 2, none⟩ = false ∧ w'.frozen? ⟨g, 4, none⟩ = false := ⟨⟨h6.cell 2, h6.cell 4⟩, h6.frozen 2, h6.frozen 4⟩
  clear hc c3
  go_wp2_with fail
  go_end0
  exact ⟨w', rfl, hB, hm1, rfl⟩

theorem Sto.resized {w w1 w2 : World} {B : Nat} {f : Fp} {s : St} (h : Sto w B f s) (n : Int) (hn : 0 ≤ n ∧ n ≤ 4096) (ho : Only w w1 (fun i => i = f.b2)) (hm : Mp w1 f.b2 (Dof (resL s n))) (b : Nat) (hb : w.heap.size ≤ b)
    (hB : Below (w1.setCell ⟨f.g, 0, none⟩ (.int .i64 n)).heap.size (w1.setCell ⟨f.g, 0, none⟩ (.int .i64 n)) w2) (hm2 : Mp w2 b (Dof (resL s n))) :
    Sto ((w2.setCell ⟨f.g, 2, none⟩ (.map (some b))).setCell ⟨f.g, 4, none⟩ (.slice none 0 0)) B ⟨f.g, b, f.b2, none, 0⟩ (doZ s n).1 ∧ Turned w ((w2.setCell ⟨f.g, 2, none⟩ (.map (some b))).setCell ⟨f.g, 4, none⟩ (.slice none 0 0)) f ⟨f.g, b, f.b2, none, 0⟩ := by
  have hok := h.ok.resize n
  have ed : (doZ s n).1 = ⟨n, s.room, resL s n, (resL s n).length⟩ := by unfold doZ; rw [if_neg (by omega)]
  rw [ed] at hok ⊢
  have hg1 := h.blk.only ho (fun e => h.blk.ne_map h.seen e)
  have hgs := hg1.set_ 0 (.int .i64 n)
  have hg2 := hgs.belowAll hB
  have h5 : Only w1 (w1.setCell ⟨f.g, 0, none⟩ (.int .i64 n)) (fun k => k = f.g) := Only.setCell (F := fun k => k = f.g) (Only.refl _ _) (.inl rfl) _
  have hm1 := (hm.only h5 (fun e => hg1.ne_map hm e.symm)).below hB
  have ho3 : Only w2 ((w2.setCell ⟨f.g, 2, none⟩ (.map (some b))).setCell ⟨f.g, 4, none⟩ (.slice none 0 0)) (fun k => k = f.g) := Only.setCell (F := fun k => k = f.g) (Only.setCell (F := fun k => k = f.g) (Only.refl _ _) (.inl rfl) _) (.inl rfl) _
  have hb2 := h.seen.lt
  have hBs := h.size
  refine ⟨⟨?_, ?_, hm1.only ho3 (fun e => hg2.ne_map hm1 e.symm), ?_, hok, ⟨h.low.1, Nat.le_trans hBs hb, h.low.2.2⟩, by simp only; omega⟩, ⟨?_, fun k hk => ?_, rfl⟩⟩
  · simp only
    rw [Nat.sub_self]
    exact (hg2.set_ 2 (.map (some b))).set_ 4 (.slice none 0 0)
  · simp only
    rw [List.take_of_length_le (Nat.le_refl _)]
    exact hm2.only ho3 (fun e => hg2.ne_map hm2 e.symm)
  · simp only
    rw [Nat.sub_self, List.drop_eq_nil_of_le (Nat.le_refl _)]
    exact Own.nil _ _ _ _ _
  · refine Only.trans (Only.trans (Only.trans (ho.mono (fun k _ hk => ?_)) h5 (fun k _ hk => ?_)) (Only.of_below hB (fun _ => False)) (fun _ _ hk => hk.elim)) ho3 (fun k _ hk => ?_)
    · exact .inr (.inr (.inl hk))
    · exact .inl hk
    · exact .inl hk
  · rcases hk with hk | hk | hk | hk
    · exact .inl (.inl hk)
    · have hk2 : k = b := hk
      exact .inr (hk2 ▸ hb)
    · exact .inl (.inr (.inr (.inl hk)))
    · simp [ownB] at hk

end Go.Proofs.Ytbljacafmkdlmaa
