/- store.New, Flush, maps.Clone at a store's maps. No condition. -/
import Derived.Test.YtbljacafmkdlmaaStR
import Derived.Shelf.SlMaps.Clone
namespace Go.Proofs.Ytbljacafmkdlmaa
set_option maxRecDepth 100000
open Go.RowKit
set_option linter.unusedSimpArgs false

set_option maxHeartbeats 1000000 in
theorem clone_any (b : Nat) (D : DataW Unit) (w : World) (h : Mp w b D) :
    Calls Try.prog 71 #[.map (some b)] w fun e w' => e = .returned (.map (some w.heap.size)) ∧ Mp w' w.heap.size D ∧ Below w.heap.size w w' := by
  have hlt := h.lt
  obtain ⟨es, clock, hb, F, hs, hD⟩ := h
  have key : Mp (w.alloc (.map es clock)) w.heap.size D ∧ Below w.heap.size w (w.alloc (.map es clock)) := ⟨⟨es, clock, (MapKept.heap_alloc w _).1, F, hs, hD⟩, (Below.refl _ w).alloc (Nat.le_refl _) _⟩
  have hq := fun w => run_eql_map_nil_sl (P := Try.prog) w 105 _ _ (some b) Try.underlying105
  clear F hs hD
  go_enter Try.func71, Try.ntmps71
  go_wp2
  rw [run_callFunc_extern (P := Try.prog) Try.func93 (by kernel_rfl) (by kernel_rfl) (by kernel_rfl) (e := Extern.MapsClone.clone) (by kernel_rfl), run_maps_clone_sl w 105 hb]
  simp only [Result.andThen]
  rw [Oper.upon_value]
  go_wp2
  rw [run_typeAssert_map_sl _ 105 20 _ _ _ Try.underlying105]
  simp only [Result.andThen]
  rw [Oper.upon_value]
  go_wp2
  go_ret
  exact ⟨rfl, key⟩

/-- What stands when the writes are safe. -/
theorem Sto.flushed {w w' : World} {B : Nat} {f : Fp} {s : St} (h : Sto w B f s) (b : Nat) (hb : w.heap.size ≤ b) (hm : Mp w' b (Dof s.l)) (hB : Below w.heap.size w w') :
    Sto ((w'.setCell ⟨f.g, 2, none⟩ (.map (some b))).setCell ⟨f.g, 4, none⟩ (.slice none 0 0)) B ⟨f.g, b, f.b2, none, 0⟩ (doF s) ∧ Turned w ((w'.setCell ⟨f.g, 2, none⟩ (.map (some b))).setCell ⟨f.g, 4, none⟩ (.slice none 0 0)) f ⟨f.g, b, f.b2, none, 0⟩ := by
  have h1 := h.below hB
  have ho : Only w' ((w'.setCell ⟨f.g, 2, none⟩ (.map (some b))).setCell ⟨f.g, 4, none⟩ (.slice none 0 0)) (fun k => k = f.g) := Only.setCell (F := fun k => k = f.g) (Only.setCell (F := fun k => k = f.g) (Only.refl _ _) (.inl rfl) _) (.inl rfl) _
  have e1 : (doF s).l.length - (doF s).k = 0 := Nat.sub_self _
  have e2 : (doF s).l.take (doF s).k = s.l := List.take_of_length_le (Nat.le_refl _)
  have e3 : (doF s).l.drop (doF s).k = [] := List.drop_eq_nil_of_le (Nat.le_refl _)
  have hb2 := h.seen.lt
  have hBs := h.size
  refine ⟨⟨?_, ?_, h1.seen.only ho (fun e => h1.blk.ne_map h1.seen e.symm), ?_, h.ok.flush, ⟨h.low.1, Nat.le_trans hBs hb, h.low.2.2⟩, by simp only; omega⟩, ⟨((Only.of_below hB (Foot f)).trans ho (fun k _ hk => by subst hk; exact .inl rfl)), fun k hk => ?_, rfl⟩⟩
  · rw [e1]
    exact (h1.blk.set_ 2 (.map (some b))).set_ 4 (.slice none 0 0)
  · rw [e2]
    exact hm.only ho (fun e => h1.blk.ne_map hm e.symm)
  · rw [e1, e3]
    exact Own.nil _ _ _ _ _
  · rcases hk with rfl | rfl | rfl | hk
    · exact .inl (.inl rfl)
    · exact .inr hb
    · exact .inl (.inr (.inr (.inl rfl)))
    · simp [ownB] at hk

set_option maxHeartbeats 1000000 in
theorem flush_any (B : Nat) (f : Fp) (s : St) (w : World) (h : Sto w B f s) : Calls Try.prog 39 #[.pointer (some ⟨f.g, 0, none⟩)] w
    fun e w' => ∃ f', e = .returned (.tuple #[]) ∧ Sto w' B f' (doF s) ∧ Turned w w' f f' := by
  obtain ⟨⟨c0, c1, c2, c3, c4⟩, _⟩ := h.five
  have H := Lib.hid h
  have hc := clone_any f.b2 (Dof s.l) w h.seen
  clear h
  go_enter Try.func39, Try.ntmps39
  go_wp2_with fail
  refine hc.mono ?_
  rintro e w' ⟨rfl, hm, hB⟩
  have key := H.out.flushed _ (Nat.le_refl _) hm hB
  obtain ⟨⟨d0, d1, d2, d3, d4⟩, z0, z1, z2, z3, z4⟩ := (H.out.below hB).five
  have HK := Lib.hid key
  clear key c0 c1 c2 c3 c4 hc
  go_wp2_with fail
  go_end0
  exact ⟨_, rfl, HK.out⟩

set_option maxHeartbeats 1000000 in
theorem new_no (n room : Int) (w : World) (h : ¬ ((0 ≤ n ∧ n ≤ 4096) ∧ 0 ≤ room)) : Calls Try.prog 28 #[.int .i64 n, .int .i64 room] w
    fun e w' => e = .returned (.tuple #[.pointer none, .int .i64 1]) ∧ w' = w := by
  by_cases h1 : 0 ≤ n ∧ n ≤ 4096
  · have hr : room < 0 := by omega
    have hn : (decide (0 ≤ n) && decide (n ≤ 4096)) = true := by simp only [Bool.and_eq_true, decide_eq_true_eq]; exact h1
    have hc := sright_any n w
    rw [hn] at hc
    clear h h1 hn
    go_enter Try.func28, Try.ntmps28
    go_wp2_with fail
    refine hc.mono ?_
    rintro e w' ⟨rfl, rfl⟩
    go_wp2_with fail
    go_ret2
    exact ⟨rfl, rfl⟩
  · have hn : (decide (0 ≤ n) && decide (n ≤ 4096)) = false := by rw [Bool.eq_false_iff]; intro h2; simp only [Bool.and_eq_true, decide_eq_true_eq] at h2; exact h1 h2
    have hc := sright_any n w
    rw [hn] at hc
    clear h h1 hn
    go_enter Try.func28, Try.ntmps28
    go_wp2_with fail
    refine hc.mono ?_
    rintro e w' ⟨rfl, rfl⟩
    go_wp2_with fail
    go_ret2
    exact ⟨rfl, rfl⟩

theorem Sto.made (w : World) (n room : Int) (h : (0 ≤ n ∧ n ≤ 4096) ∧ 0 ≤ room) :
    Sto (((w.alloc (.map #[] 0)).alloc (.map #[] 0)).alloc (.cells #[.int .i64 n, .int .i64 room, .map (some w.heap.size), .map (some (w.heap.size + 1)), .slice none 0 0] 108)) w.heap.size ⟨w.heap.size + 2, w.heap.size, w.heap.size + 1, none, 0⟩ ⟨n, room, [], 0⟩ := by
  have hm1 : Mp (w.alloc (.map #[] 0)) w.heap.size (Dof []) := (World.ownsMap_made w Try.prog 3 secR).mono (by omega)
  have hm2 : Mp ((w.alloc (.map #[] 0)).alloc (.map #[] 0)) (w.heap.size + 1) (Dof []) := by
    have := (World.ownsMap_made (w.alloc (.map #[] 0)) Try.prog 3 secR).mono (n' := 4096) (by omega)
    rw [World.size_alloc] at this
    exact this
  refine ⟨?_, (hm1.alloc _).alloc _, hm2.alloc _, Own.nil _ _ _ _ _, ⟨h.1.1, h.1.2, h.2, Nat.le_refl _, by simp⟩, ⟨by simp, by simp, by simp⟩, by simp⟩
  have := Blk.new ((w.alloc (.map #[] 0)).alloc (.map #[] 0)) 108 #[.int .i64 n, .int .i64 room, .map (some w.heap.size), .map (some (w.heap.size + 1)), .slice none 0 0]
  simp only [World.size_alloc] at this
  exact this

set_option maxHeartbeats 1000000 in
theorem new_yes (n room : Int) (w : World) (h : (0 ≤ n ∧ n ≤ 4096) ∧ 0 ≤ room) : Calls Try.prog 28 #[.int .i64 n, .int .i64 room] w
    fun e w' => ∃ f, e = .returned (.tuple #[.pointer (some ⟨f.g, 0, none⟩), .int .i64 0]) ∧ Sto w' w.heap.size f ⟨n, room, [], 0⟩ ∧ Below w.heap.size w w' := by
  have hn : (decide (0 ≤ n) && decide (n ≤ 4096)) = true := by simp only [Bool.and_eq_true, decide_eq_true_eq]; exact h.1
  have hc := sright_any n w
  rw [hn] at hc
  have hr : ¬ room < 0 := by omega
  have H := Lib.hid (Sto.made w n room h)
  have hb : Below w.heap.size w (((w.alloc (.map #[] 0)).alloc (.map #[] 0)).alloc (.cells #[.int .i64 n, .int .i64 room, .map (some w.heap.size), .map (some (w.heap.size + 1)), .slice none 0 0] 108)) :=
    (((Below.refl _ _).alloc (Nat.le_refl _) _).alloc (by simp) _).alloc (by simp; omega) _
  have HB := Lib.hid hb
  have hmk : ∀ u : World, (Instr.makeMap 105 none).run Try.prog u = .ok (.map (some u.heap.size)) (u.alloc (.map #[] 0)) := fun u => rfl
  clear h hn hb
  go_enter Try.func28, Try.ntmps28
  go_wp2_with fail
  refine hc.mono ?_
  rintro e w' ⟨rfl, rfl⟩
  go_wp2_with fail
  go_ret2
  exact ⟨⟨_, _, _, none, 0⟩, rfl, H.out, HB.out⟩
end Go.Proofs.Ytbljacafmkdlmaa
