/- store.Copy. Condition: what is loose fits memory. -/
import Derived.Test.YtgblekjkphnjfaaStY
namespace Go.Proofs.Ytgblekjkphnjfaa
open Go.RowKit
set_option linter.unusedSimpArgs false

set_option maxHeartbeats 1000000 in
theorem cloneW_any (A : Option Addr) (m c : Nat) (xs : List Value) (w : World) (hl : xs.length = m * 17) (hr : Row w A xs) (h1 : ∀ u ∈ xs, u.oneCell' = true) (hsz : m ≤ 5000000000000) (hA : A = none → m = 0) :
    Calls Try.prog 40 #[.slice A m c] w fun e w' => ∃ A' c', e = .returned (.slice A' m c') ∧ Own w' w.heap.size 70 17 A' m c' xs ∧ Below w.heap.size w w' := by
  obtain ⟨i1, hi1, hy0, hy1, hy2⟩ := info_parts info_write
  have hnil := fun (a : Option Addr) (w : World) => Lib.run_eql_slice_nil (P := Try.prog) w 62 70 a m c 0 0 Try.underlying62
  cases A with
  | none =>
    obtain rfl := hA rfl
    have hx : xs = [] := List.eq_nil_of_length_eq_zero (by omega)
    subst hx
    have hnil0 := hnil none
    clear hl h1 hnil
    go_enter Try.func40, Try.ntmps40
    go_wp2_with fail
    go_ret
    exact ⟨none, 0, rfl, Own.nil _ _ _ _ _, Below.refl _ _⟩
  | some a =>
    have hsrc : Src Try.prog (w.alloc (.cells #[] 70)) 62 (.slice (some a) m c) 17 m xs := Src.slice Try.underlying62 (hr.alloc _) hl h1
    have hnil0 := hnil (some a)
    clear hA hl h1 hnil
    go_enter Try.func40, Try.ntmps40
    go_wp2_with (at_builtin; refine wpList_app _ rfl _ _ 62 62 rfl w.heap.size 70 i1 _ 17 24 Try.underlying62 hi1 hy0 hy1 hy2 rfl _ 0 0 [] rfl (Own.nil _ _ _ _ _) _ m xs rfl hsrc (by simp only [maxLen]; omega) (by omega) (by simp) ?_; intro A3 c3 w3 hown3 hg3 hb3; rw [Nat.zero_add, List.nil_append] at hown3; rw [Nat.zero_add])
    go_ret
    exact ⟨A3, c3, rfl, hown3, ((Below.refl _ _).alloc (Nat.le_refl _) _).grown hg3 (by simp) (fun i hi => by simp [ownB] at hi)⟩

theorem hold_nil {S : World → Prop} {o : Oper} {a : Act} (x : Operand) (ho : o.op = .nilCheck x) (p : Addr) (hx : a.eval x = .pointer (some p)) : ∀ u, S u → (execOp a.eval o).run Try.prog u = .ok (.value (.pointer (some p))) u := by
  intro u _
  unfold execOp
  simp [ho, hx]
theorem hold_bd5 {S : World → Prop} {o : Oper} {a : Act} {ty : TypeId} (x0 x1 x2 x3 x4 : Operand) (ho : o.op = .build ty #[(0, x0), (1, x1), (2, x2), (3, x3), (4, x4)]) (v0 v1 v2 v3 v4 : Value) (h0 : a.eval x0 = v0) (h1 : a.eval x1 = v1) (h2 : a.eval x2 = v2) (h3 : a.eval x3 = v3) (h4 : a.eval x4 = v4)
    (v : Value) (hr : ∀ u, (Instr.build ty #[(0, v0), (1, v1), (2, v2), (3, v3), (4, v4)]).run Try.prog u = .ok v u) : ∀ u, S u → (execOp a.eval o).run Try.prog u = .ok (.value v) u := by
  intro u _
  unfold execOp
  simp only [ho, List.map_toArray, List.map_cons, List.map_nil, h0, h1, h2, h3, h4, Sem.run_bind, hr, Result.andThen_ok, Sem.run_pure]
theorem build_store (n room : Int) (a b : Nat) (A : Option Addr) (m c : Nat) (u : World) : (Instr.build 64 #[(0, .int .i64 n), (1, .int .i64 room), (2, .map (some a)), (3, .map (some b)), (4, .slice A m c)]).run Try.prog u = .ok (.agg #[.int .i64 n, .int .i64 room, .map (some a), .map (some b), .slice A m c]) u :=
  run_build u 64 _ _ (by kernel_rfl)

set_option maxHeartbeats 4000000 in
theorem copy_any (B : Nat) (f : Fp) (s : St) (w : World) (h : Sto w B f s) (hsz : s.l.length ≤ 5000000000000) :
    Calls Try.prog 25 #[.pointer (some ⟨f.g, 0, none⟩)] w fun e w' => ∃ f2, e = .returned (.pointer (some ⟨f2.g, 0, none⟩)) ∧ Sto w' w.heap.size f2 s ∧ Below w.heap.size w w' := by
  obtain ⟨m, hm⟩ : ∃ m, m = s.l.length - s.k := ⟨_, rfl⟩
  have hblk := h.blk
  rw [← hm] at hblk
  have hown := h.own
  rw [← hm] at hown
  have hl17 : (wcells (s.l.drop s.k)).length = m * 17 := hown.1
  have hA : f.A = none → m = 0 := fun e => by
    obtain ⟨_, h1, _, h2 | ⟨g', cur, lo, hi, h3, _⟩⟩ := hown
    · omega
    · rw [e] at h3; cases h3
  have hm5 : m ≤ 5000000000000 := by omega
  have hcl := fun u hu => cloneW_any f.A m f.c _ u hl17 hu (wcells_one _) hm5 hA
  have HC := Lib.hid hcl
  have H := Lib.hid h
  have HM := Lib.hid hm
  have hrow := hown.row
  have hsafe := h.safe
  have hseen := h.seen
  have hok := h.ok
  clear h hm hcl hown hl17 hA
  go_enter Try.func25, Try.ntmps25
  go_wp2_with fail
  refine wp_region_seqS (fun u => Blk u f.g 64 #[.int .i64 s.n, .int .i64 s.room, .map (some f.b1), .map (some f.b2), .slice f.A m f.c]) (.take 0 .copy (.hold 1 (.take 2 .addr (.hold 3 (.take 4 .copy (.hold 5 (.take 6 .addr (.hold 7 (.take 8 .copy (.hold 9 (.take 10 .addr (.hold 11 (.take 13 .copy (.hold 14 (.take 15 .addr (.hold 16 (.take 18 .copy (.hold 19 (.take 20 .addr (.hold 21 (.alone 12 (.alone 17 (.alone 22 (.hold 23 (.alone 24 (.take 25 .copy .fin)))))))))))))))))))))))))) (by kernel_rfl) (by kernel_rfl) (by kernel_rfl) ?_ ?_
  · exact hblk.drew
  simp only [preS, nxtS, List.getElem?_toArray, List.getElem?_cons_zero, List.getElem?_cons_succ, opAt, ghosts, List.nil_append, gInt, ghost, List.cons_append]
  go_wp2_with fail
  refine next_hold (.pointer (some ⟨f.g, 0, none⟩)) rfl (hold_nil _ rfl ⟨f.g, 0, none⟩ rfl) ?_
  go_wp2_with fail
  refine next_hold (.int .i64 s.n) rfl (hold_cell 3 _ rfl ⟨f.g, 0, none⟩ rfl _ _ (fun u h => h.cell 0) rfl Try.underlying3) ?_
  go_wp2_with fail
  refine next_hold (.pointer (some ⟨f.g, 0, none⟩)) rfl (hold_nil _ rfl ⟨f.g, 0, none⟩ rfl) ?_
  go_wp2_with fail
  refine next_hold (.int .i64 s.room) rfl (hold_cell 3 _ rfl ⟨f.g, 1, none⟩ rfl _ _ (fun u h => h.cell 1) rfl Try.underlying3) ?_
  go_wp2_with fail
  refine next_hold (.pointer (some ⟨f.g, 0, none⟩)) rfl (hold_nil _ rfl ⟨f.g, 0, none⟩ rfl) ?_
  go_wp2_with fail
  refine next_hold (.map (some f.b1)) rfl (hold_cell 58 _ rfl ⟨f.g, 2, none⟩ rfl _ _ (fun u h => h.cell 2) rfl Try.underlying58) ?_
  go_wp2_with fail
  refine next_hold (.pointer (some ⟨f.g, 0, none⟩)) rfl (hold_nil _ rfl ⟨f.g, 0, none⟩ rfl) ?_
  go_wp2_with fail
  refine next_hold (.map (some f.b2)) rfl (hold_cell 58 _ rfl ⟨f.g, 3, none⟩ rfl _ _ (fun u h => h.cell 3) rfl Try.underlying58) ?_
  go_wp2_with fail
  refine next_hold (.pointer (some ⟨f.g, 0, none⟩)) rfl (hold_nil _ rfl ⟨f.g, 0, none⟩ rfl) ?_
  go_wp2_with fail
  refine next_hold (.slice f.A m f.c) rfl (hold_cell 62 _ rfl ⟨f.g, 4, none⟩ rfl _ _ (fun u h => h.cell 4) rfl Try.underlying62) ?_
  go_wp2_with fail
  refine (clone_any f.b1 _ _ hsafe.drew).mono ?_
  rintro e w1 ⟨rfl, hm1, hb1⟩
  have hblk1 := hblk.drew.belowAll hb1
  have hs1 := hseen.drew.below hb1
  have hr1 := hrow.drew.below hb1
  have hsz1 := hb1.size
  have hb1' : Below w.heap.size w w1 := below_all (w1 := w.drew) (Below.refl _ w).drew hb1
  have hsz1 : w.heap.size ≤ w1.heap.size := hb1'.size
  have hm1' : Mp w1 w.heap.size (Dof (s.l.take s.k)) := hm1
  go_wp2_with fail
  refine nextS hblk1 ?_
  go_wp2_with fail
  refine (clone_any f.b2 _ _ hs1).mono ?_
  rintro e w2 ⟨rfl, hm2, hb2⟩
  have hblk2 := hblk1.belowAll hb2
  have hr2 := hr1.below hb2
  have hm12 := hm1'.below hb2
  have hsz2 := hb2.size
  have hlt1 := hm1'.lt
  go_wp2_with fail
  refine nextS hblk2 ?_
  go_wp2_with fail
  refine (HC.out _ hr2).mono ?_
  rintro e w3 ⟨A', c', rfl, hown3, hb3⟩
  have hblk3 := hblk2.belowAll hb3
  have hm13 := hm12.below hb3
  have hm23 := hm2.below hb3
  have hsz3 := hb3.size
  have hb03 : Below w.heap.size w w3 := below_all (below_all hb1' hb2) hb3
  go_wp2_with fail
  refine nextS hblk3 ?_
  go_wp2_with fail
  refine next_hold (.agg #[.int .i64 s.n, .int .i64 s.room, .map (some w.heap.size), .map (some w1.heap.size), .slice A' m c']) rfl (hold_bd5 _ _ _ _ _ rfl _ _ _ _ _ rfl rfl rfl rfl rfl _ (fun u => build_store s.n s.room w.heap.size w1.heap.size A' m c' u)) ?_
  go_wp2_with fail
  refine nextS (hblk3.alloc _) ?_
  go_wp2_with fail
  refine ends_normal ?_
  have hsto : Sto (w3.alloc (.cells #[.int .i64 s.n, .int .i64 s.room, .map (some w.heap.size), .map (some w1.heap.size), .slice A' m c'] 64)) w.heap.size ⟨w3.heap.size, w.heap.size, w1.heap.size, A', c'⟩ s := by
    have h1 := Blk.new w3 64 #[.int .i64 s.n, .int .i64 s.room, .map (some w.heap.size), .map (some w1.heap.size), .slice A' m c']
    have e := HM.out
    subst e
    refine ⟨h1, hm13.alloc _, hm23.alloc _, (hown3.less (by omega)).alloc _, hok, ⟨by simp only; omega, Nat.le_refl _, by simp only; omega⟩, ?_⟩
    simp only
    omega
  have HSTO := Lib.hid hsto
  have HB := Lib.hid (hb03.alloc hb03.size (.cells #[.int .i64 s.n, .int .i64 s.room, .map (some w.heap.size), .map (some w1.heap.size), .slice A' m c'] 64))
  clear hsto
  go_wp2_with fail
  go_ret
  exact ⟨⟨w3.heap.size, w.heap.size, w1.heap.size, A', c'⟩, rfl, HSTO.out, HB.out⟩
end Go.Proofs.Ytgblekjkphnjfaa
