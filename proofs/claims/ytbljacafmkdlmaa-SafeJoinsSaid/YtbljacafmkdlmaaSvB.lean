/- safe.Begin's inner functions, Saver.Left, Saver.Step. Condition: a store and a saver as they lie in memory. -/
import Derived.Test.YtbljacafmkdlmaaSvA
namespace Go.Proofs.Ytbljacafmkdlmaa
set_option maxRecDepth 100000
open Go.RowKit
set_option linter.unusedSimpArgs false
set_option linter.unusedVariables false

theorem info_fn : (Try.prog.info? 87).map (fun i => (i.zero, i.size, i.bytes)) = some (some .nilFunc, 1, 8) := by kernel_rfl
theorem hold_fn {S : World → Prop} {o : Oper} {a : Act} (fn : Fn) (caps : Array Operand) (ho : o.op = .makeFunc fn #[] caps) (vs : Array Value) (hx : caps.map a.eval = vs) : ∀ u, S u → (execOp a.eval o).run Try.prog u = .ok (.value (.func fn #[] vs)) u := by
  intro u _
  unfold execOp
  simp [ho, hx, Instr.makeFunc]
theorem cell1 {u : World} {g : Nat} {t : TypeId} {v : Value} (h : Blk u g t #[v]) : u.cell? ⟨g, 0, none⟩ = some v := by
  have := h.cell 0
  simpa using this
theorem cell2 {u : World} {g : Nat} {t : TypeId} {v v2 : Value} (h : Blk u g t #[v, v2]) : u.cell? ⟨g, 0, none⟩ = some v ∧ u.cell? ⟨g, 1, none⟩ = some v2 ∧ u.frozen? ⟨g, 0, none⟩ = false ∧ u.frozen? ⟨g, 1, none⟩ = false := by
  have h0 := h.cell 0
  have h1 := h.cell 1
  exact ⟨by simpa using h0, by simpa using h1, h.frozen 0, h.frozen 1⟩
/-- What an append to a saver's row leaves. -/
def AppPost (w : World) (B gv : Nat) (e : Int) (A : Option Addr) (n c : Nat) (vs : List Value) (v : Value) (w' : World) : Prop :=
  ∃ A' c', Blk w' gv 86 #[.slice A' (n + 1) c', .int .i64 e] ∧ Own w' B 87 1 A' (n + 1) c' (vs ++ [v]) ∧ Only w w' (fun k => k = gv ∨ ownB A c = some k)
theorem AppPost.of {w w2 w4 : World} {B gv : Nat} {e : Int} {A : Option Addr} {n c : Nat} {vs : List Value} {v : Value} {A4 : Option Addr} {c4 : Nat} (hb : Below w.heap.size w w2) (hv : Blk w2 gv 86 #[.slice A n c, .int .i64 e]) (hown : Own w2 B 87 1 A n c vs) (hgw : gv < w.heap.size)
    (hown4 : Own w4 B 87 1 A4 (n + 1) c4 (vs ++ [v])) (hg4 : w2.grownBy w4 (ownB A c)) (hb4 : ownB A4 c4 = ownB A c ∨ ownB A4 c4 = some w2.heap.size) :
    AppPost w B gv e A n c vs v (w4.setCell ⟨gv, 0, none⟩ (.slice A4 (n + 1) c4)) := by
  have hne : ∀ k, ownB A c = some k → gv ≠ k := fun k hk h => hown.blk_ne hv (by decide) k hk h.symm
  have hv4 : Blk w4 gv 86 #[.slice A n c, .int .i64 e] := hv.grown hg4 (fun h => hne gv h rfl)
  have hne4 : ∀ k, ownB A4 c4 = some k → k ≠ gv := fun k hk h => by
    have := hown4.blk_ne hv4 (by decide) k hk
    exact this h
  refine ⟨A4, c4, hv4.set_ 0 _, hown4.setCell hne4 _, ?_⟩
  exact ((Only.of_below hb _).grown hg4 (fun k hk => .inl (.inr hk))).setCell (p := ⟨gv, 0, none⟩) (.inl (.inl rfl)) _

set_option maxHeartbeats 2000000 in
theorem appW_any (B gv gp gs : Nat) (e : Int) (A : Option Addr) (n c : Nat) (vs : List Value) (a : Int) (X : Option Addr) (m cx : Nat) (w : World) (hp : Blk w gp 37 #[.pointer (some ⟨gv, 0, none⟩)]) (hv : Blk w gv 86 #[.slice A n c, .int .i64 e])
    (hown : Own w B 87 1 A n c vs) (hB : B ≤ w.heap.size) (hn : n ≤ 1000000) :
    Calls Try.prog 40 #[.int .i64 a, .slice X m cx, .pointer (some ⟨gp, 0, none⟩), .pointer (some ⟨gs, 0, none⟩)] w fun e' w' =>
      e' = .returned (.tuple #[]) ∧ Blk w' w.heap.size 3 #[.int .i64 a] ∧ Blk w' (w.heap.size + 1) 23 #[.slice X m cx] ∧ AppPost w B gv e A n c vs (.func (.func 41) #[] #[.pointer (some ⟨gs, 0, none⟩), .pointer (some ⟨w.heap.size, 0, none⟩), .pointer (some ⟨w.heap.size + 1, 0, none⟩)]) w' := by
  obtain ⟨i0, hi0, hz0, hz1, hz2⟩ := info_parts info_fn
  have hb1 := Blk.new w 3 #[.int .i64 a]
  have hb2 := Blk.new (w.alloc (.cells #[.int .i64 a] 3)) 23 #[.slice X m cx]
  have hb1' := hb1.alloc (.cells #[.slice X m cx] 23)
  have hbw : Below w.heap.size w ((w.alloc (.cells #[.int .i64 a] 3)).alloc (.cells #[.slice X m cx] 23)) := ((Below.refl _ w).alloc (Nat.le_refl _) _).alloc (by simp) _
  have hsz2 : ((w.alloc (.cells #[.int .i64 a] 3)).alloc (.cells #[.slice X m cx] 23)).heap.size = w.heap.size + 2 := by simp
  have hsz1 : (w.alloc (.cells #[.int .i64 a] 3)).heap.size = w.heap.size + 1 := by simp
  rw [hsz1] at hb2
  obtain ⟨w2, hw2⟩ : ∃ w2, w2 = (w.alloc (.cells #[.int .i64 a] 3)).alloc (.cells #[.slice X m cx] 23) := ⟨_, rfl⟩
  rw [← hw2] at hb2 hb1' hbw hsz2
  have hp2 := hp.belowAll hbw
  have hv2 := hv.belowAll hbw
  have hown2 := hown.below hbw
  have hgw := hv.lt
  obtain ⟨h1, hh1⟩ : ∃ h1, h1 = w.heap.size := ⟨_, rfl⟩
  rw [← hh1] at hb1' hb2 hsz2 hgw hB hbw ⊢
  have hFIN : ∀ A4 c4 w3 w4, Below w2.heap.size w2 w3 → Own w4 B 87 1 A4 (n + 1) c4 (vs ++ [.func (.func 41) #[] #[.pointer (some ⟨gs, 0, none⟩), .pointer (some ⟨h1, 0, none⟩), .pointer (some ⟨h1 + 1, 0, none⟩)]]) → w3.grownBy w4 (ownB A c) → (ownB A4 c4 = ownB A c ∨ ownB A4 c4 = some w3.heap.size) →
      Blk (w4.setCell ⟨gv, 0, none⟩ (.slice A4 (n + 1) c4)) h1 3 #[.int .i64 a] ∧ Blk (w4.setCell ⟨gv, 0, none⟩ (.slice A4 (n + 1) c4)) (h1 + 1) 23 #[.slice X m cx] ∧ AppPost w B gv e A n c vs (.func (.func 41) #[] #[.pointer (some ⟨gs, 0, none⟩), .pointer (some ⟨h1, 0, none⟩), .pointer (some ⟨h1 + 1, 0, none⟩)]) (w4.setCell ⟨gv, 0, none⟩ (.slice A4 (n + 1) c4)) := fun A4 c4 w3 w4 hb3 hown4 hg4 hb4 => by
    have hbw3 : Below w.heap.size w _ := (show Below w.heap.size w w2 by rw [← hh1]; exact hbw).trans (hb3.mono (by rw [hsz2, hh1]; omega))
    have ho := hown2.below hb3
    have hne : ∀ g t cs, Blk w2 g t cs → t ≠ 87 → ownB A c ≠ some g := fun g t cs hg ht hk => hown2.blk_ne hg (fun e => ht e.symm) g hk rfl
    refine ⟨?_, ?_, AppPost.of hbw3 (hv2.belowAll hb3) ho (by rw [← hh1]; exact hgw) hown4 hg4 hb4⟩
    · exact ((hb1'.belowAll hb3).grown hg4 (fun hk => hne _ _ _ hb1' (by decide) hk)).far (p := ⟨gv, 0, none⟩) (show h1 ≠ gv by omega) _
    · exact ((hb2.belowAll hb3).grown hg4 (fun hk => hne _ _ _ hb2 (by decide) hk)).far (p := ⟨gv, 0, none⟩) (show h1 + 1 ≠ gv by omega) _
  have HFIN := Lib.hid hFIN
  have HW2 := Lib.hid hw2
  have HH1 := Lib.hid hh1
  have hBw2 : B ≤ w2.heap.size := by rw [hsz2]; omega
  clear hFIN hw2 hh1 hsz1 hsz2
  go_enter Try.func40, Try.ntmps40
  go_upto_region 1 with fail
  rw [← HW2.out, ← HH1.out]
  clear HW2
  refine wp_region_seqS (fun u => Blk u gp 37 #[.pointer (some ⟨gv, 0, none⟩)]) (.hold 0 (.hold 1 (.hold 2 (.take 3 .addr (.hold 5 (.fork 4 (.alone 6 (.alone 7 (.hold 8 (.take 9 .addr (.alone 10 .fin))))) 6 (.alone 4 (.alone 7 (.hold 8 (.take 9 .addr (.alone 10 .fin))))))))))) (by kernel_rfl) (by kernel_rfl) (by kernel_rfl) ?_ ?_
  · exact hp2.drew
  simp only [preS, nxtS, List.getElem?_toArray, List.getElem?_cons_zero, List.getElem?_cons_succ, opAt, ghosts, List.nil_append, gInt, ghost, List.cons_append]
  have hgp : gp ≠ gv := hp2.ne_ hv2 (by decide)
  obtain ⟨y0, y1, yf0, yf1⟩ := cell2 hv2.drew
  go_wp2_with fail
  refine next_hold (.pointer (some ⟨gv, 0, none⟩)) rfl (hold_cell 37 _ rfl ⟨gp, 0, none⟩ rfl _ _ (fun u h => cell1 h) rfl Try.underlying37) ?_
  go_wp2_with fail
  refine next_hold (.pointer (some ⟨gv, 0, none⟩)) rfl (hold_cell 37 _ rfl ⟨gp, 0, none⟩ rfl _ _ (fun u h => cell1 h) rfl Try.underlying37) ?_
  go_wp2_with fail
  refine next_hold (.pointer (some ⟨gv, 0, none⟩)) rfl (hold_nil _ rfl ⟨gv, 0, none⟩ rfl) ?_
  go_wp2_with fail
  refine next_hold _ rfl (hold_fn _ _ rfl _ rfl) ?_
  go_wp2_with fail
  refine next_fork ?_ ?_
  · go_wp2_with fail
    refine nextS hp2.drew ?_
    go_wp2_with fail
    refine nextS (hp2.drew.alloc _) ?_
    go_wp2_with (at_builtin; refine wpList_app _ rfl _ _ 84 84 rfl B 87 i0 _ 1 8 Try.underlying84 hi0 hz0 hz1 hz2 rfl A n c _ rfl (hown2.drew.alloc _) _ 1 _ rfl (Src.new Try.underlying84 rfl (by simp [Value.oneCell'])) (by simp only [maxLen]; omega) (by omega) (Nat.le_trans hBw2 (by simp)) ?_; intro A4 c4' w4 hown4 hg4 hb4; refine Classical.byContradiction fun hstop => ?_)
    refine absurd ?_ hstop
    clear hstop
    have hp4 := (hp2.drew.alloc (.cells #[.func (.func 41) #[] #[.pointer (some ⟨gs, 0, none⟩), .pointer (some ⟨h1, 0, none⟩), .pointer (some ⟨h1 + 1, 0, none⟩)]] 87)).grown hg4 (fun hk => (hown2.drew.alloc _).blk_ne (hp2.drew.alloc (.cells #[.func (.func 41) #[] #[.pointer (some ⟨gs, 0, none⟩), .pointer (some ⟨h1, 0, none⟩), .pointer (some ⟨h1 + 1, 0, none⟩)]] 87)) (by decide) _ hk rfl)
    have hv4 := (hv2.drew.alloc (.cells #[.func (.func 41) #[] #[.pointer (some ⟨gs, 0, none⟩), .pointer (some ⟨h1, 0, none⟩), .pointer (some ⟨h1 + 1, 0, none⟩)]] 87)).grown hg4 (fun hk => (hown2.drew.alloc _).blk_ne (hv2.drew.alloc (.cells #[.func (.func 41) #[] #[.pointer (some ⟨gs, 0, none⟩), .pointer (some ⟨h1, 0, none⟩), .pointer (some ⟨h1 + 1, 0, none⟩)]] 87)) (by decide) _ hk rfl)
    have hfin := HFIN.out A4 c4' _ w4 ((Below.refl _ w2).drew.alloc (Nat.le_refl _) _) hown4 hg4 hb4
    have hp5 := hp4.far (p := ⟨gv, 0, none⟩) (fun e => hgp (show gp = gv from e)) (.slice A4 (n + 1) c4')
    have HF := Lib.hid hfin
    clear hfin
    refine nextS hp4 ?_
    obtain ⟨z0, z1, zf0, zf1⟩ := cell2 hv4
    go_wp2_with fail
    refine next_hold (.pointer (some ⟨gv, 0, none⟩)) rfl (hold_nil _ rfl ⟨gv, 0, none⟩ rfl) ?_
    go_wp2_with fail
    refine nextS hp5 ?_
    refine ends_normal ?_
    go_wp2_with fail
    go_end0
    exact ⟨rfl, HF.out⟩
  · go_wp2_with fail
    refine nextS (hp2.drew.alloc _) ?_
    obtain ⟨y0, y1, yf0, yf1⟩ := cell2 (hv2.alloc (.cells #[.func (.func 41) #[] #[.pointer (some ⟨gs, 0, none⟩), .pointer (some ⟨h1, 0, none⟩), .pointer (some ⟨h1 + 1, 0, none⟩)]] 87))
    go_wp2_with fail
    refine nextS (hp2.drew.alloc _) ?_
    go_wp2_with (at_builtin; refine wpList_app _ rfl _ _ 84 84 rfl B 87 i0 _ 1 8 Try.underlying84 hi0 hz0 hz1 hz2 rfl A n c _ rfl (hown2.drew.alloc _) _ 1 _ rfl (Src.new Try.underlying84 rfl (by simp [Value.oneCell'])) (by simp only [maxLen]; omega) (by omega) (Nat.le_trans hBw2 (by simp)) ?_; intro A4 c4' w4 hown4 hg4 hb4; refine Classical.byContradiction fun hstop => ?_)
    refine absurd ?_ hstop
    clear hstop
    have hp4 := (hp2.drew.alloc (.cells #[.func (.func 41) #[] #[.pointer (some ⟨gs, 0, none⟩), .pointer (some ⟨h1, 0, none⟩), .pointer (some ⟨h1 + 1, 0, none⟩)]] 87)).grown hg4 (fun hk => (hown2.drew.alloc _).blk_ne (hp2.drew.alloc (.cells #[.func (.func 41) #[] #[.pointer (some ⟨gs, 0, none⟩), .pointer (some ⟨h1, 0, none⟩), .pointer (some ⟨h1 + 1, 0, none⟩)]] 87)) (by decide) _ hk rfl)
    have hv4 := (hv2.drew.alloc (.cells #[.func (.func 41) #[] #[.pointer (some ⟨gs, 0, none⟩), .pointer (some ⟨h1, 0, none⟩), .pointer (some ⟨h1 + 1, 0, none⟩)]] 87)).grown hg4 (fun hk => (hown2.drew.alloc _).blk_ne (hv2.drew.alloc (.cells #[.func (.func 41) #[] #[.pointer (some ⟨gs, 0, none⟩), .pointer (some ⟨h1, 0, none⟩), .pointer (some ⟨h1 + 1, 0, none⟩)]] 87)) (by decide) _ hk rfl)
    have hfin := HFIN.out A4 c4' _ w4 ((Below.refl _ w2).drew.alloc (Nat.le_refl _) _) hown4 hg4 hb4
    have hp5 := hp4.far (p := ⟨gv, 0, none⟩) (fun e => hgp (show gp = gv from e)) (.slice A4 (n + 1) c4')
    have HF := Lib.hid hfin
    clear hfin
    refine nextS hp4 ?_
    obtain ⟨z0, z1, zf0, zf1⟩ := cell2 hv4
    go_wp2_with fail
    refine next_hold (.pointer (some ⟨gv, 0, none⟩)) rfl (hold_nil _ rfl ⟨gv, 0, none⟩ rfl) ?_
    go_wp2_with fail
    refine nextS hp5 ?_
    refine ends_normal ?_
    go_wp2_with fail
    go_end0
    exact ⟨rfl, HF.out⟩

set_option maxHeartbeats 1000000 in
theorem vleft_any (gv sg : Nat) (l : List SOp) (e : Int) (w : World) (h : Sv w gv sg l e) :
    Calls Try.prog 17 #[.pointer (some ⟨gv, 0, none⟩)] w fun e' w' => e' = .returned (.int .i64 (l.length : Int)) ∧ w' = w := by
  obtain ⟨A, c, vs, hb, _⟩ := h
  obtain ⟨z0, z1, zf0, zf1⟩ := cell2 hb
  obtain ⟨n, hn⟩ : ∃ n, n = l.length := ⟨_, rfl⟩
  rw [← hn] at z0 ⊢
  clear hn hb
  go_enter Try.func17, Try.ntmps17
  go_wp2_with fail
  go_ret
  exact ⟨rfl, rfl⟩

def stepD (t : St × List SOp × Int) : Bool := decide ((stepV t).2.2 = 0) && (stepV t).2.1.isEmpty
/-- What a step leaves. -/
def StepPost (w : World) (B : Nat) (f : Fp) (gv : Nat) (t : St × List SOp × Int) (e : Ending) (w' : World) : Prop :=
  ∃ f', e = .returned (.tuple #[.bool (stepD t), .int .i64 (stepV t).2.2]) ∧ Sto w' B f' (stepV t).1 ∧ Sv w' gv f.g (stepV t).2.1 (stepV t).2.2 ∧ Only w w' (fun k => Foot f k ∨ k = gv) ∧ (∀ k, Foot f' k → Foot f k ∨ w.heap.size ≤ k) ∧ f'.g = f.g

theorem StepPost.drew {w : World} {B : Nat} {f : Fp} {gv : Nat} {t : St × List SOp × Int} {e : Ending} {w' : World} (h : StepPost w B f gv t e w') : StepPost w B f gv t e w'.drew := by
  obtain ⟨f', h1, h2, h3, h4, h5, h6⟩ := h
  exact ⟨f', h1, h2.drew, h3.below (Below.refl _ w').drew, h4.drew, h5, h6⟩
set_option maxHeartbeats 2000000 in
theorem step_nil (B : Nat) (f : Fp) (s : St) (gv : Nat) (er : Int) (w : World) (h : Sto w B f s) (hv : Sv w gv f.g [] er) :
    Calls Try.prog 18 #[.pointer (some ⟨gv, 0, none⟩)] w (StepPost w B f gv (s, [], er)) := by
  have hfin : StepPost w B f gv (s, [], er) (.returned (.tuple #[.bool (decide (er = 0)), .int .i64 er])) w.drew :=
    ⟨f, by show _ = Ending.returned (.tuple #[.bool (decide (er = 0) && true), .int .i64 er]); rw [Bool.and_true], h.drew, hv.below (Below.refl _ w).drew, (Only.refl _ _).drew, fun k hk => .inl hk, rfl⟩
  obtain ⟨A, c, vs, hb, _⟩ := hv
  obtain ⟨z0, z1, zf0, zf1⟩ := cell2 hb
  obtain ⟨y0, y1, yf0, yf1⟩ := cell2 hb.drew
  simp only [List.length_nil] at z0 y0
  have HF := Lib.hid hfin
  clear hb h hfin
  by_cases he : er = 0
  · subst he
    go_enter Try.func18, Try.ntmps18
    go_wp2_with fail
    refine wp_region_seq true (.take 0 .copy (.take 5 .copy (.fork 1 (.take 2 .addr (.take 3 .load (.take 4 .int2 (.take 9 .copy (.alone 6 (.take 7 .addr (.take 8 .load (.take 10 .copy .fin)))))))) 6 (.take 7 .addr (.take 8 .load (.alone 1 (.take 2 .addr (.take 3 .load (.take 4 .int2 (.take 9 .copy (.take 10 .copy .fin))))))))))) (by kernel_rfl) (by kernel_rfl) (by kernel_rfl) ?_
    simp only [pre, nxt, List.getElem?_toArray, List.getElem?_cons_zero, List.getElem?_cons_succ, opAt, ghosts, List.nil_append, gInt, ghost, List.cons_append]
    go_wp2_with fail
    refine next_fork ?_ ?_
    all_goals
      go_wp2_with fail
      refine next_keep (Keep.refl _) ?_
      go_wp2_with fail
      refine next_keep (Keep.refl _) ?_
      go_wp2_with fail
      refine ends_normal ?_
      go_wp2_with fail
      go_ret2
      exact HF.out
  · have hd : decide (er = 0) = (er == 0) := by rw [Bool.eq_iff_iff]; simp
    rw [hd] at HF
    clear hd
    go_enter Try.func18, Try.ntmps18
    go_wp2_with fail
    refine wp_region_seq true (.take 0 .copy (.take 5 .copy (.fork 1 (.take 2 .addr (.take 3 .load (.take 4 .int2 (.take 9 .copy (.alone 6 (.take 7 .addr (.take 8 .load (.take 10 .copy .fin)))))))) 6 (.take 7 .addr (.take 8 .load (.alone 1 (.take 2 .addr (.take 3 .load (.take 4 .int2 (.take 9 .copy (.take 10 .copy .fin))))))))))) (by kernel_rfl) (by kernel_rfl) (by kernel_rfl) ?_
    simp only [pre, nxt, List.getElem?_toArray, List.getElem?_cons_zero, List.getElem?_cons_succ, opAt, ghosts, List.nil_append, gInt, ghost, List.cons_append]
    go_wp2_with fail
    refine next_fork ?_ ?_
    all_goals
      go_wp2_with fail
      refine next_keep (Keep.refl _) ?_
      go_wp2_with fail
      refine next_keep (Keep.refl _) ?_
      go_wp2_with fail
      refine ends_normal ?_
      go_wp2_with fail
      go_ret2
      exact HF.out

/-- How a saver stands behind its first function. -/
structure Heads (w : World) (gv sg : Nat) (o : SOp) (r : List SOp) (e : Int) (ga oa c : Nat) (v : Value) (vs : List Value) : Prop where
  blk : Blk w gv 86 #[.slice (some ⟨ga, oa, none⟩) (r.length + 1) c, .int .i64 e]
  room : r.length + 1 ≤ c
  fn : FnOK w sg o v
  fns : Fns w sg r vs
  cell : w.cell? ⟨ga, oa, none⟩ = some v
  row : Row w (some ⟨ga, oa + 1, none⟩) vs
  kind : ∃ cur lh, w.heap[ga]? = some (.cells cur 87 lh)
theorem Sv.heads {w : World} {gv sg : Nat} {o : SOp} {r : List SOp} {e : Int} (h : Sv w gv sg (o :: r) e) : ∃ ga oa c v vs, Heads w gv sg o r e ga oa c v vs := by
  obtain ⟨A, c, vs, hb, hc, hf, hr, hk⟩ := h
  cases hf with
  | cons h1 h2 =>
    rename_i v vs
    obtain ⟨ga, oa, rfl, hg, hcs⟩ := hr.at_ (by simp)
    refine ⟨ga, oa, c, v, vs, hb, hc, h1, h2, hcs 0 _ rfl, ?_, hk (by simp) _ rfl⟩
    by_cases hx : vs = []
    · rw [hx]; exact Row.nil _ _
    · refine .inr ⟨ga, oa + 1, rfl, fun j u hu => ?_⟩
      have := hcs (j + 1) u (by simpa using hu)
      rw [Nat.add_assoc, Nat.add_comm 1 j]
      exact this
/-- What the saver is when its first function went well. -/
theorem Heads.good {w w1 : World} {gv sg : Nat} {o : SOp} {r : List SOp} {e : Int} {ga oa c : Nat} {v : Value} {vs : List Value} (h : Heads w gv sg o r e ga oa c v vs) {B : Nat} {f f' : Fp} {s s1 : St} (hs : Sto w B f s) (ht : Turned w w1 f f') (hs1 : Sto w1 B f' s1) (ob : Nat) (hob : r ≠ [] → ob = oa + 1) (hsg : sg = f.g) (t : St × List SOp × Int) (hst : stepV t = (s1, r, 0)) :
    StepPost w B f gv t (.returned (.tuple #[.bool (decide (r.length = 0)), .int .i64 0])) ((w1.setCell ⟨gv, 1, none⟩ (.int .i64 0)).setCell ⟨gv, 0, none⟩ (.slice (some ⟨ga, ob, none⟩) r.length (c - 1))) := by
  have hnb := hs.not_of h.blk (by decide) (by decide)
  have hb1 := h.blk.only ht.only hnb
  have hnb1 := hs1.not_of hb1 (by decide) (by decide)
  have ho : Only w1 ((w1.setCell ⟨gv, 1, none⟩ (.int .i64 0)).setCell ⟨gv, 0, none⟩ (.slice (some ⟨ga, ob, none⟩) r.length (c - 1))) (fun k => k = gv) := ((Only.refl w1 (fun k => k = gv)).setCell (p := ⟨gv, 1, none⟩) (.inl rfl) _).setCell (p := ⟨gv, 0, none⟩) (.inl rfl) _
  have ho2 : Only w ((w1.setCell ⟨gv, 1, none⟩ (.int .i64 0)).setCell ⟨gv, 0, none⟩ (.slice (some ⟨ga, ob, none⟩) r.length (c - 1))) (fun k => Foot f k ∨ k = gv) := by
    refine ((ht.only.mono (G := fun k => Foot f k ∨ k = gv) (fun k _ hk => .inl hk)).setCell (p := ⟨gv, 1, none⟩) (.inl (.inr rfl)) _).setCell (p := ⟨gv, 0, none⟩) (.inl (.inr rfl)) _
  have hF : ∀ k, (Foot f k ∨ k = gv) → Far4 w k := fun k hk => by
    rcases hk with hk | rfl
    · exact hs.far4 k hk
    · exact h.blk.far4 (by decide)
  obtain ⟨cur, lh, hcur⟩ := h.kind
  have hgan : ¬ (Foot f ga ∨ ga = gv) := fun hk => by
    rcases hk with hk | rfl
    · rcases hs.types hk hcur with e | e
      · exact absurd e (by decide)
      · exact absurd e (by decide)
    · have := h.blk
      unfold Blk at this
      rw [this] at hcur
      injection hcur with hcur
      injection hcur with _ hcur
      exact absurd hcur (by decide)
  refine ⟨f', ?_, by rw [hst]; exact hs1.only ho (fun k hk e => hnb1 (e ▸ hk)), ?_, ho2, fun k hk => ht.grows k hk, ht.same⟩
  · unfold stepD
    rw [hst]
    cases r <;> rfl
  · rw [hst]
    refine ⟨some ⟨ga, ob, none⟩, c - 1, vs, ?_, by have := h.room; simp only; omega, by rw [← hsg]; exact h.fns.only ho2 hF, ?_, fun hx a ha => ?_⟩
    · exact (hb1.set_ 1 _).set_ 0 _
    · by_cases hx : vs = []
      · rw [hx]; exact Row.nil _ _
      · have hr : r ≠ [] := fun hr => hx (by have := h.fns.length; rw [hr] at this; exact List.eq_nil_of_length_eq_zero this)
        have hrw := h.row.only ho2 (fun a ha hk => by injection ha with ha; rw [← ha] at hk; exact hgan hk)
        rw [← hob hr] at hrw
        exact hrw
    · injection ha with ha
      rw [← ha]
      have hlt : ga < w.heap.size := (Array.getElem?_eq_some_iff.1 hcur).1
      exact ⟨cur, lh, (ho2.block _ hlt hgan).trans hcur⟩
/-- What the saver is when its first function failed. -/
theorem Heads.bad {w w1 : World} {gv sg : Nat} {o : SOp} {r : List SOp} {e : Int} {ga oa c : Nat} {v : Value} {vs : List Value} (h : Heads w gv sg o r e ga oa c v vs) {B : Nat} {f f' : Fp} {s s1 : St} (hs : Sto w B f s) (ht : Turned w w1 f f') (hs1 : Sto w1 B f' s1) (er : Int) (her : ¬ er = 0) (x : Value) (t : St × List SOp × Int) (hst : stepV t = (s1, [], er)) :
    StepPost w B f gv t (.returned (.tuple #[.bool false, .int .i64 er])) (((w1.setCell ⟨gv, 1, none⟩ (.int .i64 er)).setCell ⟨gv, 0, none⟩ x).setCell ⟨gv, 0, none⟩ (.slice none 0 0)) := by
  have hnb := hs.not_of h.blk (by decide) (by decide)
  have hb1 := h.blk.only ht.only hnb
  have hnb1 := hs1.not_of hb1 (by decide) (by decide)
  have ho : Only w1 (((w1.setCell ⟨gv, 1, none⟩ (.int .i64 er)).setCell ⟨gv, 0, none⟩ x).setCell ⟨gv, 0, none⟩ (.slice none 0 0)) (fun k => k = gv) := (((Only.refl w1 (fun k => k = gv)).setCell (p := ⟨gv, 1, none⟩) (.inl rfl) _).setCell (p := ⟨gv, 0, none⟩) (.inl rfl) _).setCell (p := ⟨gv, 0, none⟩) (.inl rfl) _
  have ho2 : Only w (((w1.setCell ⟨gv, 1, none⟩ (.int .i64 er)).setCell ⟨gv, 0, none⟩ x).setCell ⟨gv, 0, none⟩ (.slice none 0 0)) (fun k => Foot f k ∨ k = gv) := by
    refine (((ht.only.mono (G := fun k => Foot f k ∨ k = gv) (fun k _ hk => .inl hk)).setCell (p := ⟨gv, 1, none⟩) (.inl (.inr rfl)) _).setCell (p := ⟨gv, 0, none⟩) (.inl (.inr rfl)) _).setCell (p := ⟨gv, 0, none⟩) (.inl (.inr rfl)) _
  refine ⟨f', ?_, by rw [hst]; exact hs1.only ho (fun k hk e => hnb1 (e ▸ hk)), ?_, ho2, fun k hk => ht.grows k hk, ht.same⟩
  · unfold stepD
    rw [hst]
    simp only [decide_eq_false her, Bool.false_and]
  · rw [hst]
    exact ⟨none, 0, [], ((hb1.set_ 1 _).set_ 0 _).set_ 0 _, Nat.le_refl _, .nil, Row.nil _ _, fun hx => absurd rfl hx⟩

theorem enters_fl (args : Array Value) (w : World) : (callFunc 38 args).run Try.prog w = .ok (.enter 38 args) w := by
  have h1 : Try.f38.name ≠ "runtime.NumGoroutine" := by decide
  have h2 : Try.f38.body = none → False := fun h => by
    have h3 : Try.f38.body.isNone = false := by kernel_rfl
    rw [h] at h3
    cases h3
  simp [callFunc, Try.func38, h1]
  exact fun h => (h2 h).elim
theorem enters_wr (args : Array Value) (w : World) : (callFunc 41 args).run Try.prog w = .ok (.enter 41 args) w := by
  have h1 : Try.f41.name ≠ "runtime.NumGoroutine" := by decide
  have h2 : Try.f41.body = none → False := fun h => by
    have h3 : Try.f41.body.isNone = false := by kernel_rfl
    rw [h] at h3
    cases h3
  simp [callFunc, Try.func41, h1]
  exact fun h => (h2 h).elim

set_option maxHeartbeats 4000000 in
theorem step_cons (B : Nat) (f : Fp) (s : St) (gv : Nat) (o : SOp) (r : List SOp) (e0 : Int) (w : World) (h : Sto w B f s) (hv : Sv w gv f.g (o :: r) e0) (hsz : s.l.length + 4096 ≤ 5000000000000) :
    Calls Try.prog 18 #[.pointer (some ⟨gv, 0, none⟩)] w (StepPost w B f gv (s, o :: r, e0)) := by
  obtain ⟨ga, oa, c, v, vs, H⟩ := hv.heads
  have hcall : ∃ k cs, v = .func (.func k) #[] cs ∧ (∀ (args : Array Value) (w : World), (callFunc k args).run Try.prog w = .ok (.enter k args) w) ∧ Calls Try.prog k cs w (WrPost w B f (doS s o)) := by
    have hfn := H.fn
    cases o with
    | flush =>
      obtain ⟨gs, rfl, hb⟩ := hfn
      exact ⟨_, _, rfl, enters_fl, flushC_any B f s gs w h hb⟩
    | write a b =>
      obtain ⟨gs, ga, gx, A, m, c, rfl, h1, h2, h3, hm, hmc, hm5, hr, hb⟩ := hfn
      exact ⟨_, _, rfl, enters_wr, writeC_any B f s gs ga gx a A m c b w h h1 h2 h3 hm hmc hm5 hr hb hsz⟩
  obtain ⟨fk, cs, rfl, hent, hcall⟩ := hcall
  obtain ⟨z0, z1, zf0, zf1⟩ := cell2 H.blk
  have zc := H.cell
  have hroom := H.room
  have hst : stepV (s, o :: r, e0) = if (doS s o).2 = 0 then ((doS s o).1, r, 0) else ((doS s o).1, [], (doS s o).2) := rfl
  obtain ⟨⟨s1, er⟩, hse⟩ : ∃ q, q = doS s o := ⟨_, rfl⟩
  rw [← hse] at hcall hst
  simp only at hst
  have hnb := h.not_of H.blk (by decide) (by decide)
  obtain ⟨n, hn⟩ : ∃ n, n = r.length := ⟨_, rfl⟩
  by_cases her : er = 0
  · subst her
    rw [if_pos rfl] at hst
    have hfin := fun w1 f' ob ht hs1 hob => H.good (w1 := w1) (f' := f') h ht hs1 ob hob rfl _ hst
    have hbk := fun w1 (ho : Only w w1 (Foot f)) => H.blk.only ho hnb
    rw [← hn] at z0 hroom hfin hbk
    have HFIN := Lib.hid hfin
    have HBK := Lib.hid hbk
    have hrn : n = 0 → r = [] := fun h0 => List.eq_nil_of_length_eq_zero (by omega)
    have HRN := Lib.hid hrn
    clear hst hse hn hfin hrn hbk H h hv hsz
    by_cases hn0 : n = 0
    · have hr0 := HRN.out hn0
      have HQ : ∀ ob : Nat, Hid (r ≠ [] → ob = oa + 1) := fun ob => Lib.hid (fun h => absurd hr0 h)
      subst hn0
      clear hr0 HRN
      by_cases hc1 : c = 1
      · subst hc1
        go_enter Try.func18, Try.ntmps18
        go_wp2_with fail
        refine hcall.mono ?_
        rintro e w1 ⟨f', rfl, hs1, ht1⟩
        have hb1 := HBK.out w1 ht1.only
        obtain ⟨y0, y1, yf0, yf1⟩ := cell2 hb1
        have hfin := HFIN.out w1 f' (oa) ht1 hs1 ((HQ oa).out)
        simp only [Nat.sub_self] at hfin
        have hb3 := (hb1.set_ 1 (.int .i64 0)).set_ 0 (.slice (some ⟨ga, oa, none⟩) 0 (0))
        clear hcall hs1 ht1
        go_upto_region 7 with fail
        obtain ⟨w3, hw3⟩ : ∃ w3, w3 = (w1.setCell ⟨gv, 1, none⟩ (.int .i64 0)).setCell ⟨gv, 0, none⟩ (.slice (some ⟨ga, oa, none⟩) 0 (0)) := ⟨_, rfl⟩
        rw [← hw3] at hfin hb3 ⊢
        have HF := Lib.hid (StepPost.drew hfin)
        have hb4 := hb3.drew
        obtain ⟨x0, x1, xf0, xf1⟩ := cell2 hb4
        clear hw3 hfin hb3 hb4 y0 y1 yf0 yf1 hb1
        refine wp_region_seq true (.take 0 .copy (.take 13 .copy (.fork 1 (.take 2 .addr (.take 3 .load (.take 4 .int2 (.take 5 .copy (.take 6 .copy (.fork 7 (.take 8 .addr (.take 9 .load (.take 10 (.len 84) (.take 11 .int2 (.take 12 .copy (.take 17 .copy (.alone 14 (.take 15 .addr (.take 16 .load (.take 18 .copy .fin)))))))))) 14 (.take 15 .addr (.take 16 .load (.alone 7 (.take 8 .addr (.take 9 .load (.take 10 (.len 84) (.take 11 .int2 (.take 12 .copy (.take 17 .copy (.take 18 .copy .fin)))))))))))))))) 14 (.take 15 .addr (.take 16 .load (.alone 1 (.take 2 .addr (.take 3 .load (.take 4 .int2 (.take 5 .copy (.take 6 .copy (.alone 7 (.take 8 .addr (.take 9 .load (.take 10 (.len 84) (.take 11 .int2 (.take 12 .copy (.take 17 .copy (.take 18 .copy .fin))))))))))))))))))) (by kernel_rfl) (by kernel_rfl) (by kernel_rfl) ?_
        simp only [pre, nxt, List.getElem?_toArray, List.getElem?_cons_zero, List.getElem?_cons_succ, opAt, ghosts, List.nil_append, gInt, ghost, List.cons_append]
        go_wp2_with fail
        refine next_fork ?_ ?_
        · go_wp2_with fail
          refine next_keep (Keep.refl _) ?_
          go_wp2_with fail
          refine next_fork ?_ ?_
          all_goals
            go_wp2_with fail
            refine next_keep (Keep.refl _) ?_
            go_wp2_with fail
            refine next_keep (Keep.refl _) ?_
            go_wp2_with fail
            refine ends_normal ?_
            go_wp2_with fail
            go_ret2
            exact HF.out
        · go_wp2_with fail
          refine next_keep (Keep.refl _) ?_
          go_wp2_with fail
          refine next_keep (Keep.refl _) ?_
          go_wp2_with fail
          refine next_keep (Keep.refl _) ?_
          go_wp2_with fail
          refine ends_normal ?_
          go_wp2_with fail
          go_ret2
          exact HF.out
      · go_enter Try.func18, Try.ntmps18
        go_wp2_with fail
        refine hcall.mono ?_
        rintro e w1 ⟨f', rfl, hs1, ht1⟩
        have hb1 := HBK.out w1 ht1.only
        obtain ⟨y0, y1, yf0, yf1⟩ := cell2 hb1
        have hfin := HFIN.out w1 f' (oa + 1) ht1 hs1 (fun _ => rfl)
        have hb3 := (hb1.set_ 1 (.int .i64 0)).set_ 0 (.slice (some ⟨ga, oa + 1, none⟩) 0 (c - 1))
        clear hcall hs1 ht1
        go_upto_region 7 with fail
        obtain ⟨w3, hw3⟩ : ∃ w3, w3 = (w1.setCell ⟨gv, 1, none⟩ (.int .i64 0)).setCell ⟨gv, 0, none⟩ (.slice (some ⟨ga, oa + 1, none⟩) 0 (c - 1)) := ⟨_, rfl⟩
        rw [← hw3] at hfin hb3 ⊢
        have HF := Lib.hid (StepPost.drew hfin)
        have hb4 := hb3.drew
        obtain ⟨x0, x1, xf0, xf1⟩ := cell2 hb4
        clear hw3 hfin hb3 hb4 y0 y1 yf0 yf1 hb1
        refine wp_region_seq true (.take 0 .copy (.take 13 .copy (.fork 1 (.take 2 .addr (.take 3 .load (.take 4 .int2 (.take 5 .copy (.take 6 .copy (.fork 7 (.take 8 .addr (.take 9 .load (.take 10 (.len 84) (.take 11 .int2 (.take 12 .copy (.take 17 .copy (.alone 14 (.take 15 .addr (.take 16 .load (.take 18 .copy .fin)))))))))) 14 (.take 15 .addr (.take 16 .load (.alone 7 (.take 8 .addr (.take 9 .load (.take 10 (.len 84) (.take 11 .int2 (.take 12 .copy (.take 17 .copy (.take 18 .copy .fin)))))))))))))))) 14 (.take 15 .addr (.take 16 .load (.alone 1 (.take 2 .addr (.take 3 .load (.take 4 .int2 (.take 5 .copy (.take 6 .copy (.alone 7 (.take 8 .addr (.take 9 .load (.take 10 (.len 84) (.take 11 .int2 (.take 12 .copy (.take 17 .copy (.take 18 .copy .fin))))))))))))))))))) (by kernel_rfl) (by kernel_rfl) (by kernel_rfl) ?_
        simp only [pre, nxt, List.getElem?_toArray, List.getElem?_cons_zero, List.getElem?_cons_succ, opAt, ghosts, List.nil_append, gInt, ghost, List.cons_append]
        go_wp2_with fail
        refine next_fork ?_ ?_
        · go_wp2_with fail
          refine next_keep (Keep.refl _) ?_
          go_wp2_with fail
          refine next_fork ?_ ?_
          all_goals
            go_wp2_with fail
            refine next_keep (Keep.refl _) ?_
            go_wp2_with fail
            refine next_keep (Keep.refl _) ?_
            go_wp2_with fail
            refine ends_normal ?_
            go_wp2_with fail
            go_ret2
            exact HF.out
        · go_wp2_with fail
          refine next_keep (Keep.refl _) ?_
          go_wp2_with fail
          refine next_keep (Keep.refl _) ?_
          go_wp2_with fail
          refine next_keep (Keep.refl _) ?_
          go_wp2_with fail
          refine ends_normal ?_
          go_wp2_with fail
          go_ret2
          exact HF.out
    · go_enter Try.func18, Try.ntmps18
      go_wp2_with fail
      refine hcall.mono ?_
      rintro e w1 ⟨f', rfl, hs1, ht1⟩
      have hb1 := HBK.out w1 ht1.only
      obtain ⟨y0, y1, yf0, yf1⟩ := cell2 hb1
      have hfin := HFIN.out w1 f' (oa + 1) ht1 hs1 (fun _ => rfl)
      rw [show decide (n = 0) = ((n : Int) == 0) by rw [Bool.eq_iff_iff]; simp] at hfin
      have hb3 := (hb1.set_ 1 (.int .i64 0)).set_ 0 (.slice (some ⟨ga, oa + 1, none⟩) n (c - 1))
      clear hcall hs1 ht1
      go_upto_region 7 with fail
      obtain ⟨w3, hw3⟩ : ∃ w3, w3 = (w1.setCell ⟨gv, 1, none⟩ (.int .i64 0)).setCell ⟨gv, 0, none⟩ (.slice (some ⟨ga, oa + 1, none⟩) n (c - 1)) := ⟨_, rfl⟩
      rw [← hw3] at hfin hb3 ⊢
      have HF := Lib.hid (StepPost.drew hfin)
      have hb4 := hb3.drew
      obtain ⟨x0, x1, xf0, xf1⟩ := cell2 hb4
      clear hw3 hfin hb3 hb4 y0 y1 yf0 yf1 hb1
      refine wp_region_seq true (.take 0 .copy (.take 13 .copy (.fork 1 (.take 2 .addr (.take 3 .load (.take 4 .int2 (.take 5 .copy (.take 6 .copy (.fork 7 (.take 8 .addr (.take 9 .load (.take 10 (.len 84) (.take 11 .int2 (.take 12 .copy (.take 17 .copy (.alone 14 (.take 15 .addr (.take 16 .load (.take 18 .copy .fin)))))))))) 14 (.take 15 .addr (.take 16 .load (.alone 7 (.take 8 .addr (.take 9 .load (.take 10 (.len 84) (.take 11 .int2 (.take 12 .copy (.take 17 .copy (.take 18 .copy .fin)))))))))))))))) 14 (.take 15 .addr (.take 16 .load (.alone 1 (.take 2 .addr (.take 3 .load (.take 4 .int2 (.take 5 .copy (.take 6 .copy (.alone 7 (.take 8 .addr (.take 9 .load (.take 10 (.len 84) (.take 11 .int2 (.take 12 .copy (.take 17 .copy (.take 18 .copy .fin))))))))))))))))))) (by kernel_rfl) (by kernel_rfl) (by kernel_rfl) ?_
      simp only [pre, nxt, List.getElem?_toArray, List.getElem?_cons_zero, List.getElem?_cons_succ, opAt, ghosts, List.nil_append, gInt, ghost, List.cons_append]
      go_wp2_with fail
      refine next_fork ?_ ?_
      · go_wp2_with fail
        refine next_keep (Keep.refl _) ?_
        go_wp2_with fail
        refine next_fork ?_ ?_
        all_goals
          go_wp2_with fail
          refine next_keep (Keep.refl _) ?_
          go_wp2_with fail
          refine next_keep (Keep.refl _) ?_
          go_wp2_with fail
          refine ends_normal ?_
          go_wp2_with fail
          go_ret2
          exact HF.out
      · go_wp2_with fail
        refine next_keep (Keep.refl _) ?_
        go_wp2_with fail
        refine next_keep (Keep.refl _) ?_
        go_wp2_with fail
        refine next_keep (Keep.refl _) ?_
        go_wp2_with fail
        refine ends_normal ?_
        go_wp2_with fail
        go_ret2
        exact HF.out
  · rw [if_neg her] at hst
    have hfin := fun w1 f' ht hs1 x => H.bad (w1 := w1) (f' := f') h ht hs1 er her x _ hst
    have hbk := fun w1 (ho : Only w w1 (Foot f)) => H.blk.only ho hnb
    rw [← hn] at z0 hroom hbk
    have HFIN := Lib.hid hfin
    have HBK := Lib.hid hbk
    clear hst hse hn hfin hbk H h hv hsz
    by_cases hc1 : c = 1
    · subst hc1
      obtain rfl : n = 0 := by omega
      go_enter Try.func18, Try.ntmps18
      go_wp2_with fail
      refine hcall.mono ?_
      rintro e w1 ⟨f', rfl, hs1, ht1⟩
      have hb1 := HBK.out w1 ht1.only
      obtain ⟨y0, y1, yf0, yf1⟩ := cell2 hb1
      have hfin := HFIN.out w1 f' ht1 hs1 (.slice (some ⟨ga, oa, none⟩) 0 (0))
      have hb3 := ((hb1.set_ 1 (.int .i64 er)).set_ 0 (.slice (some ⟨ga, oa, none⟩) 0 (0))).set_ 0 (.slice none 0 0)
      clear hcall hs1 ht1
      go_upto_region 7 with fail
      obtain ⟨w3, hw3⟩ : ∃ w3, w3 = ((w1.setCell ⟨gv, 1, none⟩ (.int .i64 er)).setCell ⟨gv, 0, none⟩ (.slice (some ⟨ga, oa, none⟩) 0 (0))).setCell ⟨gv, 0, none⟩ (.slice none 0 0) := ⟨_, rfl⟩
      rw [← hw3] at hfin hb3 ⊢
      have HF := Lib.hid (StepPost.drew hfin)
      have hb4 := hb3.drew
      obtain ⟨x0, x1, xf0, xf1⟩ := cell2 hb4
      clear hw3 hfin hb3 hb4 y0 y1 yf0 yf1 hb1
      refine wp_region_seq true (.take 0 .copy (.take 13 .copy (.fork 1 (.take 2 .addr (.take 3 .load (.take 4 .int2 (.take 5 .copy (.take 6 .copy (.fork 7 (.take 8 .addr (.take 9 .load (.take 10 (.len 84) (.take 11 .int2 (.take 12 .copy (.take 17 .copy (.alone 14 (.take 15 .addr (.take 16 .load (.take 18 .copy .fin)))))))))) 14 (.take 15 .addr (.take 16 .load (.alone 7 (.take 8 .addr (.take 9 .load (.take 10 (.len 84) (.take 11 .int2 (.take 12 .copy (.take 17 .copy (.take 18 .copy .fin)))))))))))))))) 14 (.take 15 .addr (.take 16 .load (.alone 1 (.take 2 .addr (.take 3 .load (.take 4 .int2 (.take 5 .copy (.take 6 .copy (.alone 7 (.take 8 .addr (.take 9 .load (.take 10 (.len 84) (.take 11 .int2 (.take 12 .copy (.take 17 .copy (.take 18 .copy .fin))))))))))))))))))) (by kernel_rfl) (by kernel_rfl) (by kernel_rfl) ?_
      simp only [pre, nxt, List.getElem?_toArray, List.getElem?_cons_zero, List.getElem?_cons_succ, opAt, ghosts, List.nil_append, gInt, ghost, List.cons_append]
      go_wp2_with fail
      refine next_fork ?_ ?_
      · go_wp2_with fail
        refine next_keep (Keep.refl _) ?_
        go_wp2_with fail
        refine next_fork ?_ ?_
        all_goals
          go_wp2_with fail
          refine next_keep (Keep.refl _) ?_
          go_wp2_with fail
          refine next_keep (Keep.refl _) ?_
          go_wp2_with fail
          refine ends_normal ?_
          go_wp2_with fail
          go_ret2
          exact HF.out
      · go_wp2_with fail
        refine next_keep (Keep.refl _) ?_
        go_wp2_with fail
        refine next_keep (Keep.refl _) ?_
        go_wp2_with fail
        refine next_keep (Keep.refl _) ?_
        go_wp2_with fail
        refine ends_normal ?_
        go_wp2_with fail
        go_ret2
        exact HF.out
    · go_enter Try.func18, Try.ntmps18
      go_wp2_with fail
      refine hcall.mono ?_
      rintro e w1 ⟨f', rfl, hs1, ht1⟩
      have hb1 := HBK.out w1 ht1.only
      obtain ⟨y0, y1, yf0, yf1⟩ := cell2 hb1
      have hfin := HFIN.out w1 f' ht1 hs1 (.slice (some ⟨ga, oa + 1, none⟩) n (c - 1))
      have hb3 := ((hb1.set_ 1 (.int .i64 er)).set_ 0 (.slice (some ⟨ga, oa + 1, none⟩) n (c - 1))).set_ 0 (.slice none 0 0)
      clear hcall hs1 ht1
      go_upto_region 7 with fail
      obtain ⟨w3, hw3⟩ : ∃ w3, w3 = ((w1.setCell ⟨gv, 1, none⟩ (.int .i64 er)).setCell ⟨gv, 0, none⟩ (.slice (some ⟨ga, oa + 1, none⟩) n (c - 1))).setCell ⟨gv, 0, none⟩ (.slice none 0 0) := ⟨_, rfl⟩
      rw [← hw3] at hfin hb3 ⊢
      have HF := Lib.hid (StepPost.drew hfin)
      have hb4 := hb3.drew
      obtain ⟨x0, x1, xf0, xf1⟩ := cell2 hb4
      clear hw3 hfin hb3 hb4 y0 y1 yf0 yf1 hb1
      refine wp_region_seq true (.take 0 .copy (.take 13 .copy (.fork 1 (.take 2 .addr (.take 3 .load (.take 4 .int2 (.take 5 .copy (.take 6 .copy (.fork 7 (.take 8 .addr (.take 9 .load (.take 10 (.len 84) (.take 11 .int2 (.take 12 .copy (.take 17 .copy (.alone 14 (.take 15 .addr (.take 16 .load (.take 18 .copy .fin)))))))))) 14 (.take 15 .addr (.take 16 .load (.alone 7 (.take 8 .addr (.take 9 .load (.take 10 (.len 84) (.take 11 .int2 (.take 12 .copy (.take 17 .copy (.take 18 .copy .fin)))))))))))))))) 14 (.take 15 .addr (.take 16 .load (.alone 1 (.take 2 .addr (.take 3 .load (.take 4 .int2 (.take 5 .copy (.take 6 .copy (.alone 7 (.take 8 .addr (.take 9 .load (.take 10 (.len 84) (.take 11 .int2 (.take 12 .copy (.take 17 .copy (.take 18 .copy .fin))))))))))))))))))) (by kernel_rfl) (by kernel_rfl) (by kernel_rfl) ?_
      simp only [pre, nxt, List.getElem?_toArray, List.getElem?_cons_zero, List.getElem?_cons_succ, opAt, ghosts, List.nil_append, gInt, ghost, List.cons_append]
      go_wp2_with fail
      refine next_fork ?_ ?_
      · go_wp2_with fail
        refine next_keep (Keep.refl _) ?_
        go_wp2_with fail
        refine next_fork ?_ ?_
        all_goals
          go_wp2_with fail
          refine next_keep (Keep.refl _) ?_
          go_wp2_with fail
          refine next_keep (Keep.refl _) ?_
          go_wp2_with fail
          refine ends_normal ?_
          go_wp2_with fail
          go_ret2
          exact HF.out
      · go_wp2_with fail
        refine next_keep (Keep.refl _) ?_
        go_wp2_with fail
        refine next_keep (Keep.refl _) ?_
        go_wp2_with fail
        refine next_keep (Keep.refl _) ?_
        go_wp2_with fail
        refine ends_normal ?_
        go_wp2_with fail
        go_ret2
        exact HF.out
end Go.Proofs.Ytbljacafmkdlmaa
