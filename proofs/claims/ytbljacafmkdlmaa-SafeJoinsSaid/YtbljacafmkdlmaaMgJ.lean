/- Several texts in one: StK, StC, StZ, StY, StV. -/
import Derived.Test.YtbljacafmkdlmaaStW
import Derived.Deep.DeepCutAuto
import Derived.Maps.RangeWalk
import Derived.Laws.IdiomRangeMap
import Derived.Deep.LoopGhost
/- slices.Contains at []int; store.Crash. Conditions: the lengths fit memory. -/
namespace Go.Proofs.Ytbljacafmkdlmaa
set_option maxRecDepth 100000
open Go.RowKit
set_option linter.unusedSimpArgs false

theorem mem_take_succ (l : List Int) (x : Int) (k : Nat) (h : k < l.length) : x ∈ l.take (k + 1) ↔ (x ∈ l.take k ∨ x = l[k]) := by
  rw [List.take_succ_eq_append_getElem h, List.mem_append, List.mem_singleton]

set_option maxHeartbeats 400000 in
theorem sindex_any (A : Option Addr) (n c : Nat) (l : List Int) (x : Int) (w : World) (hn : l.length = n) (hr : Row w A (iv l)) (hsz : n ≤ 9223372036854775807) :
    Calls Try.prog 102 #[.slice A n c, .int .i64 x] w fun e w' => (∃ i : Int, e = .returned (.int .i64 i) ∧ (0 ≤ i ↔ x ∈ l)) ∧ w' = w := by
  have HN := Lib.hid hn
  clear hn
  go_enter Try.func102, Try.ntmps102
  go_wp2_with fail
  go_loop [8] (fun i => ∃ k : Nat, k ≤ n ∧ i = .int .i64 k ∧ ¬ x ∈ l.take k) (fun i => n - (intOf i).toNat)
  case atStart => exact ⟨0, Nat.zero_le _, rfl, by simp⟩
  case round =>
    obtain ⟨k, hk, rfl, hno⟩ := hrel
    have HNO := Lib.hid hno
    clear hno
    by_cases hlt : k < n
    · have hkl : k < l.length := by rw [HN.out]; exact hlt
      obtain ⟨g, o, rfl, hg, hc⟩ := hr.icell hkl
      obtain ⟨y, hy⟩ : ∃ y, y = l[k] := ⟨_, rfl⟩
      rw [← hy] at hc
      have HY := Lib.hid hy
      clear hy
      by_cases he : x = y
      · go_wp2_with fail
        go_ret
        refine ⟨⟨k, rfl, ?_⟩, rfl⟩
        have h1 : x ∈ l := by
          rw [he, HY.out]
          exact List.getElem_mem hkl
        rw [he] at h1
        exact ⟨fun _ => h1, fun _ => by omega⟩
      · go_wp2_with fail
        go_round
        case rel => exact ⟨k + 1, by omega, by go_num, by rw [mem_take_succ l x k hkl, ← HY.out]; exact fun h => h.elim HNO.out he⟩
        case measure => simp [intOf]; omega
    · obtain rfl : k = n := by omega
      go_wp2_with fail
      go_ret
      have h1 := HNO.out
      rw [List.take_of_length_le (by rw [HN.out]; exact Nat.le_refl _)] at h1
      exact ⟨⟨-1, rfl, ⟨fun h => by omega, fun h => absurd h h1⟩⟩, rfl⟩
set_option maxHeartbeats 400000 in
theorem scontains_any (A : Option Addr) (n c : Nat) (l : List Int) (x : Int) (w : World) (hn : l.length = n) (hr : Row w A (iv l)) (hsz : n ≤ 9223372036854775807) :
    Calls Try.prog 92 #[.slice A n c, .int .i64 x] w fun e w' => e = .returned (.bool (l.contains x)) ∧ w' = w := by
  have hi := sindex_any A n c l x w hn hr hsz
  clear hn hr hsz
  obtain ⟨b, hb⟩ : ∃ b, b = l.contains x := ⟨_, rfl⟩
  have hm : x ∈ l ↔ b = true := by rw [hb, List.contains_iff_mem]
  simp only [hm] at hi
  rw [← hb]
  clear hb hm
  go_enter Try.func92, Try.ntmps92
  go_wp2_with fail
  refine hi.mono ?_
  rintro e w' ⟨⟨i, rfl, h1⟩, rfl⟩
  have H1 := Lib.hid h1
  clear h1 hi
  go_wp2_with fail
  go_ret
  exact ⟨ret_bool (by rw [Bool.eq_iff_iff, ← H1.out]; simp), rfl⟩
set_option maxHeartbeats 400000 in
theorem kept_any (g : Nat) (A : Option Addr) (n c : Nat) (l : List Int) (x : Int) (w : World) (hn : l.length = n) (hr : Row w A (iv l)) (hsz : n ≤ 9223372036854775807) (hg : w.cell? ⟨g, 0, none⟩ = some (.slice A n c)) :
    Calls Try.prog 91 #[.int .i64 x, .pointer (some ⟨g, 0, none⟩)] w fun e w' => e = .returned (.bool (l.contains x)) ∧ w' = w := by
  have hi := scontains_any A n c l x w hn hr hsz
  clear hn hr hsz
  obtain ⟨b, hb⟩ : ∃ b, b = l.contains x := ⟨_, rfl⟩
  rw [← hb] at hi ⊢
  clear hb
  go_enter Try.func91, Try.ntmps91
  go_wp2_with fail
  refine hi.mono ?_
  rintro e w' ⟨rfl, rfl⟩
  go_wp2_with fail
  go_ret
  exact ⟨rfl, rfl⟩
end Go.Proofs.Ytbljacafmkdlmaa

/- store.Crash. Conditions: the lengths fit memory. -/
namespace Go.Proofs.Ytbljacafmkdlmaa
set_option maxRecDepth 100000
open Go.RowKit
set_option linter.unusedSimpArgs false

theorem wcells_at {l : List Wrt} (h : ∀ x ∈ l, x.2.length = 16) {j i : Nat} (hj : j < l.length) (hi : i < 17) : (wcells l)[j * 17 + i]? = (Wrt.cells l[j])[i]? := by
  unfold wcells
  induction l generalizing j with
  | nil => simp at hj
  | cons p l ih =>
    rw [List.flatMap_cons]
    have h17 : (Wrt.cells p).length = 17 := by have := h p (by simp); unfold Wrt.cells; rw [List.length_cons, bv_length, this]
    cases j with
    | zero => rw [List.getElem?_append_left (by omega)]; simp
    | succ j =>
      rw [List.getElem?_append_right (by omega), h17, show (j + 1) * 17 + i - 17 = j * 17 + i by omega, ih (fun x hx => h x (by simp [hx])) (by simpa using hj)]
      rfl
theorem store17 (w : World) (a : Int) (x : List UInt8) (hx : x.length = 16) : (storeCells ⟨w.heap.size, 0, none⟩ (Wrt.cells (a, x))).run Try.prog (w.alloc (.cells #[.int .i64 0, .int .u8 0, .int .u8 0, .int .u8 0, .int .u8 0, .int .u8 0, .int .u8 0, .int .u8 0, .int .u8 0, .int .u8 0, .int .u8 0, .int .u8 0, .int .u8 0, .int .u8 0, .int .u8 0, .int .u8 0, .int .u8 0] 135)) = .ok () (w.alloc (.cells (Wrt.cells (a, x)).toArray 135)) := by
  have h := run_storeCells_row Try.prog w.heap.size 0 135 0 0 (Wrt.cells (a, x)) 0 _ _ (heap_alloc_new w (.cells #[.int .i64 0, .int .u8 0, .int .u8 0, .int .u8 0, .int .u8 0, .int .u8 0, .int .u8 0, .int .u8 0, .int .u8 0, .int .u8 0, .int .u8 0, .int .u8 0, .int .u8 0, .int .u8 0, .int .u8 0, .int .u8 0, .int .u8 0] 135)) (.inr (Nat.le_refl _)) (by rw [wcells_len1 a x hx]; simp) (fun u hu => wcells_one [(a, x)] u (by simpa [wcells] using hu))
  rw [h, World.setRow_alloc_new]
  congr 4
  rw [wcells_len1 a x hx]
  simp
theorem load17 (w : World) (g o : Nat) (a : Int) (x : List UInt8) (hx : x.length = 16) (h : ∀ j u, (Wrt.cells (a, x))[j]? = some u → w.cell? ⟨g, o + j, none⟩ = some u) : (loadVar 135 ⟨g, o, none⟩).run Try.prog w = .ok (.agg (Wrt.cells (a, x)).toArray) w := by
  have h2 := run_loadCells_list (P := Try.prog) w ⟨g, o, none⟩ (Wrt.cells (a, x)) (fun j v hv => by rw [addr_add]; exact h j v hv)
  rw [wcells_len1 a x hx] at h2
  have hagg : (isAgg 135).run Try.prog w = .ok true w := by
    unfold isAgg
    rw [Sem.run_bind, run_underlying Try.underlying135 w]
    rfl
  obtain ⟨i, hi, hz⟩ := Option.map_eq_some_iff.1 info_write
  simp only [Prod.mk.injEq] at hz
  simp [loadVar, Sem.run_bind, hagg, sizeOf, typeInfo, hi, hz.2.1, h2]
theorem hold_load {S : World → Prop} {o : Oper} {a : Act} (ty : TypeId) (x : Operand) (ho : o.op = .load ty x) (p : Addr) (hx : a.eval x = .pointer (some p)) (v : Value) (hl : ∀ u, S u → (loadVar ty p).run Try.prog u = .ok v u) :
    ∀ u, S u → (execOp a.eval o).run Try.prog u = .ok (.value v) u := by
  intro u hS
  unfold execOp
  simp only [ho, hx, Instr.loadAt, Instr.sureAddr, Sem.run_bind, Sem.run_pure, Result.andThen_ok, hl u hS]
theorem size_fit {l : List Wrt} {n : Int} (hn : 0 ≤ n ∧ n ≤ 4096) (h : ∀ y ∈ l, 0 ≤ y.1 ∧ y.1 < n) : Maps.size (Dof l) ≤ 4096 := by
  rw [size_Dof l 4096 (fun y hy => by have := h y hy; omega)]
  exact usedN_le _ _

theorem Row.cell_ {w : World} {g o : Nat} {xs : List Value} (h : Row w (some ⟨g, o, none⟩) xs) {j : Nat} {u : Value} (hj : xs[j]? = some u) : w.cell? ⟨g, o + j, none⟩ = some u := by
  rcases h with rfl | ⟨g', o', he, hc⟩
  · cases hj
  · injection he with he
    injection he with h1 h2
    subst h1 h2
    exact hc j u hj

theorem Sto.crashed {w w1 w2 : World} {B : Nat} {f : Fp} {s : St} (h : Sto w B f s) (keep : List Int) (ho : Only w w1 (fun i => i = f.b1)) (hm : Mp w1 f.b1 (Dof (crashL s keep))) (b : Nat) (hb : w.heap.size ≤ b) (hm2 : Mp w2 b (Dof (crashL s keep))) (hB : Below w1.heap.size w1 w2) :
    Sto ((w2.setCell ⟨f.g, 3, none⟩ (.map (some b))).setCell ⟨f.g, 4, none⟩ (.slice none 0 0)) B ⟨f.g, f.b1, b, none, 0⟩ (doC s keep) ∧ Turned w ((w2.setCell ⟨f.g, 3, none⟩ (.map (some b))).setCell ⟨f.g, 4, none⟩ (.slice none 0 0)) f ⟨f.g, f.b1, b, none, 0⟩ := by
  have hg1 := h.blk.only ho (fun e => h.blk.ne_map h.safe e)
  have hg2 := hg1.belowAll hB
  have hm1 := hm.below hB
  have ho3 : Only w2 ((w2.setCell ⟨f.g, 3, none⟩ (.map (some b))).setCell ⟨f.g, 4, none⟩ (.slice none 0 0)) (fun k => k = f.g) := Only.setCell (F := fun k => k = f.g) (Only.setCell (F := fun k => k = f.g) (Only.refl _ _) (.inl rfl) _) (.inl rfl) _
  have e1 : (doC s keep).l.length - (doC s keep).k = 0 := Nat.sub_self _
  have e2 : (doC s keep).l.take (doC s keep).k = crashL s keep := List.take_of_length_le (Nat.le_refl _)
  have e3 : (doC s keep).l.drop (doC s keep).k = [] := List.drop_eq_nil_of_le (Nat.le_refl _)
  have hb1 := h.safe.lt
  have hBs := h.size
  refine ⟨⟨?_, ?_, hm2.only ho3 (fun e => hg2.ne_map hm2 e.symm), ?_, h.ok.crash keep, ⟨h.low.1, h.low.2.1, Nat.le_trans hBs hb⟩, by simp only; omega⟩, ⟨?_, fun k hk => ?_, rfl⟩⟩
  · rw [e1]
    exact (hg2.set_ 3 (.map (some b))).set_ 4 (.slice none 0 0)
  · rw [e2]
    exact hm1.only ho3 (fun e => hg2.ne_map hm1 e.symm)
  · rw [e1, e3]
    exact Own.nil _ _ _ _ _
  · refine Only.trans (Only.trans (ho.mono (fun k _ hk => ?_)) (Only.of_below hB (fun _ => False)) (fun _ _ hk => hk.elim)) ho3 (fun k _ hk => ?_)
    · exact .inr (.inl hk)
    · exact .inl hk
  · rcases hk with hk | hk | hk | hk
    · exact .inl (.inl hk)
    · exact .inl (.inr (.inl hk))
    · have hk2 : k = b := hk
      exact .inr (hk2 ▸ hb)
    · simp [ownB] at hk

set_option maxHeartbeats 1000000 in
theorem crash_any (B : Nat) (f : Fp) (s : St) (w : World) (h : Sto w B f s) (K : Option Addr) (n c : Nat) (keep : List Int) (hn : keep.length = n) (hr : Away w K (iv keep) (Foot f)) (hsz : n ≤ 9223372036854775807) :
    Calls Try.prog 67 #[.pointer (some ⟨f.g, 0, none⟩), .slice K n c] w fun e w' => ∃ f', e = .returned (.tuple #[]) ∧ Sto w' B f' (doC s keep) ∧ Turned w w' f f' := by
  have hbk := Blk.new w 43 #[.slice K n c]
  have h0 := h.alloc (.cells #[.slice K n c] 43)
  have hrow0 := hr.row.alloc (.cells #[.slice K n c] 43)
  have hrK : iv keep ≠ [] → ∀ a, K = some a → a.block ≠ f.b1 := fun hx a ha e => hr.2 hx a ha (.inr (.inl e))
  have hb0 : Below w.heap.size w (w.alloc (.cells #[.slice K n c] 43)) := (Below.refl _ _).alloc (Nat.le_refl _) _
  have hl16 : ∀ x ∈ s.l.drop s.k, x.2.length = 16 := fun x hx => (h.ok.w x (List.mem_of_mem_drop hx)).2.2
  have hin : ∀ j x, x ∈ s.l.take s.k ++ kp keep (s.l.drop s.k) j → 0 ≤ x.1 ∧ x.1 < s.n := fun j x hx => by
    rcases List.mem_append.1 hx with hx | hx
    · have := h.ok.w x (List.mem_of_mem_take hx); exact ⟨this.1, this.2.1⟩
    · have := h.ok.w x (List.mem_of_mem_drop (kp_mem hx)); exact ⟨this.1, this.2.1⟩
  have hfit := fun j => size_fit ⟨h.ok.n0, h.ok.n1⟩ (hin j)
  obtain ⟨L, hL⟩ : ∃ L, L = s.l.drop s.k := ⟨_, rfl⟩
  obtain ⟨m, hm⟩ : ∃ m, m = s.l.length - s.k := ⟨_, rfl⟩
  have hlm : L.length = m := by rw [hL, hm, List.length_drop]
  have hsm : ∀ y ∈ L, 0 ≤ y.1 ∧ y.1 < 4096 := fun y hy => by rw [hL] at hy; have h1 := h.ok.w y (List.mem_of_mem_drop hy); have h2 := h.ok.n1; omega
  have hcr : crashL s keep = s.l.take s.k ++ kp keep L m := by rw [hL, hm]; rfl
  rw [← hL] at hl16 hfit
  have hownr : Row w f.A (wcells L) := by rw [hL]; exact h.own.row
  have hownA : ∀ a, f.A = some a → wcells L ≠ [] → a.block ≠ f.b1 := fun a ha hx e => by
    have hlt := hownr.at_ (List.length_pos_iff.2 hx)
    have h3 := h.own
    rw [← hm, ← hL] at h3
    obtain ⟨_, _, _, h4 | ⟨g', cur, lo, hi, he, _, hh, _⟩⟩ := h3
    · have hm0 : m ≤ f.c := by have := h.own.2.1; omega
      have : wcells L = [] := List.eq_nil_of_length_eq_zero (by rw [wcells_length L hl16, hlm]; omega)
      exact hx this
    · rw [ha] at he
      injection he with he
      rw [he] at e
      obtain ⟨es, clock, h5, _⟩ := h.safe
      rw [← e] at h5
      simp only at h5
      rw [h5] at hh
      cases hh
  have HL := Lib.hid hL
  have HCR := Lib.hid hcr
  have HN := Lib.hid hn
  have HLM := Lib.hid hlm
  have h5 := h0.five
  rw [← hm] at h5
  obtain ⟨⟨c0, c1, c2, c3, c4⟩, _⟩ := h5
  have hs0 : Mp (w.alloc (.cells #[.slice K n c] 43)) f.b1 (Dof (s.l.take s.k ++ kp keep L 0)) := by
    show Mp _ f.b1 (Dof (s.l.take s.k ++ []))
    rw [List.append_nil]
    exact h0.safe
  have hml : m ≤ 9223372036854775807 := by
    have h8 := h.own.2.1
    have h9 := h.own.2.2.1
    rw [← hm] at h8
    exact Nat.le_trans h8 h9
  have H := Lib.hid h
  have hfw := h.blk.lt
  have hb1w := h.safe.lt
  have hgb1 := h0.blk.ne_map h0.safe
  have hkb1 : w.heap.size ≠ f.b1 := hbk.ne_map hs0
  clear hL hm hcr hn hlm h h0 hr
  go_enter Try.func67, Try.ntmps67
  go_wp2_with fail
  go_loopw [13] (fun i wr => ∃ j : Nat, j ≤ m ∧ i = .int .i64 j ∧ Only (w.alloc (.cells #[.slice K n c] 43)) wr (fun i => i = f.b1) ∧ Mp wr f.b1 (Dof (s.l.take s.k ++ kp keep L j)))
    (fun i _ => m - (intOf i).toNat)
  case atStart => exact ⟨0, Nat.zero_le _, rfl, Only.refl _ _, hs0⟩
  case round =>
    obtain ⟨j, hj, rfl, hon, hmp⟩ := hrel
    have hkr := hbk.only hon hkb1
    have hrow : Row wr K (iv keep) := by
      by_cases hx : iv keep = []
      · rw [hx]; exact Row.nil _ _
      · exact hrow0.only hon (fun a ha e => hrK hx a ha e)
    have hLr : Row wr f.A (wcells L) := by
      by_cases hx : wcells L = []
      · rw [hx]; exact Row.nil _ _
      · exact (hownr.alloc (.cells #[.slice K n c] 43)).only hon (fun a ha e => hownA a ha hx e)
    by_cases hlt : j < m
    · have hjl : j < L.length := by rw [HLM.out]; exact hlt
      obtain ⟨gL, oL, hAe, hgL, _⟩ := hLr.at_ (by rw [wcells_length L hl16]; omega)
      have hkp : kp keep L (j + 1) = kp keep L j ++ if keep.contains (j : Int) then [L[j]] else [] := kp_step keep L hjl
      obtain ⟨y, hy⟩ : ∃ y, y = L[j] := ⟨_, rfl⟩
      obtain ⟨ax, x⟩ := y
      have hx16 : x.length = 16 := by have := hl16 L[j] (List.getElem_mem hjl); rw [← hy] at this; exact this
      have hax : 0 ≤ ax ∧ ax < 4096 := by have := hsm L[j] (List.getElem_mem hjl); rw [← hy] at this; exact this
      rw [hAe] at hLr
      have hlc : ∀ (i : Nat) (v : Value), (Wrt.cells (ax, x))[i]? = some v → wr.cell? ⟨gL, oL + j * 17 + i, none⟩ = some v := fun i v hv => by
        rw [Nat.add_assoc]
        refine hLr.cell_ ?_
        have hi : i < 17 := by have := (List.getElem?_eq_some_iff.1 hv).1; rw [wcells_len1 ax x hx16] at this; exact this
        rw [wcells_at hl16 hjl hi, ← hy]
        exact hv
      have hld := load17 wr gL (oL + j * 17) ax x hx16 hlc
      have hst := fun (u : World) => store17 u ax x hx16
      have hl17 := wcells_len1 ax x hx16
      rw [← hy] at hkp
      have hfit1 := hfit (j + 1)
      have hkept := fun u (hu : Blk u w.heap.size 43 #[.slice K n c]) (hu2 : Row u K (iv keep)) => kept_any w.heap.size K n c keep (j : Int) u HN.out hu2 hsz (hu.cell 0)
      obtain ⟨kb, hkb⟩ : ∃ kb, kb = keep.contains (j : Int) := ⟨_, rfl⟩
      rw [← hkb] at hkp
      simp only [← hkb] at hkept
      have HKP := Lib.hid hkp
      have HKEPT := Lib.hid hkept
      have hgr := H.out.alloc (.cells #[.slice K n c] 43) |>.blk.only hon hgb1
      obtain ⟨gx, hgx⟩ : ∃ gx, gx = wr.heap.size := ⟨_, rfl⟩
      have hxb : Blk (wr.alloc (.cells (Wrt.cells (ax, x)).toArray 135)) gx 135 (Wrt.cells (ax, x)).toArray := by rw [hgx]; exact Blk.new wr _ _
      have hgb := hgr.alloc (.cells (Wrt.cells (ax, x)).toArray 135)
      have hmb := hmp.alloc (.cells (Wrt.cells (ax, x)).toArray 135)
      have hon2 := hon.alloc (.cells (Wrt.cells (ax, x)).toArray 135)
      have hkr2 := hkr.alloc (.cells (Wrt.cells (ax, x)).toArray 135)
      have hrow2 := hrow.alloc (.cells (Wrt.cells (ax, x)).toArray 135)
      clear hkp hy hkb hkept hlc
      rw [hAe]
      go_upto_region 4 with fail
      go_step
      go_step
      go_step
      go_step
      go_step
      go_step
      (first | refine wpList_load_any rfl 135 _ rfl ⟨gL, oL + j * 17, none⟩ rfl _ hld ?_ | (go_step; first | refine wpList_load_any rfl 135 _ rfl ⟨gL, oL + j * 17, none⟩ rfl _ hld ?_ | (go_step; refine wpList_load_any rfl 135 _ rfl ⟨gL, oL + j * 17, none⟩ rfl _ hld ?_)))
      go_wp2_with fail
      rw [← hgx]
      have HGX := Lib.hid hgx
      clear hgx
      refine (HKEPT.out _ hkr2 hrow2).mono ?_
      rintro e w' ⟨rfl, rfl⟩
      cases kb
      · go_wp2_with fail
        go_roundw
        case rel => exact ⟨j + 1, by omega, by go_num, hon2, by rw [HKP.out]; simpa using hmb⟩
        case measure => simp [intOf]; omega
      · go_wp2_with fail
        refine wp_region_seqS ((fun u => u.cell? ⟨f.g, 2, none⟩ = some (.map (some f.b1)) ∧ Blk u gx 135 (Wrt.cells (ax, x)).toArray)) (.take 0 .copy (.take 4 .addr (.hold 5 (.take 6 .addr (.hold 7 (.alone 1 (.take 2 .addr (.hold 3 (.alone 8 .fin))))))))) (by kernel_rfl) (by kernel_rfl) (by kernel_rfl) ?_ ?_
        · exact ⟨hgb.drew.cell 2, hxb.drew⟩
        simp only [preS, nxtS, List.getElem?_toArray, List.getElem?_cons_zero, List.getElem?_cons_succ, opAt, ghosts, List.nil_append, gInt, ghost, List.cons_append]
        go_wp2_with fail
        refine next_hold (.int .i64 ax) rfl (hold_cell 3 _ rfl ⟨gx, 0, none⟩ rfl _ _ (fun u h => h.2.cell 0) rfl Try.underlying3) ?_
        go_wp2_with fail
        refine next_hold (.agg (bv x).toArray) rfl (hold_load 104 _ rfl ⟨gx, 1, none⟩ rfl _ (fun u h => load16 u gx 1 x hx16 (fun i v hv => by
          rw [h.2.cell (1 + i), ← hv, Nat.add_comm]
          simp [Wrt.cells]))) ?_
        go_wp2_with fail
        refine nextS ⟨hgb.drew.cell 2, hxb.drew⟩ ?_
        go_wp2_with fail
        refine next_hold (.map (some f.b1)) rfl (hold_cell 105 _ rfl ⟨f.g, 2, none⟩ rfl _ _ (fun u h => h.1) rfl Try.underlying105) ?_
        go_wp2_with (at_mapUpdate; refine wpList_mapUpdate_in _ rfl _ _ _ 105 rfl 3 104 lawI Try.underlying105 secR f.b1 4096 _ rfl hmb.drew (by decide) _ _ _ rfl rfl (key_int ax (by omega)) _ _ (secR_mk hx16) ?_; intro w2 hm2 ht2; refine Classical.byContradiction fun hstop => ?_)
        refine absurd ?_ hstop
        clear hstop
        have ho2 := Mp.turned ht2
        have hx2 := hxb.drew.only ho2 (hxb.ne_map hmb)
        have hg2 := hgb.drew.only ho2 (hgb.ne_map hmb)
        have hkp1 := HKP.out
        rw [if_pos trivial] at hkp1
        have e9 : (Dof (s.l.take s.k ++ kp keep L j)).put (keyL ax) (elD x) = Dof (s.l.take s.k ++ kp keep L (j + 1)) := by
          rw [hkp1, ← List.append_assoc]
          exact (Dof_snoc _ (ax, x)).symm
        rw [e9] at hm2
        have hm2f := Mp.fit hm2 hfit1
        have ho3 : Only (w.alloc (.cells #[.slice K n c] 43)) w2 (fun i => i = f.b1) := hon2.drew.trans ho2 (fun i _ hi => hi)
        clear hm2 e9 hkp1
        refine nextS ⟨hg2.cell 2, hx2⟩ ?_
        refine ends_normal ?_
        go_wp2_with fail
        go_roundw
        case rel => exact ⟨j + 1, by omega, by go_num, ho3, hm2f⟩
        case measure => simp [intOf]; omega
    · obtain rfl : j = m := by omega
      have hon' := hon
      have h5 := (H.out.alloc (.cells #[.slice K n c] 43)).blk.only hon hgb1
      have c2' := h5.cell 2
      have hcl := clone_any f.b1 _ wr hmp
      have hs1 := hon.size
      clear c0 c1 c2 c3 c4
      go_wp2_with fail
      refine hcl.mono ?_
      rintro e w2 ⟨rfl, hm2, hB2⟩
      have h6 := h5.belowAll hB2
      have key := H.out.crashed keep ((Only.of_below hb0 (fun i => i = f.b1)).trans hon (fun _ _ h => h)) (by rw [HCR.out]; exact hmp) wr.heap.size (by have := hb0.size; omega) (by rw [HCR.out]; exact hm2) hB2
      have HK := Lib.hid key
      obtain ⟨⟨d2, d3, d4⟩, z3, z4⟩ : (w2.cell? ⟨f.g, 2, none⟩ = some (.map (some f.b1)) ∧ w2.cell? ⟨f.g, 3, none⟩ = some (.map (some f.b2)) ∧ w2.cell? ⟨f.g, 4, none⟩ = some (.slice f.A (s.l.length - s.k) f.c)) ∧ w2.frozen? ⟨f.g, 3, none⟩ = false ∧ w2.frozen? ⟨f.g, 4, none⟩ = false := ⟨⟨h6.cell 2, h6.cell 3, h6.cell 4⟩, h6.frozen 3, h6.frozen 4⟩
      clear key hcl c2'
      go_wp2_with fail
      go_end0
      exact ⟨_, rfl, HK.out⟩
end Go.Proofs.Ytbljacafmkdlmaa

/- maps.DeleteFunc at a store's maps; store.Resize. No condition. -/
namespace Go.Proofs.Ytbljacafmkdlmaa
set_option maxRecDepth 100000
open Go.RowKit Go.Maps
set_option linter.unusedSimpArgs false

theorem key_inv {v : Value} {kl : Lit} (h : keyOf Try.prog 3 v = some kl) : ∃ a : Int, v = .int .i64 a ∧ kl = keyL a := by
  obtain ⟨a, h1, h2⟩ := Maps.keyOf_int_inv Try.underlying3 h
  exact ⟨a, h1, h2.1⟩
end Go.Proofs.Ytbljacafmkdlmaa

/- store.Resize. No condition. -/
namespace Go.Proofs.Ytbljacafmkdlmaa
set_option maxRecDepth 100000
open Go.RowKit
set_option linter.unusedSimpArgs false

set_option maxHeartbeats 1000000 in
/-- What Flush does to a store's block, whatever stands there. -/
theorem flush_raw (g b1 b2 : Nat) (n room : Int) (A : Option Addr) (m c : Nat) (D : DataW Unit) (w : World) (hb : Blk w g 108 #[.int .i64 n, .int .i64 room, .map (some b1), .map (some b2), .slice A m c]) (hm : Mp w b2 D) :
    Calls Try.prog 39 #[.pointer (some ⟨g, 0, none⟩)] w
    fun e w' => ∃ w1, e = .returned (.tuple #[]) ∧ Below w.heap.size w w1 ∧ Mp w1 w.heap.size D ∧ w' = (w1.setCell ⟨g, 2, none⟩ (.map (some w.heap.size))).setCell ⟨g, 4, none⟩ (.slice none 0 0) := by
  have c3 : w.cell? ⟨g, 3, none⟩ = some (.map (some b2)) := hb.cell 3
  have hc := clone_any b2 D w hm
  go_enter Try.func39, Try.ntmps39
  go_wp2_with fail
  refine hc.mono ?_
  rintro e w' ⟨rfl, hm1, hB⟩
  have h6 := hb.belowAll hB
  obtain ⟨⟨d2, d4⟩, z2, z4⟩ : (w'.cell? ⟨g, 2, none⟩ = some (.map (some b1)) ∧ w'.cell? ⟨g, 4, none⟩ = some (.slice A m c)) ∧ w'.frozen? ⟨g, 2, none⟩ = false ∧ w'.frozen? ⟨g, 4, none⟩ = false := ⟨⟨h6.cell 2, h6.cell 4⟩, h6.frozen 2, h6.frozen 4⟩
  clear hc c3
  go_wp2_with fail
  go_end0
  exact ⟨w', rfl, hB, hm1, rfl⟩

theorem Sto.resized {w w1 w2 : World} {B : Nat} {f : Fp} {s : St} (h : Sto w B f s) (n : Int) (hn : 0 ≤ n ∧ n ≤ 4096) (ho : Only w w1 (fun i => i = f.b2)) (hm : Mp w1 f.b2 (Dof (resL s n))) (b : Nat) (hb : w.heap.size ≤ b)
    (hB : Below (w1.setCell ⟨f.g, 0, none⟩ (.int .i64 n)).heap.size (w1.setCell ⟨f.g, 0, none⟩ (.int .i64 n)) w2) (hm2 : Mp w2 b (Dof (resL s n))) :
    Sto ((w2.setCell ⟨f.g, 2, none⟩ (.map (some b))).setCell ⟨f.g, 4, none⟩ (.slice none 0 0)) B ⟨f.g, b, f.b2, none, 0⟩ (doZ s n).1 ∧ Turned w ((w2.setCell ⟨f.g, 2, none⟩ (.map (some b))).setCell ⟨f.g, 4, none⟩ (.slice none 0 0)) f ⟨f.g, b, f.b2, none, 0⟩ := by
  have hok := h.ok.resize n
  have ed : (doZ s n).1 = ⟨n, s.room, resL s n, (resL s n).length⟩ := by unfold doZ; rw [if_neg (by omega)]
  rw [ed] at hok ⊢
  have hg1 := h.blk.only ho (fun e => h.blk.ne_map h.seen e)
  have hgs := hg1.set_ 0 (.int .i64 n)
  have hg2 := hgs.belowAll hB
  have h5 : Only w1 (w1.setCell ⟨f.g, 0, none⟩ (.int .i64 n)) (fun k => k = f.g) := Only.setCell (F := fun k => k = f.g) (Only.refl _ _) (.inl rfl) _
  have hm1 := (hm.only h5 (fun e => hg1.ne_map hm e.symm)).below hB
  have ho3 : Only w2 ((w2.setCell ⟨f.g, 2, none⟩ (.map (some b))).setCell ⟨f.g, 4, none⟩ (.slice none 0 0)) (fun k => k = f.g) := Only.setCell (F := fun k => k = f.g) (Only.setCell (F := fun k => k = f.g) (Only.refl _ _) (.inl rfl) _) (.inl rfl) _
  have hb2 := h.seen.lt
  have hBs := h.size
  refine ⟨⟨?_, ?_, hm1.only ho3 (fun e => hg2.ne_map hm1 e.symm), ?_, hok, ⟨h.low.1, Nat.le_trans hBs hb, h.low.2.2⟩, by simp only; omega⟩, ⟨?_, fun k hk => ?_, rfl⟩⟩
  · simp only
    rw [Nat.sub_self]
    exact (hg2.set_ 2 (.map (some b))).set_ 4 (.slice none 0 0)
  · simp only
    rw [List.take_of_length_le (Nat.le_refl _)]
    exact hm2.only ho3 (fun e => hg2.ne_map hm2 e.symm)
  · simp only
    rw [Nat.sub_self, List.drop_eq_nil_of_le (Nat.le_refl _)]
    exact Own.nil _ _ _ _ _
  · refine Only.trans (Only.trans (Only.trans (ho.mono (fun k _ hk => ?_)) h5 (fun k _ hk => ?_)) (Only.of_below hB (fun _ => False)) (fun _ _ hk => hk.elim)) ho3 (fun k _ hk => ?_)
    · exact .inr (.inr (.inl hk))
    · exact .inl hk
    · exact .inl hk
  · rcases hk with hk | hk | hk | hk
    · exact .inl (.inl hk)
    · have hk2 : k = b := hk
      exact .inr (hk2 ▸ hb)
    · exact .inl (.inr (.inr (.inl hk)))
    · simp [ownB] at hk

end Go.Proofs.Ytbljacafmkdlmaa

/- store.Copy. Condition: what is loose fits memory. -/
namespace Go.Proofs.Ytbljacafmkdlmaa
set_option maxRecDepth 100000
open Go.RowKit
set_option linter.unusedSimpArgs false

theorem hold_nil {S : World → Prop} {o : Oper} {a : Act} (x : Operand) (ho : o.op = .nilCheck x) (p : Addr) (hx : a.eval x = .pointer (some p)) : ∀ u, S u → (execOp a.eval o).run Try.prog u = .ok (.value (.pointer (some p))) u := by
  intro u _
  unfold execOp
  simp [ho, hx]
theorem hold_bd5 {S : World → Prop} {o : Oper} {a : Act} {ty : TypeId} (x0 x1 x2 x3 x4 : Operand) (ho : o.op = .build ty #[(0, x0), (1, x1), (2, x2), (3, x3), (4, x4)]) (v0 v1 v2 v3 v4 : Value) (h0 : a.eval x0 = v0) (h1 : a.eval x1 = v1) (h2 : a.eval x2 = v2) (h3 : a.eval x3 = v3) (h4 : a.eval x4 = v4)
    (v : Value) (hr : ∀ u, (Instr.build ty #[(0, v0), (1, v1), (2, v2), (3, v3), (4, v4)]).run Try.prog u = .ok v u) : ∀ u, S u → (execOp a.eval o).run Try.prog u = .ok (.value v) u := by
  intro u _
  unfold execOp
  simp only [ho, List.map_toArray, List.map_cons, List.map_nil, h0, h1, h2, h3, h4, Sem.run_bind, hr, Result.andThen_ok, Sem.run_pure]
theorem build_store (n room : Int) (a b : Nat) (A : Option Addr) (m c : Nat) (u : World) : (Instr.build 108 #[(0, .int .i64 n), (1, .int .i64 room), (2, .map (some a)), (3, .map (some b)), (4, .slice A m c)]).run Try.prog u = .ok (.agg #[.int .i64 n, .int .i64 room, .map (some a), .map (some b), .slice A m c]) u :=
  run_build u 108 _ _ (by kernel_rfl)

end Go.Proofs.Ytbljacafmkdlmaa
