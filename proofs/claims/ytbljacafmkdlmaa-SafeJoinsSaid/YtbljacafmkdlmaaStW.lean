/- store.Write. Conditions: the numbers are int64's; what is loose fits memory. -/
import Derived.Test.YtbljacafmkdlmaaMgI
import Derived.Test.YtbljacafmkdlmaaSeqS
import Derived.Great.BuildSlice
import Derived.Laws.Cover3
namespace Go.Proofs.Ytbljacafmkdlmaa
set_option maxRecDepth 100000
open Go.RowKit
set_option linter.unusedSimpArgs false

/-- v, is := m[k]. -/
theorem Mp.at_ok {w : World} {b : Nat} {l : List Wrt} (h : Mp w b (Dof l)) (a : Int) (ha : -9223372036854775808 ≤ a ∧ a ≤ 9223372036854775807) :
    ∃ x : List UInt8, x.length = 16 ∧ (Instr.lookup 105 (.map (some b)) (.int .i64 a) true).run Try.prog w = .ok (.tuple #[.agg (bv x).toArray, .bool (lastW l a).isSome]) w := by
  obtain ⟨v, ps, hrun, hv⟩ := World.ownsMap.look_ok h lawI Try.underlying105 (zero_sec w) (secR_mk (x := z16) rfl) (key_int a ha)
  rw [atKey_sect] at hv
  rw [has_Dof] at hrun
  obtain ⟨x, hx, rfl, he⟩ := secR_inv hv
  exact ⟨x, hx, hrun⟩
theorem used_step (l : List Wrt) (a : Int) (b : List UInt8) (n k : Nat) (h0 : 0 ≤ a) (h1 : a + k < n) : usedN (l ++ chs a b (k + 1)) n = usedN (l ++ chs a b k) n + if (lastW l (a + k)).isSome = false then 1 else 0 := by
  show usedN (l ++ (chs a b k ++ [_])) n = _
  rw [← List.append_assoc, usedN_snoc _ _ n (show 0 ≤ a + (k : Int) by omega)]
  have e : lastW (l ++ chs a b k) (a + (k : Int)) = lastW l (a + k) := by rw [lastW_chs, if_neg (by omega)]
  show usedN (l ++ chs a b k) n + (if a + (k : Int) < (n : Int) ∧ (lastW (l ++ chs a b k) (a + (k : Int))).isSome = false then 1 else 0) = _
  rw [e]
  simp only [h1, true_and]

set_option maxHeartbeats 400000 in
theorem write_no (B : Nat) (f : Fp) (s : St) (w : World) (h : Sto w B f s) (at_ : Int) (A : Option Addr) (m c : Nat) (b : List UInt8) (hm : b.length = m) (hmc : m ≤ 9223372036854775807)
    (hno : m = 0 ∨ m % 16 ≠ 0 ∨ insideB s.n at_ ((m / 16 : Nat) : Int) = false) :
    Calls Try.prog 42 #[.pointer (some ⟨f.g, 0, none⟩), .int .i64 at_, .slice A m c] w fun e w' => e = .returned (.int .i64 (doW s at_ b).2) ∧ w' = w := by
  by_cases h1 : m = 0
  · have e1 : (doW s at_ b).2 = 1 := by unfold doW; rw [if_pos (.inl (by omega))]
    rw [e1]
    subst h1
    clear h hno hm
    go_enter Try.func42, Try.ntmps42
    go_wp2_with fail
    go_ret
    exact ⟨rfl, rfl⟩
  by_cases h2 : m % 16 = 0
  · have hi : insideB s.n at_ ((m / 16 : Nat) : Int) = false := by
      rcases hno with h | h | h
      · exact absurd h h1
      · exact absurd h2 h
      · exact h
    have e1 : (doW s at_ b).2 = 31 := by
      unfold doW
      rw [if_neg (by rw [hm]; omega), if_pos (by rw [hm]; exact hi)]
    rw [e1]
    have hin := inside_any B f s w h at_ ((m / 16 : Nat) : Int) (by omega)
    rw [hi] at hin
    have h3 : ((m : Int) % 16 != 0) = false := by simp; omega
    have h4 : ((m : Int) == 0) = false := by simpa using h1
    rw [show ((m / 16 : Nat) : Int) = (m : Int) / 16 by omega] at hin
    clear h hno hm e1 hi h1 h2
    go_enter Try.func42, Try.ntmps42
    go_wp2_with fail
    refine hin.mono ?_
    rintro e w' ⟨rfl, rfl⟩
    go_wp2_with fail
    go_ret
    exact ⟨rfl, rfl⟩
  · have e1 : (doW s at_ b).2 = 1 := by unfold doW; rw [if_pos (.inr (by omega))]
    rw [e1]
    clear h hno hm
    have h3 : ((m : Int) % 16 != 0) = true := by simp; omega
    clear h2
    go_enter Try.func42, Try.ntmps42
    go_wp2_with fail
    go_ret
    exact ⟨rfl, rfl⟩
theorem rowAt {w : World} {A : Option Addr} {l : List UInt8} (h : Row w A (bv l)) (hl : 0 < l.length) : ∃ g o, A = some ⟨g, o, none⟩ ∧ ∀ j u, (bv l)[j]? = some u → w.cell? ⟨g, o + j, none⟩ = some u := by
  obtain ⟨g, o, hA, _, hc⟩ := h.at_ (by rw [bv_length]; exact hl)
  exact ⟨g, o, hA, hc⟩
theorem sixteen {x : List UInt8} (h : x.length = 16) : ∃ y0 y1 y2 y3 y4 y5 y6 y7 y8 y9 y10 y11 y12 y13 y14 y15, x = [y0, y1, y2, y3, y4, y5, y6, y7, y8, y9, y10, y11, y12, y13, y14, y15] := by
  match x, h with
  | [y0, y1, y2, y3, y4, y5, y6, y7, y8, y9, y10, y11, y12, y13, y14, y15], _ => exact ⟨y0, y1, y2, y3, y4, y5, y6, y7, y8, y9, y10, y11, y12, y13, y14, y15, rfl⟩

theorem Mp.fit {w : World} {b n : Nat} {D : DataW Unit} (h : w.ownsMap Try.prog 3 secR b n D) (hs : Maps.size D ≤ 4096) : Mp w b D := by
  obtain ⟨es, clock, h1, h2, h3, h4⟩ := h
  refine ⟨es, clock, h1, h2, ?_, h4⟩
  rw [h4] at hs
  simpa [Maps.size, length_sorted] using hs

theorem St.OK.push {s : St} (h : s.OK) {a : Int} {x : List UInt8} (hx : x.length = 16) (ha : 0 ≤ a ∧ a < s.n) : St.OK ⟨s.n, s.room, s.l ++ [(a, x)], s.k⟩ :=
  ⟨h.n0, h.n1, h.r0, by have := h.k; simp only [List.length_append]; omega, fun w hw => by
    rcases List.mem_append.1 hw with hw | hw
    · exact h.w w hw
    · obtain rfl : w = (a, x) := by simpa using hw
      exact ⟨ha.1, ha.2, hx⟩⟩

theorem Sto.push {w w4 : World} {B : Nat} {f : Fp} {s : St} (h : Sto w B f s) {a : Int} {x : List UInt8} (hx : x.length = 16) (ha : 0 ≤ a ∧ a < s.n) {A' : Option Addr} {c' : Nat}
    (ho : Only w w4 (fun k => k = f.b2 ∨ ownB f.A f.c = some k)) (hm : Mp w4 f.b2 (Dof (s.l ++ [(a, x)]))) (h4 : Own w4 B 135 17 A' (s.l.length - s.k + 1) c' (wcells (s.l.drop s.k) ++ Wrt.cells (a, x)))
    (hA : ownB A' c' = ownB f.A f.c ∨ ∃ g, w.heap.size ≤ g ∧ ownB A' c' = some g) :
    Sto (w4.setCell ⟨f.g, 4, none⟩ (.slice A' (s.l.length - s.k + 1) c')) B ⟨f.g, f.b1, f.b2, A', c'⟩ ⟨s.n, s.room, s.l ++ [(a, x)], s.k⟩ ∧ Turned w (w4.setCell ⟨f.g, 4, none⟩ (.slice A' (s.l.length - s.k + 1) c')) f ⟨f.g, f.b1, f.b2, A', c'⟩ := by
  have hk := h.ok.k
  have hg4 : Blk w4 f.g 108 _ := h.blk.only ho (fun e => e.elim (fun e => h.blk.ne_map h.seen e) (fun e => h.own.blk_ne h.blk (by decide) _ e rfl))
  have hb1 : Mp w4 f.b1 (Dof (s.l.take s.k)) := h.safe.only ho (fun e => e.elim h.ne (fun e => h.own.ne_map h.safe _ e rfl))
  have h5 : Only w4 (w4.setCell ⟨f.g, 4, none⟩ (.slice A' (s.l.length - s.k + 1) c')) (fun k => k = f.g) := Only.setCell (F := fun k => k = f.g) (Only.refl _ _) (.inl rfl) _
  refine ⟨⟨?_, ?_, hm.only h5 (fun e => hg4.ne_map hm e.symm), ?_, h.ok.push hx ha, h.low, h.ne⟩, ⟨?_, fun k hk2 => ?_, rfl⟩⟩
  · have h6 := hg4.set_ 4 (.slice A' (s.l.length - s.k + 1) c')
    simp only [List.length_append, List.length_singleton]
    rw [show s.l.length + 1 - s.k = s.l.length - s.k + 1 by omega]
    exact h6
  · simp only
    rw [List.take_append_of_le_length hk]
    exact hb1.only h5 (fun e => hg4.ne_map hb1 e.symm)
  · simp only [List.length_append, List.length_singleton]
    rw [show s.l.length + 1 - s.k = s.l.length - s.k + 1 by omega, List.drop_append_of_le_length hk, wcells_snoc]
    exact h4.only h5 (h4.blk_ne hg4 (by decide))
  · refine Only.trans (ho.mono (fun k _ hk2 => ?_)) h5 (fun k _ hk2 => ?_)
    · rcases hk2 with hk2 | hk2
      · exact .inr (.inr (.inl hk2))
      · exact .inr (.inr (.inr hk2))
    · exact .inl hk2
  · rcases hk2 with hk2 | hk2 | hk2 | hk2
    · exact .inl (.inl hk2)
    · exact .inl (.inr (.inl hk2))
    · exact .inl (.inr (.inr (.inl hk2)))
    · rcases hA with hA | ⟨g, hg, hA⟩
      · have h7 : ownB A' c' = some k := hk2
        rw [hA] at h7
        exact .inl (.inr (.inr (.inr h7)))
      · have h7 : ownB A' c' = some k := hk2
        rw [hA] at h7
        injection h7 with h7
        exact .inr (h7 ▸ hg)

theorem info_write : (Try.prog.info? 135).map (fun i => (i.zero, i.size, i.bytes)) = some (some (.agg (Wrt.cells (0, z16)).toArray), 17, 24) := by kernel_rfl
theorem build_w (a : Int) (x : List UInt8) (hx : x.length = 16) (w : World) : (Instr.build 135 #[(0, .int .i64 a), (1, .agg (bv x).toArray)]).run Try.prog w = .ok (.agg (Wrt.cells (a, x)).toArray) w := by
  obtain ⟨y0, y1, y2, y3, y4, y5, y6, y7, y8, y9, y10, y11, y12, y13, y14, y15, rfl⟩ := sixteen hx
  exact run_build w 135 _ _ (by kernel_rfl)
theorem fold_w (a : Int) (x : List UInt8) (hx : x.length = 16) : List.foldl (fun (cs : Array Value) (y : Value × Nat) => cs.setIfInBounds y.snd y.fst) #[.int .i64 0, .int .u8 0, .int .u8 0, .int .u8 0, .int .u8 0, .int .u8 0, .int .u8 0, .int .u8 0, .int .u8 0, .int .u8 0, .int .u8 0, .int .u8 0, .int .u8 0, .int .u8 0, .int .u8 0, .int .u8 0, .int .u8 0] (Wrt.cells (a, x)).zipIdx = (Wrt.cells (a, x)).toArray := by
  obtain ⟨y0, y1, y2, y3, y4, y5, y6, y7, y8, y9, y10, y11, y12, y13, y14, y15, rfl⟩ := sixteen hx
  kernel_rfl
theorem hold_bd {o : Oper} {a : Act} {u : World} {ty : TypeId} (i1 i2 : Nat) (x1 x2 : Operand) (ho : o.op = .build ty #[(i1, x1), (i2, x2)]) (v1 v2 : Value) (h1 : a.eval x1 = v1) (h2 : a.eval x2 = v2) (v : Value) (hr : (Instr.build ty #[(i1, v1), (i2, v2)]).run Try.prog u = .ok v u) :
    (execOp a.eval o).run Try.prog u = .ok (.value v) u := by
  unfold execOp
  simp only [ho, List.map_toArray, List.map_cons, List.map_nil, h1, h2, Sem.run_bind, hr, Result.andThen_ok, Sem.run_pure]
theorem info_sec (x : List UInt8) (hx : x.length = 16) : (Try.prog.info? 104).map (·.size) = some (bv x).toArray.size := by
  rw [List.size_toArray, bv_length, hx]
  kernel_rfl
theorem wpList_load_any {ops : Array Oper} {rest : List Oper} {o : Oper} {a : Act} {w : World} {Q : Exit → Act → World → Prop} (hgd : o.guard = none) (ty : TypeId) (x : Operand) (ho : o.op = .load ty x) (p : Addr) (hx : a.eval x = .pointer (some p)) (v : Value)
    (hl : (loadVar ty p).run Try.prog w = .ok v w) (h : wpList Try.prog ops Q rest (a.put o.dst v) w) : wpList Try.prog ops Q (o :: rest) a w :=
  wpList_plain hgd fun _ hK => by
    unfold Oper.wp execOp
    simp only [ho, hx, Instr.loadAt, Instr.sureAddr, Sem.run_bind, Sem.run_pure, Result.andThen_ok, hl]
    exact hK _ _ h
theorem load16 (w : World) (g o : Nat) (x : List UInt8) (hx : x.length = 16) (h : ∀ j u, (bv x)[j]? = some u → w.cell? ⟨g, o + j, none⟩ = some u) : (loadVar 104 ⟨g, o, none⟩).run Try.prog w = .ok (.agg (bv x).toArray) w := by
  have h2 := run_loadCells_list (P := Try.prog) w ⟨g, o, none⟩ (bv x) (fun j v hv => by rw [addr_add]; exact h j v hv)
  rw [bv_length, hx] at h2
  have hagg : (isAgg 104).run Try.prog w = .ok true w := by
    unfold isAgg
    rw [Sem.run_bind, run_underlying Try.underlying104 w]
    rfl
  have hs := info_sec x hx
  obtain ⟨i, hi, hz⟩ := Option.map_eq_some_iff.1 hs
  rw [List.size_toArray, bv_length, hx] at hz
  simp [loadVar, Sem.run_bind, hagg, sizeOf, typeInfo, hi, hz, h2]
theorem wcells_len1 (a : Int) (x : List UInt8) (hx : x.length = 16) : (Wrt.cells (a, x)).length = 17 := by
  unfold Wrt.cells
  rw [List.length_cons, bv_length, hx]

set_option maxHeartbeats 1000000 in
theorem write_yes (B : Nat) (f : Fp) (s : St) (w : World) (h : Sto w B f s) (at_ : Int) (A : Option Addr) (m c : Nat) (b : List UInt8) (hm : b.length = m) (hmc : m ≤ c) (hr : Away w A (bv b) (Foot f)) (n : Nat) (hmn : m = 16 * n) (hn1 : 1 ≤ n)
    (hi : insideB s.n at_ (n : Int) = true) (hsz : s.l.length + n ≤ 5000000000000) :
    Calls Try.prog 42 #[.pointer (some ⟨f.g, 0, none⟩), .int .i64 at_, .slice A m c] w fun e w' => ∃ f', e = .returned (.int .i64 (doW s at_ b).2) ∧ Sto w' B f' (doW s at_ b).1 ∧ Turned w w' f f' := by
  obtain ⟨i1, hi1, hy0, hy1, hy2⟩ := info_parts info_write
  have hof := insideB_of hi
  have hsn := h.ok.n1
  obtain ⟨N, hN⟩ := Int.eq_ofNat_of_zero_le h.ok.n0
  have hn4 : n ≤ 4096 := by omega
  have hin := inside_any B f s w h at_ (n : Int) (by omega)
  rw [hi] at hin
  have hus := used_any B f s w h
  have h4 : (m : Int) / 16 = (n : Int) := by omega
  have h3 : ((m : Int) % 16 != 0) = false := by simp; omega
  have h3' : ((m : Int) == 0) = false := by simp; omega
  have hU := fun k (hk : k < n) => used_step s.l at_ b N k (by omega) (by omega)
  have hUle := fun k => usedN_le (s.l ++ chs at_ b k) N
  have HU := Lib.hid hU
  have HM := Lib.hid hm
  have HN := Lib.hid hN
  have hN4 : N ≤ 4096 := by omega
  have hNi : at_ + n ≤ N := by omega
  clear hm hU hi hN hsn
  go_enter Try.func42, Try.ntmps42
  go_wp2_with fail
  refine hin.mono ?_
  rintro e w' ⟨rfl, rfl⟩
  go_wp2_with fail
  refine hus.mono ?_
  rintro e w1 ⟨rfl, rfl⟩
  go_wp2_with fail
  go_loopw [8, 36] (fun v i wr => ∃ k : Nat, k ≤ n ∧ i = .int .i64 k ∧ v = .int .i64 (usedN (s.l ++ chs at_ b k) N : Nat) ∧ Below w1.heap.size w1 wr)
    (fun _ i _ => n - (intOf i).toNat)
  case atStart => exact ⟨0, Nat.zero_le _, rfl, by unfold St.used; rw [HN.out]; simp [chs], Below.refl _ _⟩
  case round =>
    obtain ⟨k, hk, rfl, rfl, hbel⟩ := hrel
    have hr2 := h.below hbel
    obtain ⟨⟨c0, c1, c2, c3, c4⟩, _⟩ := hr2.five
    by_cases hlt : k < n
    · obtain ⟨x, hx16, hlook⟩ := hr2.seen.at_ok (at_ + k) (by omega)
      have hxv : (bv x).length = 16 := by rw [bv_length, hx16]
      have hst := fun (u : World) => store16 u x hx16
      have hstep := HU.out k hlt
      have hle := hUle k
      obtain ⟨U, hUe⟩ : ∃ U, U = usedN (s.l ++ chs at_ b k) N := ⟨_, rfl⟩
      obtain ⟨U2, hUe2⟩ : ∃ U2, U2 = usedN (s.l ++ chs at_ b (k + 1)) N := ⟨_, rfl⟩
      rw [← hUe] at hstep hle ⊢
      rw [← hUe2] at hstep
      have HE := Lib.hid hUe2
      clear hUe hUe2 hx16 hr2
      cases hs : (lastW s.l (at_ + k)).isSome
      · rw [hs] at hstep hlook
        rw [if_pos rfl] at hstep
        have HS := Lib.hid hstep
        clear hs hstep
        go_wp2_with fail
        go_roundw
        case rel => exact ⟨k + 1, by omega, by go_num, by rw [← HE.out, HS.out]; go_num, hbel.alloc hbel.size _⟩
        case measure => simp [intOf]; omega
      · rw [hs] at hstep hlook
        rw [if_neg (by simp)] at hstep
        have HS := Lib.hid hstep
        clear hs hstep
        go_wp2_with fail
        go_roundw
        case rel => exact ⟨k + 1, by omega, by go_num, by rw [← HE.out, HS.out]; rfl, hbel.alloc hbel.size _⟩
        case measure => simp [intOf]; omega
    · obtain rfl : k = n := by omega
      have hle := hUle k
      have hsu : s.used ≤ 4096 := by have := usedN_le s.l s.n.toNat; have := h.ok.n1; unfold St.used; omega
      have hb1 : ¬ (b.length = 0 ∨ b.length % 16 ≠ 0) := by have := HM.out; omega
      have hb2 : b.length / 16 = k := by have := HM.out; omega
      have hNs : s.n.toNat = N := by have := HN.out; omega
      have hib : ¬ insideB s.n at_ (k : Int) = false := by
        rw [Bool.not_eq_false]
        unfold insideB
        simp only [Bool.and_eq_true, decide_eq_true_eq]
        have := HN.out
        omega
      have e30 : s.room < ((usedN (s.l ++ chs at_ b k) N : Nat) : Int) ∧ s.used < usedN (s.l ++ chs at_ b k) N → doW s at_ b = (s, 30) := fun hc => by
        unfold doW
        rw [if_neg hb1, hb2, if_neg hib, hNs, if_pos hc]
      have e0 : ¬ (s.room < ((usedN (s.l ++ chs at_ b k) N : Nat) : Int) ∧ s.used < usedN (s.l ++ chs at_ b k) N) → doW s at_ b = (⟨s.n, s.room, s.l ++ chs at_ b k, s.k⟩, 0) := fun hc => by
        unfold doW
        rw [if_neg hb1, hb2, if_neg hib, hNs, if_neg hc]
      obtain ⟨U, hUe⟩ : ∃ U, U = usedN (s.l ++ chs at_ b k) N := ⟨_, rfl⟩
      rw [← hUe] at hle e30 e0 ⊢
      have hus2 := used_any B f s wr hr2
      obtain ⟨su, hsue⟩ : ∃ su, su = s.used := ⟨_, rfl⟩
      rw [← hsue] at hus2 hsu e30 e0
      have E30 := Lib.hid e30
      have E0 := Lib.hid e0
      have HR2 := Lib.hid hr2
      clear hUe e30 e0 hb1 hb2 hNs hib hUle hsue hr2 HU
      by_cases hroom : s.room < (U : Int)
      · by_cases hu2 : su < U
        · have e := E30.out ⟨hroom, hu2⟩
          have HE2 := Lib.hid e
          clear e
          go_wp2_with fail
          refine hus2.mono ?_
          rintro e w' ⟨rfl, rfl⟩
          go_wp2_with fail
          go_ret
          rw [HE2.out]
          exact ⟨f, rfl, HR2.out, (Turned.refl _ _).below hbel⟩
        · have e := E0.out (fun hc => hu2 hc.2)
          have HE2 := Lib.hid e
          clear e
          go_wp2_with fail
          refine hus2.mono ?_
          rintro e w' ⟨rfl, rfl⟩
          have hbel := hbel
          go_wp2_with fail
          go_loopw [68] (fun i wr => ∃ (j : Nat) (f1 : Fp), j ≤ k ∧ i = .int .i64 j ∧ f1.g = f.g ∧ Sto wr B f1 ⟨s.n, s.room, s.l ++ chs at_ b j, s.k⟩ ∧ Turned w1 wr f f1)
            (fun i _ => k - (intOf i).toNat)
          case atStart => exact ⟨0, f, Nat.zero_le _, rfl, rfl, by simpa [chs] using HR2.out, (Turned.refl _ _).below hbel⟩
          case round =>
            obtain ⟨j, f1, hj, rfl, hfg, hsto, htur⟩ := hrel
            by_cases hlt : j < k
            · have hrow := (hr.turned htur).row
              have hml : 16 * j + 16 ≤ b.length := by rw [HM.out]; omega
              have hx16 : ((b.drop (16 * j)).take 16).length = 16 := by rw [List.length_take, List.length_drop]; omega
              obtain ⟨g0, o0, rfl, hc0⟩ := rowAt hrow (show 0 < b.length by omega)
              obtain ⟨x, hxe⟩ : ∃ x, x = (b.drop (16 * j)).take 16 := ⟨_, rfl⟩
              have hstep : s.l ++ chs at_ b (j + 1) = (s.l ++ chs at_ b j) ++ [(at_ + (j : Int), x)] := by rw [hxe, List.append_assoc]; rfl
              have hlx : ∀ (i : Nat) (v : Value), (bv x)[i]? = some v → wr.cell? ⟨g0, o0 + j * 16 + i, none⟩ = some v := fun i v hv => by
                rw [hxe, ← bv_take, ← bv_drop, List.getElem?_take] at hv
                split at hv
                · rw [List.getElem?_drop] at hv
                  rw [Nat.add_assoc, Nat.mul_comm j 16]
                  exact hc0 _ _ hv
                · cases hv
              rw [← hxe] at hx16
              have hll : (s.l ++ chs at_ b j).length ≤ 5000000000000 := by rw [List.length_append, chs_length]; omega
              obtain ⟨t, ht⟩ : ∃ t : St, t = ⟨s.n, s.room, s.l ++ chs at_ b j, s.k⟩ := ⟨_, rfl⟩
              have htn : t.n = s.n := by rw [ht]
              have htl : t.l = s.l ++ chs at_ b j := by rw [ht]
              have hpl : (⟨s.n, s.room, s.l ++ chs at_ b (j + 1), s.k⟩ : St) = ⟨t.n, t.room, t.l ++ [(at_ + (j : Int), x)], t.k⟩ := by rw [hstep, ht]
              rw [← ht] at hsto
              rw [← htl] at hll
              have hfit : Maps.size ((Dof t.l).put (keyL (at_ + (j : Int))) (elD x)) ≤ 4096 := by
                have ho := hsto.ok.push hx16 (a := at_ + (j : Int)) ⟨by omega, by have := HN.out; omega⟩
                have e9 : (Dof t.l).put (keyL (at_ + (j : Int))) (elD x) = Dof (t.l ++ [(at_ + (j : Int), x)]) := (Dof_snoc t.l (at_ + (j : Int), x)).symm
                rw [e9, size_Dof _ 4096 (fun y hy => by have h1 := ho.w y hy; have h2 := ho.n1; simp only at h1 h2; omega)]
                exact usedN_le _ _
              clear ht htl hstep hxe hc0
              have HPL := Lib.hid hpl
              clear hpl
              obtain ⟨q, hq⟩ : ∃ q, q = t.l.length - t.k := ⟨_, rfl⟩
              have hq5 : q ≤ 5000000000000 := by omega
              have hfive := hsto.five
              rw [hfg, ← hq] at hfive
              obtain ⟨⟨c0, c1, c2, c3, c4⟩, z0, z1, z2, z3, z4⟩ := hfive
              have hat0 := run_arrayAt (P := Try.prog) wr 104 _ 16 (some ⟨g0, o0 + j * 16, none⟩) ((j + 1) * 16 - j * 16) (c - j * 16) Try.underlying104 (by omega)
              have HAT := Lib.hid hat0
              clear hat0
              have hld := load16 wr g0 (o0 + j * 16) x hx16 hlx
              have hxv : (bv x).length = 16 := by rw [bv_length, hx16]
              have hst := fun (u : World) => store16 u x hx16
              obtain ⟨gx, hgx⟩ : ∃ gx, gx = wr.heap.size := ⟨_, rfl⟩
              have hxb : Blk (wr.alloc (.cells (bv x).toArray 104)) gx 104 (bv x).toArray := by rw [hgx]; exact Blk.new wr _ _
              have hgb : Blk (wr.alloc (.cells (bv x).toArray 104)) f.g 108 _ := hfg ▸ hsto.blk.alloc (.cells (bv x).toArray 104)
              have hmb := hsto.seen.alloc (.cells (bv x).toArray 104)
              rw [← hq] at hgb
              have hfgx : f.g ≠ gx := hgb.ne_ hxb (by decide)
              have HNE := Lib.hid (Ne.symm hfgx)
              have HSTO := Lib.hid hsto
              have HTUR := Lib.hid htur
              clear hfgx hsto htur hlx hrow
              go_wp2_with fail
              rw [HAT.out]
              simp only [Result.andThen]
              rw [Oper.upon_value]
              go_step
              refine wpList_load_any rfl 104 _ rfl ⟨g0, o0 + j * 16, none⟩ rfl _ hld ?_
              go_wp2_with fail
              rw [← hgx]
              have HGX := Lib.hid hgx
              clear hgx
              refine wp_region_seqS ((fun u => Blk u f.g 108 #[.int .i64 t.n, .int .i64 t.room, .map (some f1.b1), .map (some f1.b2), .slice f1.A q f1.c] ∧ Blk u gx 104 (bv x).toArray)) (.take 0 .copy (.take 4 .copy (.take 5 .copy (.take 6 .int2 (.hold 7 (.alone 1 (.take 2 .addr (.hold 3 (.alone 8 .fin))))))))) (by kernel_rfl) (by kernel_rfl) (by kernel_rfl) ?_ ?_
              · exact ⟨hgb.drew, hxb.drew⟩
              simp only [preS, nxtS, List.getElem?_toArray, List.getElem?_cons_zero, List.getElem?_cons_succ, opAt, ghosts, List.nil_append, gInt, ghost, List.cons_append]
              go_wp2_with fail
              refine next_hold (.agg (bv x).toArray) rfl (hold_row 104 _ rfl gx rfl 104 _ _ (fun u h => h.2) Try.underlying104 rfl (info_sec x hx16)) ?_
              go_wp2_with fail
              refine nextS ⟨hgb.drew, hxb.drew⟩ ?_
              go_wp2_with fail
              refine next_hold (.map (some f1.b2)) rfl (hold_cell 105 _ rfl ⟨f.g, 3, none⟩ rfl _ _ (fun u h => h.1.cell 3) rfl Try.underlying105) ?_
              go_wp2_with (at_mapUpdate; refine wpList_mapUpdate_in _ rfl _ _ _ 105 rfl 3 104 lawI Try.underlying105 secR f1.b2 4096 _ rfl hmb.drew (by decide) _ _ _ rfl rfl (key_int (at_ + j) (by omega)) _ _ (secR_mk hx16) ?_; intro w2 hm2 ht2; refine Classical.byContradiction fun hstop => ?_)
              refine absurd ?_ hstop
              clear hstop
              have ho2 := Mp.turned ht2
              have hx2 := hxb.drew.only ho2 (hxb.ne_map hmb)
              have hg2 := hgb.drew.only ho2 (hgb.ne_map hmb)
              have hm2f : Mp w2 f1.b2 (Dof (t.l ++ [(at_ + (j : Int), x)])) := by rw [Dof_snoc t.l (at_ + (j : Int), x)]; exact Mp.fit hm2 hfit
              have ho12 : Only wr w2 (fun i => i = f1.b2 ∨ ownB f1.A f1.c = some i) := ((Only.refl wr _).alloc (.cells (bv x).toArray 104)).drew.trans ho2 (fun i _ hi => .inl hi)
              have hown2 : Own w2 B 135 17 f1.A q f1.c (wcells (t.l.drop t.k)) := by
                have h5 := (HSTO.out.own.alloc (.cells (bv x).toArray 104)).drew.only ho2 (HSTO.out.own.ne_map HSTO.out.seen)
                rw [← hq] at h5
                exact h5
              have hbd := fun u => build_w (at_ + j) x hx16 u
              have hbs := fold_w (at_ + j) x hx16
              have hl17 := wcells_len1 (at_ + j) x hx16
              have hsrcC : Src Try.prog ((w2.alloc (.cells (Wrt.cells (at_ + j, x)).toArray 135)).drew) 106 (.slice (some ⟨w2.heap.size, 0, none⟩) 1 1) 17 1 (Wrt.cells (at_ + j, x)) := Src.slice Try.underlying106 (.inr ⟨_, 0, rfl, fun i u hu => by rw [Nat.zero_add]; exact (World.cell?_alloc_at (w := w2) _ _ _ _ rfl).trans (by simpa using hu)⟩) (by rw [hl17]) (fun u hu => wcells_one [(at_ + (j : Int), x)] u (by simpa [wcells] using hu))
              have hownC := (hown2.alloc (.cells (Wrt.cells (at_ + j, x)).toArray 135)).drew
              have hBC : B ≤ ((w2.alloc (.cells (Wrt.cells (at_ + j, x)).toArray 135)).drew).heap.size := by have h6 := HSTO.out.size; have h7 := ho12.size; simp; omega
              have hg4a := (hg2.alloc (.cells (Wrt.cells (at_ + j, x)).toArray 135)).drew
              have hx4a := (hx2.alloc (.cells (Wrt.cells (at_ + j, x)).toArray 135)).drew
              have hAg : ∀ i, ownB f1.A f1.c = some i → i ≠ f.g := hfg ▸ HSTO.out.own.blk_ne HSTO.out.blk (by decide)
              have hAx : ∀ i, ownB f1.A f1.c = some i → i ≠ gx := hownC.blk_ne hx4a (by decide)
              have hX4 : ∀ w4, ((w2.alloc (.cells (Wrt.cells (at_ + j, x)).toArray 135)).drew).grownBy w4 (ownB f1.A f1.c) → Blk w4 gx 104 (bv x).toArray := fun w4 hg => hx4a.grown hg (fun e => hAx _ e rfl)
              have hZ4 : ∀ w4, ((w2.alloc (.cells (Wrt.cells (at_ + j, x)).toArray 135)).drew).grownBy w4 (ownB f1.A f1.c) → (w4.cell? ⟨f.g, 4, none⟩ = some (.slice f1.A q f1.c) ∧ w4.frozen? ⟨f.g, 4, none⟩ = false) := fun w4 hg => ⟨(hg4a.grown hg (fun e => hAg _ e rfl)).cell 4, (hg4a.grown hg (fun e => hAg _ e rfl)).frozen 4⟩
              have hfin : ∀ (A4 : Option Addr) (c4 : Nat) (w4 : World), Own w4 B 135 17 A4 (q + 1) c4 (wcells (t.l.drop t.k) ++ Wrt.cells (at_ + j, x)) → ((w2.alloc (.cells (Wrt.cells (at_ + j, x)).toArray 135)).drew).grownBy w4 (ownB f1.A f1.c) → (ownB A4 c4 = ownB f1.A f1.c ∨ ownB A4 c4 = some ((w2.alloc (.cells (Wrt.cells (at_ + j, x)).toArray 135)).drew).heap.size) →
                  ∃ (j1 : Nat) (f2 : Fp), j1 ≤ k ∧ (Value.int .i64 ((j : Int) + 1)) = .int .i64 j1 ∧ f2.g = f.g ∧ Sto (w4.setCell ⟨f.g, 4, none⟩ (.slice A4 (q + 1) c4)) B f2 ⟨s.n, s.room, s.l ++ chs at_ b j1, s.k⟩ ∧ Turned w1 (w4.setCell ⟨f.g, 4, none⟩ (.slice A4 (q + 1) c4)) f f2 := fun A4 c4 w4 hown4 hg4 hb4 => by
                have ho4 : Only wr w4 (fun i => i = f1.b2 ∨ ownB f1.A f1.c = some i) := (ho12.alloc (.cells (Wrt.cells (at_ + j, x)).toArray 135)).drew.grown hg4 (fun i hi => .inl (.inr hi))
                have hm4 : Mp w4 f1.b2 _ := (hm2f.alloc (.cells (Wrt.cells (at_ + j, x)).toArray 135)).drew.only (F := fun i => ownB f1.A f1.c = some i) ⟨hg4.os, hg4.tape, hg4.output, hg4.size, fun i hi hn => hg4.block i hi (fun e => hn e.symm)⟩ (fun e => HSTO.out.own.ne_map HSTO.out.seen _ e rfl)
                rw [hq] at hown4 ⊢
                have h8 := HSTO.out.push hx16 (a := at_ + (j : Int)) ⟨by omega, by have := HN.out; omega⟩ ho4 hm4 hown4 (hb4.imp id (fun e => ⟨_, by have := ho12.size; simp; omega, e⟩))
                rw [hfg] at h8
                exact ⟨j + 1, ⟨f.g, f1.b1, f1.b2, A4, c4⟩, by omega, rfl, rfl, by rw [HPL.out]; exact h8.1, HTUR.out.trans h8.2⟩
              have HX4 := Lib.hid hX4
              have HZ4 := Lib.hid hZ4
              have HFIN := Lib.hid hfin
              clear hq
              obtain ⟨⟨d0, d1, d2, d3, d4⟩, y0f, y1f, y2f, y3f, y4f⟩ : (w2.cell? ⟨f.g, 0, none⟩ = some (.int .i64 t.n) ∧ w2.cell? ⟨f.g, 1, none⟩ = some (.int .i64 t.room) ∧ w2.cell? ⟨f.g, 2, none⟩ = some (.map (some f1.b1)) ∧ w2.cell? ⟨f.g, 3, none⟩ = some (.map (some f1.b2)) ∧ w2.cell? ⟨f.g, 4, none⟩ = some (.slice f1.A q f1.c)) ∧ (w2.frozen? ⟨f.g, 0, none⟩ = false ∧ w2.frozen? ⟨f.g, 1, none⟩ = false ∧ w2.frozen? ⟨f.g, 2, none⟩ = false ∧ w2.frozen? ⟨f.g, 3, none⟩ = false ∧ w2.frozen? ⟨f.g, 4, none⟩ = false) := ⟨⟨hg2.cell 0, hg2.cell 1, hg2.cell 2, hg2.cell 3, hg2.cell 4⟩, hg2.frozen 0, hg2.frozen 1, hg2.frozen 2, hg2.frozen 3, hg2.frozen 4⟩
              have hfgl := hg2.lt
              refine nextS ⟨hg2, hx2⟩ ?_
              refine ends_normal ?_
              clear hX4 hZ4 hfin hg2 hgb hmb hm2 ht2 hm2f ho12 hown2 hxb c0 c1 c2 c3 c4 z0 z1 z2 z3 z4 HAT hld hst hAg hAx hg4a
              go_wp2_with fail
              refine wp_region_seqS (fun u => Blk u gx 104 (bv x).toArray) (.take 0 .copy (.take 1 .copy (.take 5 .copy (.take 6 .copy (.take 7 .int2 (.hold 8 (.hold 9 (.fork 2 (.take 3 .addr (.fork 4 (.alone 10 (.alone 11 (.alone 12 (.take 13 .addr (.alone 14 .fin))))) 10 (.alone 4 (.alone 11 (.alone 12 (.take 13 .addr (.alone 14 .fin))))))) 10 (.alone 2 (.take 3 .addr (.alone 4 (.alone 11 (.alone 12 (.take 13 .addr (.alone 14 .fin))))))))))))))) (by kernel_rfl) (by kernel_rfl) (by kernel_rfl) ?_ ?_
              · exact hx2.drew
              simp only [preS, nxtS, List.getElem?_toArray, List.getElem?_cons_zero, List.getElem?_cons_succ, opAt, ghosts, List.nil_append, gInt, ghost, List.cons_append]
              go_wp2_with fail
              refine next_hold (.agg (bv x).toArray) rfl (hold_row 104 _ rfl gx rfl 104 _ _ (fun u h => h) Try.underlying104 rfl (info_sec x hx16)) ?_
              go_wp2_with fail
              refine next_hold (.agg (Wrt.cells (at_ + j, x)).toArray) rfl (fun u _ => hold_bd 0 1 _ _ rfl (.int .i64 (at_ + j)) (.agg (bv x).toArray) rfl rfl _ (hbd u)) ?_
              go_wp2_with fail
              refine next_fork ?_ ?_
              · go_wp2_with fail
                refine nextS hx2.drew ?_
                go_wp2_with fail
                refine next_fork ?_ ?_
                · go_wp2_with fail
                  refine nextS hx2.drew ?_
                  go_wp2_with fail
                  refine nextS hx4a ?_
                  go_wp2_with (at_builtin; refine wpList_app _ rfl _ _ 106 106 rfl B 135 i1 _ 17 24 Try.underlying106 hi1 hy0 hy1 hy2 rfl f1.A q f1.c _ rfl hownC _ 1 _ rfl hsrcC (by simp only [maxLen]; omega) (by omega) hBC ?_; intro A4 c4' w4 hown4 hg4 hb4; have hx4 := HX4.out _ hg4; have hz4 := HZ4.out _ hg4; refine Classical.byContradiction fun hstop => ?_)
                  refine absurd ?_ hstop
                  clear hstop
                  refine nextS hx4 ?_
                  obtain ⟨z4c, z4f⟩ := hz4
                  go_wp2_with fail
                  refine nextS hx4 ?_
                  go_wp2_with fail
                  refine nextS (hx4.far (HNE.out) _) ?_
                  refine ends_normal ?_
                  go_wp2_with fail
                  go_roundw
                  case rel => exact HFIN.out _ _ _ hown4 hg4 hb4
                  case measure => simp [intOf]; omega
                · go_wp2_with fail
                  refine nextS hx4a ?_
                  go_wp2_with fail
                  refine nextS hx4a ?_
                  go_wp2_with (at_builtin; refine wpList_app _ rfl _ _ 106 106 rfl B 135 i1 _ 17 24 Try.underlying106 hi1 hy0 hy1 hy2 rfl f1.A q f1.c _ rfl hownC _ 1 _ rfl hsrcC (by simp only [maxLen]; omega) (by omega) hBC ?_; intro A4 c4' w4 hown4 hg4 hb4; have hx4 := HX4.out _ hg4; have hz4 := HZ4.out _ hg4; refine Classical.byContradiction fun hstop => ?_)
                  refine absurd ?_ hstop
                  clear hstop
                  refine nextS hx4 ?_
                  obtain ⟨z4c, z4f⟩ := hz4
                  go_wp2_with fail
                  refine nextS hx4 ?_
                  go_wp2_with fail
                  refine nextS (hx4.far (HNE.out) _) ?_
                  refine ends_normal ?_
                  go_wp2_with fail
                  go_roundw
                  case rel => exact HFIN.out _ _ _ hown4 hg4 hb4
                  case measure => simp [intOf]; omega
              · go_wp2_with fail
                refine nextS hx4a ?_
                go_wp2_with fail
                refine nextS hx4a ?_
                go_wp2_with fail
                refine nextS hx4a ?_
                go_wp2_with (at_builtin; refine wpList_app _ rfl _ _ 106 106 rfl B 135 i1 _ 17 24 Try.underlying106 hi1 hy0 hy1 hy2 rfl f1.A q f1.c _ rfl hownC _ 1 _ rfl hsrcC (by simp only [maxLen]; omega) (by omega) hBC ?_; intro A4 c4' w4 hown4 hg4 hb4; have hx4 := HX4.out _ hg4; have hz4 := HZ4.out _ hg4; refine Classical.byContradiction fun hstop => ?_)
                refine absurd ?_ hstop
                clear hstop
                refine nextS hx4 ?_
                obtain ⟨z4c, z4f⟩ := hz4
                go_wp2_with fail
                refine nextS hx4 ?_
                go_wp2_with fail
                refine nextS (hx4.far (HNE.out) _) ?_
                refine ends_normal ?_
                go_wp2_with fail
                go_roundw
                case rel => exact HFIN.out _ _ _ hown4 hg4 hb4
                case measure => simp [intOf]; omega
            · obtain rfl : j = k := by omega
              go_wp2_with fail
              go_ret
              rw [HE2.out]
              exact ⟨f1, rfl, hsto, htur⟩
      · have e := E0.out (fun hc => hroom hc.1)
        have HE2 := Lib.hid e
        clear e
        go_wp2_with fail
        go_loopw [68] (fun i wr => ∃ (j : Nat) (f1 : Fp), j ≤ k ∧ i = .int .i64 j ∧ f1.g = f.g ∧ Sto wr B f1 ⟨s.n, s.room, s.l ++ chs at_ b j, s.k⟩ ∧ Turned w1 wr f f1)
          (fun i _ => k - (intOf i).toNat)
        case atStart => exact ⟨0, f, Nat.zero_le _, rfl, rfl, by simpa [chs] using HR2.out, (Turned.refl _ _).below hbel⟩
        case round =>
          obtain ⟨j, f1, hj, rfl, hfg, hsto, htur⟩ := hrel
          by_cases hlt : j < k
          · have hrow := (hr.turned htur).row
            have hml : 16 * j + 16 ≤ b.length := by rw [HM.out]; omega
            have hx16 : ((b.drop (16 * j)).take 16).length = 16 := by rw [List.length_take, List.length_drop]; omega
            obtain ⟨g0, o0, rfl, hc0⟩ := rowAt hrow (show 0 < b.length by omega)
            obtain ⟨x, hxe⟩ : ∃ x, x = (b.drop (16 * j)).take 16 := ⟨_, rfl⟩
            have hstep : s.l ++ chs at_ b (j + 1) = (s.l ++ chs at_ b j) ++ [(at_ + (j : Int), x)] := by rw [hxe, List.append_assoc]; rfl
            have hlx : ∀ (i : Nat) (v : Value), (bv x)[i]? = some v → wr.cell? ⟨g0, o0 + j * 16 + i, none⟩ = some v := fun i v hv => by
              rw [hxe, ← bv_take, ← bv_drop, List.getElem?_take] at hv
              split at hv
              · rw [List.getElem?_drop] at hv
                rw [Nat.add_assoc, Nat.mul_comm j 16]
                exact hc0 _ _ hv
              · cases hv
            rw [← hxe] at hx16
            have hll : (s.l ++ chs at_ b j).length ≤ 5000000000000 := by rw [List.length_append, chs_length]; omega
            obtain ⟨t, ht⟩ : ∃ t : St, t = ⟨s.n, s.room, s.l ++ chs at_ b j, s.k⟩ := ⟨_, rfl⟩
            have htn : t.n = s.n := by rw [ht]
            have htl : t.l = s.l ++ chs at_ b j := by rw [ht]
            have hpl : (⟨s.n, s.room, s.l ++ chs at_ b (j + 1), s.k⟩ : St) = ⟨t.n, t.room, t.l ++ [(at_ + (j : Int), x)], t.k⟩ := by rw [hstep, ht]
            rw [← ht] at hsto
            rw [← htl] at hll
            have hfit : Maps.size ((Dof t.l).put (keyL (at_ + (j : Int))) (elD x)) ≤ 4096 := by
              have ho := hsto.ok.push hx16 (a := at_ + (j : Int)) ⟨by omega, by have := HN.out; omega⟩
              have e9 : (Dof t.l).put (keyL (at_ + (j : Int))) (elD x) = Dof (t.l ++ [(at_ + (j : Int), x)]) := (Dof_snoc t.l (at_ + (j : Int), x)).symm
              rw [e9, size_Dof _ 4096 (fun y hy => by have h1 := ho.w y hy; have h2 := ho.n1; simp only at h1 h2; omega)]
              exact usedN_le _ _
            clear ht htl hstep hxe hc0
            have HPL := Lib.hid hpl
            clear hpl
            obtain ⟨q, hq⟩ : ∃ q, q = t.l.length - t.k := ⟨_, rfl⟩
            have hq5 : q ≤ 5000000000000 := by omega
            have hfive := hsto.five
            rw [hfg, ← hq] at hfive
            obtain ⟨⟨c0, c1, c2, c3, c4⟩, z0, z1, z2, z3, z4⟩ := hfive
            have hat0 := run_arrayAt (P := Try.prog) wr 104 _ 16 (some ⟨g0, o0 + j * 16, none⟩) ((j + 1) * 16 - j * 16) (c - j * 16) Try.underlying104 (by omega)
            have HAT := Lib.hid hat0
            clear hat0
            have hld := load16 wr g0 (o0 + j * 16) x hx16 hlx
            have hxv : (bv x).length = 16 := by rw [bv_length, hx16]
            have hst := fun (u : World) => store16 u x hx16
            obtain ⟨gx, hgx⟩ : ∃ gx, gx = wr.heap.size := ⟨_, rfl⟩
            have hxb : Blk (wr.alloc (.cells (bv x).toArray 104)) gx 104 (bv x).toArray := by rw [hgx]; exact Blk.new wr _ _
            have hgb : Blk (wr.alloc (.cells (bv x).toArray 104)) f.g 108 _ := hfg ▸ hsto.blk.alloc (.cells (bv x).toArray 104)
            have hmb := hsto.seen.alloc (.cells (bv x).toArray 104)
            rw [← hq] at hgb
            have hfgx : f.g ≠ gx := hgb.ne_ hxb (by decide)
            have HNE := Lib.hid (Ne.symm hfgx)
            have HSTO := Lib.hid hsto
            have HTUR := Lib.hid htur
            clear hfgx hsto htur hlx hrow
            go_wp2_with fail
            rw [HAT.out]
            simp only [Result.andThen]
            rw [Oper.upon_value]
            go_step
            refine wpList_load_any rfl 104 _ rfl ⟨g0, o0 + j * 16, none⟩ rfl _ hld ?_
            go_wp2_with fail
            rw [← hgx]
            have HGX := Lib.hid hgx
            clear hgx
            refine wp_region_seqS ((fun u => Blk u f.g 108 #[.int .i64 t.n, .int .i64 t.room, .map (some f1.b1), .map (some f1.b2), .slice f1.A q f1.c] ∧ Blk u gx 104 (bv x).toArray)) (.take 0 .copy (.take 4 .copy (.take 5 .copy (.take 6 .int2 (.hold 7 (.alone 1 (.take 2 .addr (.hold 3 (.alone 8 .fin))))))))) (by kernel_rfl) (by kernel_rfl) (by kernel_rfl) ?_ ?_
            · exact ⟨hgb.drew, hxb.drew⟩
            simp only [preS, nxtS, List.getElem?_toArray, List.getElem?_cons_zero, List.getElem?_cons_succ, opAt, ghosts, List.nil_append, gInt, ghost, List.cons_append]
            go_wp2_with fail
            refine next_hold (.agg (bv x).toArray) rfl (hold_row 104 _ rfl gx rfl 104 _ _ (fun u h => h.2) Try.underlying104 rfl (info_sec x hx16)) ?_
            go_wp2_with fail
            refine nextS ⟨hgb.drew, hxb.drew⟩ ?_
            go_wp2_with fail
            refine next_hold (.map (some f1.b2)) rfl (hold_cell 105 _ rfl ⟨f.g, 3, none⟩ rfl _ _ (fun u h => h.1.cell 3) rfl Try.underlying105) ?_
            go_wp2_with (at_mapUpdate; refine wpList_mapUpdate_in _ rfl _ _ _ 105 rfl 3 104 lawI Try.underlying105 secR f1.b2 4096 _ rfl hmb.drew (by decide) _ _ _ rfl rfl (key_int (at_ + j) (by omega)) _ _ (secR_mk hx16) ?_; intro w2 hm2 ht2; refine Classical.byContradiction fun hstop => ?_)
            refine absurd ?_ hstop
            clear hstop
            have ho2 := Mp.turned ht2
            have hx2 := hxb.drew.only ho2 (hxb.ne_map hmb)
            have hg2 := hgb.drew.only ho2 (hgb.ne_map hmb)
            have hm2f : Mp w2 f1.b2 (Dof (t.l ++ [(at_ + (j : Int), x)])) := by rw [Dof_snoc t.l (at_ + (j : Int), x)]; exact Mp.fit hm2 hfit
            have ho12 : Only wr w2 (fun i => i = f1.b2 ∨ ownB f1.A f1.c = some i) := ((Only.refl wr _).alloc (.cells (bv x).toArray 104)).drew.trans ho2 (fun i _ hi => .inl hi)
            have hown2 : Own w2 B 135 17 f1.A q f1.c (wcells (t.l.drop t.k)) := by
              have h5 := (HSTO.out.own.alloc (.cells (bv x).toArray 104)).drew.only ho2 (HSTO.out.own.ne_map HSTO.out.seen)
              rw [← hq] at h5
              exact h5
            have hbd := fun u => build_w (at_ + j) x hx16 u
            have hbs := fold_w (at_ + j) x hx16
            have hl17 := wcells_len1 (at_ + j) x hx16
            have hsrcC : Src Try.prog ((w2.alloc (.cells (Wrt.cells (at_ + j, x)).toArray 135)).drew) 106 (.slice (some ⟨w2.heap.size, 0, none⟩) 1 1) 17 1 (Wrt.cells (at_ + j, x)) := Src.slice Try.underlying106 (.inr ⟨_, 0, rfl, fun i u hu => by rw [Nat.zero_add]; exact (World.cell?_alloc_at (w := w2) _ _ _ _ rfl).trans (by simpa using hu)⟩) (by rw [hl17]) (fun u hu => wcells_one [(at_ + (j : Int), x)] u (by simpa [wcells] using hu))
            have hownC := (hown2.alloc (.cells (Wrt.cells (at_ + j, x)).toArray 135)).drew
            have hBC : B ≤ ((w2.alloc (.cells (Wrt.cells (at_ + j, x)).toArray 135)).drew).heap.size := by have h6 := HSTO.out.size; have h7 := ho12.size; simp; omega
            have hg4a := (hg2.alloc (.cells (Wrt.cells (at_ + j, x)).toArray 135)).drew
            have hx4a := (hx2.alloc (.cells (Wrt.cells (at_ + j, x)).toArray 135)).drew
            have hAg : ∀ i, ownB f1.A f1.c = some i → i ≠ f.g := hfg ▸ HSTO.out.own.blk_ne HSTO.out.blk (by decide)
            have hAx : ∀ i, ownB f1.A f1.c = some i → i ≠ gx := hownC.blk_ne hx4a (by decide)
            have hX4 : ∀ w4, ((w2.alloc (.cells (Wrt.cells (at_ + j, x)).toArray 135)).drew).grownBy w4 (ownB f1.A f1.c) → Blk w4 gx 104 (bv x).toArray := fun w4 hg => hx4a.grown hg (fun e => hAx _ e rfl)
            have hZ4 : ∀ w4, ((w2.alloc (.cells (Wrt.cells (at_ + j, x)).toArray 135)).drew).grownBy w4 (ownB f1.A f1.c) → (w4.cell? ⟨f.g, 4, none⟩ = some (.slice f1.A q f1.c) ∧ w4.frozen? ⟨f.g, 4, none⟩ = false) := fun w4 hg => ⟨(hg4a.grown hg (fun e => hAg _ e rfl)).cell 4, (hg4a.grown hg (fun e => hAg _ e rfl)).frozen 4⟩
            have hfin : ∀ (A4 : Option Addr) (c4 : Nat) (w4 : World), Own w4 B 135 17 A4 (q + 1) c4 (wcells (t.l.drop t.k) ++ Wrt.cells (at_ + j, x)) → ((w2.alloc (.cells (Wrt.cells (at_ + j, x)).toArray 135)).drew).grownBy w4 (ownB f1.A f1.c) → (ownB A4 c4 = ownB f1.A f1.c ∨ ownB A4 c4 = some ((w2.alloc (.cells (Wrt.cells (at_ + j, x)).toArray 135)).drew).heap.size) →
                ∃ (j1 : Nat) (f2 : Fp), j1 ≤ k ∧ (Value.int .i64 ((j : Int) + 1)) = .int .i64 j1 ∧ f2.g = f.g ∧ Sto (w4.setCell ⟨f.g, 4, none⟩ (.slice A4 (q + 1) c4)) B f2 ⟨s.n, s.room, s.l ++ chs at_ b j1, s.k⟩ ∧ Turned w1 (w4.setCell ⟨f.g, 4, none⟩ (.slice A4 (q + 1) c4)) f f2 := fun A4 c4 w4 hown4 hg4 hb4 => by
              have ho4 : Only wr w4 (fun i => i = f1.b2 ∨ ownB f1.A f1.c = some i) := (ho12.alloc (.cells (Wrt.cells (at_ + j, x)).toArray 135)).drew.grown hg4 (fun i hi => .inl (.inr hi))
              have hm4 : Mp w4 f1.b2 _ := (hm2f.alloc (.cells (Wrt.cells (at_ + j, x)).toArray 135)).drew.only (F := fun i => ownB f1.A f1.c = some i) ⟨hg4.os, hg4.tape, hg4.output, hg4.size, fun i hi hn => hg4.block i hi (fun e => hn e.symm)⟩ (fun e => HSTO.out.own.ne_map HSTO.out.seen _ e rfl)
              rw [hq] at hown4 ⊢
              have h8 := HSTO.out.push hx16 (a := at_ + (j : Int)) ⟨by omega, by have := HN.out; omega⟩ ho4 hm4 hown4 (hb4.imp id (fun e => ⟨_, by have := ho12.size; simp; omega, e⟩))
              rw [hfg] at h8
              exact ⟨j + 1, ⟨f.g, f1.b1, f1.b2, A4, c4⟩, by omega, rfl, rfl, by rw [HPL.out]; exact h8.1, HTUR.out.trans h8.2⟩
            have HX4 := Lib.hid hX4
            have HZ4 := Lib.hid hZ4
            have HFIN := Lib.hid hfin
            clear hq
            obtain ⟨⟨d0, d1, d2, d3, d4⟩, y0f, y1f, y2f, y3f, y4f⟩ : (w2.cell? ⟨f.g, 0, none⟩ = some (.int .i64 t.n) ∧ w2.cell? ⟨f.g, 1, none⟩ = some (.int .i64 t.room) ∧ w2.cell? ⟨f.g, 2, none⟩ = some (.map (some f1.b1)) ∧ w2.cell? ⟨f.g, 3, none⟩ = some (.map (some f1.b2)) ∧ w2.cell? ⟨f.g, 4, none⟩ = some (.slice f1.A q f1.c)) ∧ (w2.frozen? ⟨f.g, 0, none⟩ = false ∧ w2.frozen? ⟨f.g, 1, none⟩ = false ∧ w2.frozen? ⟨f.g, 2, none⟩ = false ∧ w2.frozen? ⟨f.g, 3, none⟩ = false ∧ w2.frozen? ⟨f.g, 4, none⟩ = false) := ⟨⟨hg2.cell 0, hg2.cell 1, hg2.cell 2, hg2.cell 3, hg2.cell 4⟩, hg2.frozen 0, hg2.frozen 1, hg2.frozen 2, hg2.frozen 3, hg2.frozen 4⟩
            have hfgl := hg2.lt
            refine nextS ⟨hg2, hx2⟩ ?_
            refine ends_normal ?_
            clear hX4 hZ4 hfin hg2 hgb hmb hm2 ht2 hm2f ho12 hown2 hxb c0 c1 c2 c3 c4 z0 z1 z2 z3 z4 HAT hld hst hAg hAx hg4a
            go_wp2_with fail
            refine wp_region_seqS (fun u => Blk u gx 104 (bv x).toArray) (.take 0 .copy (.take 1 .copy (.take 5 .copy (.take 6 .copy (.take 7 .int2 (.hold 8 (.hold 9 (.fork 2 (.take 3 .addr (.fork 4 (.alone 10 (.alone 11 (.alone 12 (.take 13 .addr (.alone 14 .fin))))) 10 (.alone 4 (.alone 11 (.alone 12 (.take 13 .addr (.alone 14 .fin))))))) 10 (.alone 2 (.take 3 .addr (.alone 4 (.alone 11 (.alone 12 (.take 13 .addr (.alone 14 .fin))))))))))))))) (by kernel_rfl) (by kernel_rfl) (by kernel_rfl) ?_ ?_
            · exact hx2.drew
            simp only [preS, nxtS, List.getElem?_toArray, List.getElem?_cons_zero, List.getElem?_cons_succ, opAt, ghosts, List.nil_append, gInt, ghost, List.cons_append]
            go_wp2_with fail
            refine next_hold (.agg (bv x).toArray) rfl (hold_row 104 _ rfl gx rfl 104 _ _ (fun u h => h) Try.underlying104 rfl (info_sec x hx16)) ?_
            go_wp2_with fail
            refine next_hold (.agg (Wrt.cells (at_ + j, x)).toArray) rfl (fun u _ => hold_bd 0 1 _ _ rfl (.int .i64 (at_ + j)) (.agg (bv x).toArray) rfl rfl _ (hbd u)) ?_
            go_wp2_with fail
            refine next_fork ?_ ?_
            · go_wp2_with fail
              refine nextS hx2.drew ?_
              go_wp2_with fail
              refine next_fork ?_ ?_
              · go_wp2_with fail
                refine nextS hx2.drew ?_
                go_wp2_with fail
                refine nextS hx4a ?_
                go_wp2_with (at_builtin; refine wpList_app _ rfl _ _ 106 106 rfl B 135 i1 _ 17 24 Try.underlying106 hi1 hy0 hy1 hy2 rfl f1.A q f1.c _ rfl hownC _ 1 _ rfl hsrcC (by simp only [maxLen]; omega) (by omega) hBC ?_; intro A4 c4' w4 hown4 hg4 hb4; have hx4 := HX4.out _ hg4; have hz4 := HZ4.out _ hg4; refine Classical.byContradiction fun hstop => ?_)
                refine absurd ?_ hstop
                clear hstop
                refine nextS hx4 ?_
                obtain ⟨z4c, z4f⟩ := hz4
                go_wp2_with fail
                refine nextS hx4 ?_
                go_wp2_with fail
                refine nextS (hx4.far (HNE.out) _) ?_
                refine ends_normal ?_
                go_wp2_with fail
                go_roundw
                case rel => exact HFIN.out _ _ _ hown4 hg4 hb4
                case measure => simp [intOf]; omega
              · go_wp2_with fail
                refine nextS hx4a ?_
                go_wp2_with fail
                refine nextS hx4a ?_
                go_wp2_with (at_builtin; refine wpList_app _ rfl _ _ 106 106 rfl B 135 i1 _ 17 24 Try.underlying106 hi1 hy0 hy1 hy2 rfl f1.A q f1.c _ rfl hownC _ 1 _ rfl hsrcC (by simp only [maxLen]; omega) (by omega) hBC ?_; intro A4 c4' w4 hown4 hg4 hb4; have hx4 := HX4.out _ hg4; have hz4 := HZ4.out _ hg4; refine Classical.byContradiction fun hstop => ?_)
                refine absurd ?_ hstop
                clear hstop
                refine nextS hx4 ?_
                obtain ⟨z4c, z4f⟩ := hz4
                go_wp2_with fail
                refine nextS hx4 ?_
                go_wp2_with fail
                refine nextS (hx4.far (HNE.out) _) ?_
                refine ends_normal ?_
                go_wp2_with fail
                go_roundw
                case rel => exact HFIN.out _ _ _ hown4 hg4 hb4
                case measure => simp [intOf]; omega
            · go_wp2_with fail
              refine nextS hx4a ?_
              go_wp2_with fail
              refine nextS hx4a ?_
              go_wp2_with fail
              refine nextS hx4a ?_
              go_wp2_with (at_builtin; refine wpList_app _ rfl _ _ 106 106 rfl B 135 i1 _ 17 24 Try.underlying106 hi1 hy0 hy1 hy2 rfl f1.A q f1.c _ rfl hownC _ 1 _ rfl hsrcC (by simp only [maxLen]; omega) (by omega) hBC ?_; intro A4 c4' w4 hown4 hg4 hb4; have hx4 := HX4.out _ hg4; have hz4 := HZ4.out _ hg4; refine Classical.byContradiction fun hstop => ?_)
              refine absurd ?_ hstop
              clear hstop
              refine nextS hx4 ?_
              obtain ⟨z4c, z4f⟩ := hz4
              go_wp2_with fail
              refine nextS hx4 ?_
              go_wp2_with fail
              refine nextS (hx4.far (HNE.out) _) ?_
              refine ends_normal ?_
              go_wp2_with fail
              go_roundw
              case rel => exact HFIN.out _ _ _ hown4 hg4 hb4
              case measure => simp [intOf]; omega
          · obtain rfl : j = k := by omega
            go_wp2_with fail
            go_ret
            rw [HE2.out]
            exact ⟨f1, rfl, hsto, htur⟩
end Go.Proofs.Ytbljacafmkdlmaa
