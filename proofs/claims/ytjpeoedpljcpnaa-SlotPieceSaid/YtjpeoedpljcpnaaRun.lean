/- slot.Runs: what it answers. Conditions: the slots' numbers are int64's; the length fits memory. -/
import Derived.Test.YtjpeoedpljcpnaaSlE
import Derived.Test.YtjpeoedpljcpnaaRunP
import Derived.Test.YtjpeoedpljcpnaaSeqS
namespace Go.Proofs.Ytjpeoedpljcpnaa
open Go.RowKit

def Ex.cells (p : Ex) : List Value := [.int .i64 p.f, .int .i64 p.n, .int .i64 p.k]
def ecells (ps : List Ex) : List Value := ps.flatMap Ex.cells
theorem ecells_snoc (ps : List Ex) (p : Ex) : ecells (ps ++ [p]) = ecells ps ++ p.cells := by simp [ecells]
theorem ecells_length (ps : List Ex) : (ecells ps).length = ps.length * 3 := by
  unfold ecells
  induction ps with
  | nil => rfl
  | cons p ps ih =>
    rw [List.flatMap_cons, List.length_append, ih, List.length_cons]
    show 3 + _ = _
    omega
theorem ecells_at {ps : List Ex} {i j : Nat} (hi : i < ps.length) (hj : j < 3) : (ecells ps)[i * 3 + j]? = (ps[i].cells)[j]? := by
  unfold ecells
  induction ps generalizing i with
  | nil => simp at hi
  | cons p ps ih =>
    rw [List.flatMap_cons]
    have h4 : p.cells.length = 3 := rfl
    cases i with
    | zero => rw [List.getElem?_append_left (by omega)]; simp
    | succ i =>
      rw [List.getElem?_append_right (by omega), h4, show (i + 1) * 3 + j - 3 = i * 3 + j by omega, ih (by simpa using hi)]
      rfl
theorem Row.ex {w : World} {A : Option Addr} {ps : List Ex} (h : Row w A (ecells ps)) {i : Nat} (hi : i < ps.length) : ∃ g o, A = some ⟨g, o, none⟩ ∧ g < w.heap.size ∧
    w.cell? ⟨g, o + i * 3, none⟩ = some (.int .i64 ps[i].f) ∧ w.cell? ⟨g, o + i * 3 + 1, none⟩ = some (.int .i64 ps[i].n) ∧ w.cell? ⟨g, o + i * 3 + 2, none⟩ = some (.int .i64 ps[i].k) := by
  obtain ⟨g, o, hA, hg, hc⟩ := h.at_ (by rw [ecells_length]; omega)
  have at_ : ∀ j, j < 3 → ∀ v, ps[i].cells[j]? = some v → w.cell? ⟨g, o + i * 3 + j, none⟩ = some v := fun j hj v hv => by
    rw [Nat.add_assoc]
    exact hc _ _ ((ecells_at hi hj).trans hv)
  exact ⟨g, o, hA, hg, at_ 0 (by omega) _ rfl, at_ 1 (by omega) _ rfl, at_ 2 (by omega) _ rfl⟩
/-- A cell of a row of the call's own. -/
theorem Own.atC {w : World} {B : Nat} {e : TypeId} {size : Nat} {A : Option Addr} {n c : Nat} {xs : List Value} (h : Own w B e size A n c xs) {j : Nat} (hj : j < n * size) {v : Value} (hv : xs[j]? = some v) :
    ∃ g, A = some ⟨g, 0, none⟩ ∧ B ≤ g ∧ g < w.heap.size ∧ ownB A c = some g ∧ w.cell? ⟨g, j, none⟩ = some v ∧ w.frozen? ⟨g, j, none⟩ = false ∧ ∀ u, Own (w.setCell ⟨g, j, none⟩ u) B e size A n c (xs.set j u) := by
  obtain ⟨hl, hn, hm, h | ⟨g, cur, lo, hi', rfl, hb, hg, hf, hs, ht⟩⟩ := h
  · have : n = 0 := by omega
    subst this
    simp at hj
  · have hns : n * size ≤ c * size := Nat.mul_le_mul_right _ hn
    have hi2 : j < cur.size := by omega
    have hc0 : 0 < c := by
      rcases Nat.eq_zero_or_pos c with h0 | h0
      · subst h0; simp at hs; omega
      · exact h0
    have hcur : cur[j]? = some v := by
      rw [← ht, List.getElem?_take, if_pos hj] at hv
      simpa using hv
    refine ⟨g, rfl, hb, (Array.getElem?_eq_some_iff.1 hg).1, ownB_some hc0 g 0, by rw [cell_of_row w g _ cur e (lo, hi') hg]; exact hcur, ?_, fun u => ?_⟩
    · simp only [World.frozen?, hg]
      rw [Bool.and_eq_false_iff, decide_eq_false_iff_not, decide_eq_false_iff_not]
      omega
    · refine ⟨by simpa using hl, hn, hm, .inr ⟨g, cur.setIfInBounds j u, lo, hi', rfl, hb, ?_, by simpa using hf, by simpa using hs, ?_⟩⟩
      · rw [setCell_eq_setRow w g j cur e (lo, hi') u hg]
        exact setRow_heap w g cur _ e _ hg
      · rw [← ht]
        simp only [Array.toList_setIfInBounds]
        apply List.ext_getElem?
        intro i
        simp only [List.getElem?_take, List.getElem?_set, List.length_take, Array.length_toList]
        by_cases hij : j = i
        · subst hij
          rw [if_pos (by omega), if_pos rfl, if_pos rfl, if_pos (by omega), if_pos (by omega)]
        · rw [if_neg hij, if_neg hij]

/-- A load whose value is the same wherever the blocks that were there are as they were. -/
theorem hold_keep {P : Program} {o : Oper} {a : Act} (ty : TypeId) (x : Operand) (ho : o.op = .load ty x) (w0 : World) (v : Value) (h : (Instr.loadAt ty (a.eval x)).run P w0 = .ok v w0) : ∀ u, Keep w0 u → (execOp a.eval o).run P u = .ok (.value v) u := by
  intro u hu
  have h2 := (OKS.loadAt (P := P) ty (a.eval x) w0 v w0 h).2 u (fun _ => hu)
  unfold execOp
  simp [ho, h2]
theorem Keep.setNew {w u : World} (h : Keep w u) {p : Addr} (hp : w.heap.size ≤ p.block) (v : Value) : Keep w (u.setCell p v) := fun k hk => (Below.heap_setCell u p v k (by omega)).trans (h k hk)

set_option maxHeartbeats 4000000 in
theorem goes_any (bl : Nat) (A : Option Addr) (n c k : Nat) (l : List Sl) (w : World) (hn : l.length = n) (hbl : w.cell? ⟨bl, 0, none⟩ = some (.slice A n c)) (hr : Row w A (scells l)) (hk0 : 0 < k) (hkn : k < n) (hsz : n ≤ 1000000)
    (hi : ∀ s ∈ l, -9223372036854775808 ≤ s.h ∧ s.h ≤ 9223372036854775807) :
    Calls Try.prog 32 #[.int .i64 k, .pointer (some ⟨bl, 0, none⟩)] w fun e w' => e = .returned (.bool (goesF (l.getD (k - 1) ⟨0, 0, false⟩) (l.getD k ⟨0, 0, false⟩))) ∧ Below w.heap.size w w' := by
  have hkl : k < l.length := by omega
  have hkl2 : k - 1 < l.length := by omega
  have e1 : l.getD k ⟨0, 0, false⟩ = l[k] := by simp [List.getD, hkl]
  have e2 : l.getD (k - 1) ⟨0, 0, false⟩ = l[k - 1] := by simp [List.getD, hkl2]
  rw [e1, e2]
  clear e1 e2
  obtain ⟨g, o, rfl, hg, p1, p2, p3⟩ := hr.slot hkl
  obtain ⟨g2, o2, hA, hg2, q1, q2, q3⟩ := hr.slot hkl2
  injection hA with hA
  injection hA with hA1 hA2
  subst hA1 hA2
  have hb1 := hi _ (List.getElem_mem hkl)
  have hb2 := hi _ (List.getElem_mem hkl2)
  obtain ⟨s, hs⟩ : ∃ s, s = l[k] := ⟨_, rfl⟩
  obtain ⟨r, hrr⟩ : ∃ r, r = l[k - 1] := ⟨_, rfl⟩
  rw [← hs] at p1 p2 p3 hb1 ⊢
  rw [← hrr] at q1 q2 q3 hb2 ⊢
  obtain ⟨m, rfl⟩ : ∃ m, k = m + 1 := ⟨k - 1, by omega⟩
  rw [Nat.add_sub_cancel] at q1 q2 q3
  obtain ⟨sk, sh, so⟩ := s
  obtain ⟨rk, rh, ro⟩ := r
  simp only at p1 p2 p3 q1 q2 q3 hb1 hb2
  obtain ⟨b1, b2⟩ := hb1
  obtain ⟨b3, b4⟩ := hb2
  clear hs hrr hi hr hkl hkl2 hn
  go_enter Try.func32, Try.ntmps32
  go_wp2_with fail
  refine wp_region_seqS ((fun u => Keep w.drew u)) (.hold 0 (.take 1 .copy (.take 2 .int2 (.take 3 .addr (.hold 4 (.hold 5 (.take 6 .copy (.take 7 .addr (.hold 8 (.fork 9 (.alone 10 (.alone 11 (.alone 12 .fin))) 10 (.alone 9 (.alone 11 (.alone 12 .fin))))))))))))) (by kernel_rfl) (by kernel_rfl) (by kernel_rfl) ?_ ?_
  · exact Keep.refl _
  simp only [preS, nxtS, List.getElem?_toArray, List.getElem?_cons_zero, List.getElem?_cons_succ, opAt, ghosts, List.nil_append, gInt, ghost, List.cons_append]
  go_wp2_with fail
  refine next_hold (.slice (some ⟨g, o, none⟩) n c) rfl (hold_keep _ _ rfl w.drew _ (by go_simp)) ?_
  go_wp2_with fail
  refine next_hold (.agg #[.int .i64 rk, .int .i64 rh, .bool ro]) rfl (hold_keep _ _ rfl w.drew _ (by go_simp)) ?_
  go_wp2_with fail
  refine next_hold (.slice (some ⟨g, o, none⟩) n c) rfl (hold_keep _ _ rfl w.drew _ (by go_simp)) ?_
  go_wp2_with fail
  refine next_hold (.agg #[.int .i64 sk, .int .i64 sh, .bool so]) rfl (hold_keep _ _ rfl w.drew _ (by go_simp)) ?_
  go_wp2_with fail
  have kd := Keep.refl w.drew
  have hsd : w.heap.size ≤ w.drew.heap.size := Nat.le_refl _
  refine next_fork ?_ ?_
  all_goals
    go_wp2_with fail
    refine nextS (kd.trans (Keep.alloc _ _)) ?_
    go_wp2_with fail
    refine nextS ((kd.trans (Keep.alloc _ _)).trans (Keep.alloc _ _)) ?_
    go_wp2_with fail
    refine nextS (((Keep.refl w).trans (Keep.alloc _ _)).trans (Keep.alloc _ _)) ?_
    go_wp2_with fail
    refine nextS (((Keep.refl w).trans (Keep.alloc _ _)).trans (Keep.alloc _ _)) ?_
    go_wp2_with fail
    refine ends_normal ?_
    go_wp2_with fail
  all_goals
    go_ret
    refine ⟨ret_bool ?_, (((Below.refl _ _).alloc (Nat.le_refl _) _).alloc (by simp) _).drew⟩
    first
      | (simp_all [goesF]; done)
      | (simp_all [goesF]; omega)
      | (rw [Bool.eq_iff_iff]; simp_all [goesF]; done)
      | (rw [Bool.eq_iff_iff]; simp_all [goesF]; omega)

theorem info_ex : (Try.prog.info? 55).map (fun i => (i.zero, i.size, i.bytes)) = some (some (.agg #[.int .i64 0, .int .i64 0, .int .i64 0]), 3, 24) := by kernel_rfl
theorem ecells_up (m : List Ex) (x : Ex) (v : Int) : (ecells (m ++ [x])).set (m.length * 3 + 1) (.int .i64 v) = ecells (m ++ [⟨x.f, v, x.k⟩]) := by
  rw [ecells_snoc, ecells_snoc, List.set_append, if_neg (by rw [ecells_length]; omega), ecells_length, show m.length * 3 + 1 - m.length * 3 = 1 by omega]
  rfl

set_option maxHeartbeats 4000000 in
theorem runs_any (A : Option Addr) (n c : Nat) (l : List Sl) (w : World) (hn : l.length = n) (hr : Row w A (scells l)) (hsz : n ≤ 1000000) (hi : ∀ s ∈ l, -9223372036854775808 ≤ s.h ∧ s.h ≤ 9223372036854775807) :
    Calls Try.prog 24 #[.slice A n c] w fun e w' => ∃ A' c', e = .returned (.slice A' (rT l n).length c') ∧ Own w' w.heap.size 55 3 A' (rT l n).length c' (ecells (rT l n)) ∧ Below w.heap.size w w' := by
  obtain ⟨i0, hi0, hz0, hz1, hz2⟩ := info_parts info_ex
  have HN := Lib.hid hn
  have HI := Lib.hid hi
  clear hn hi
  have hbx := Blk.new w 41 #[.slice A n c]
  have hbb := (Below.refl w.heap.size w).alloc (Nat.le_refl _) (.cells #[.slice A n c] 41)
  go_enter Try.func24, Try.ntmps24
  go_wp2_with fail
  go_loopw [3, 10] (fun v i wr => ∃ (k : Nat) (A' : Option Addr) (c' : Nat), k ≤ n ∧ i = .int .i64 k ∧ v = .slice A' (rT l k).length c' ∧ Blk wr w.heap.size 41 #[.slice A n c] ∧ Own wr w.heap.size 55 3 A' (rT l k).length c' (ecells (rT l k)) ∧ Below w.heap.size w wr) (fun _ i _ => n - (intOf i).toNat)
  case atStart => exact ⟨0, none, 0, Nat.zero_le _, rfl, rfl, hbx, Own.nil _ _ _ _ _, hbb⟩
  case round =>
    obtain ⟨k, A', c', hk, rfl, rfl, hB, hown, hb⟩ := hrel
    have hbc : wr.cell? ⟨w.heap.size, 0, none⟩ = some (.slice A n c) := hB.cell 0
    by_cases hlt : k < n
    · have hkl : k < l.length := by rw [HN.out]; exact hlt
      obtain ⟨g2, o2, hA, hg2, p1, p2, p3⟩ := (hr.below hb).slot hkl
      have hstep := rT_succ l k
      have e1 : l.getD k ⟨0, 0, false⟩ = l[k] := by simp [List.getD, hkl]
      have hrl := rT_len l k
      have hsm := rT_small l k
      rw [e1] at hstep
      obtain ⟨s, hs⟩ : ∃ s, s = l[k] := ⟨_, rfl⟩
      rw [← hs] at p1 p2 p3 hstep e1
      clear hs
      have hne := hown.blk_ne hB (by decide)
      have hBs := hB.alloc (.cells #[.int .i64 s.k, .int .i64 s.h, .bool s.o] 29)
      have hown1 := hown.alloc (.cells #[.int .i64 s.k, .int .i64 s.h, .bool s.o] 29)
      have hb1 := hb.alloc hb.size (.cells #[.int .i64 s.k, .int .i64 s.h, .bool s.o] 29)
      have hBn := Blk.new wr 29 #[.int .i64 s.k, .int .i64 s.h, .bool s.o]
      obtain ⟨w1, hw1⟩ : ∃ w1, w1 = wr.alloc (.cells #[.int .i64 s.k, .int .i64 s.h, .bool s.o] 29) := ⟨_, rfl⟩
      have hs1 : w1.heap.size = wr.heap.size + 1 := by rw [hw1, World.size_alloc]
      have HW1 := Lib.hid hw1
      rw [← hw1] at hBs hown1 hb1 hBn
      clear hw1
      subst hA
      by_cases hk0 : 0 < k
      · have hG := goes_any w.heap.size _ n c k l w1 HN.out (hBs.cell 0) (hr.below hb1) hk0 hlt hsz HI.out
        rw [e1] at hG
        cases hgo : goesF (l.getD (k - 1) ⟨0, 0, false⟩) s
        · rw [hgo] at hG hstep
          rw [if_neg (fun h => by cases h.2)] at hstep
          have HG := Lib.hid hG
          have HST := Lib.hid hstep
          clear hG hstep hgo
          go_wp2_with fail
          rw [← HW1.out]
          refine HG.out.mono ?_
          rintro e w2 ⟨rfl, hb2⟩
          obtain ⟨⟨f1, f2, f3⟩, _, f4⟩ := (hBn.belowAll hb2).three
          have hown2 := hown1.below hb2
          have hb02 := below_all hb1 hb2
          have hB2 := hBs.belowAll hb2
          go_wp2_with (at_builtin; refine wpList_app _ rfl _ _ 52 52 rfl w.heap.size 55 i0 _ 3 24 Try.underlying52 hi0 hz0 hz1 hz2 rfl A' (rT l k).length c' _ rfl (hown2.alloc _) _ 1 _ rfl (Src.new Try.underlying52 rfl (by simp [Value.oneCell'])) (by simp only [maxLen]; omega) (by omega) (Nat.le_trans hb02.size (by simp)) ?_; intro A5 c5 w5 hown5 hg5 hb5)
          go_roundw
          case rel =>
            have hl : (rT l k).length + 1 = (rT l (k + 1)).length := by rw [HST.out, List.length_append]; rfl
            refine ⟨k + 1, A5, c5, by omega, by go_num, by rw [← hl], (hB2.alloc _).grown hg5 (fun e => hne _ e rfl), ?_, (hb02.alloc hb02.size _).grown hg5 (Nat.le_trans hb02.size (by simp)) (fun i hi => (hown2.lt i hi).1)⟩
            rw [← hl, HST.out, ecells_snoc]
            exact hown5
          case measure => simp [intOf]; omega
        · rw [hgo] at hG hstep
          rw [if_pos ⟨hk0, rfl⟩] at hstep
          obtain ⟨m, x, hm⟩ := rT_some l k hk0
          rw [hm, lastUp_snoc] at hstep
          rw [hm] at hown1 hrl hsm
          have hxn := hsm x (by simp)
          have hml : (m ++ [x]).length = m.length + 1 := by simp
          rw [hml] at hown1 hrl
          obtain ⟨q, hq⟩ : ∃ q, q = m.length := ⟨_, rfl⟩
          rw [← hq] at hown1 hrl
          have HG := Lib.hid hG
          have HST := Lib.hid hstep
          have HQ := Lib.hid hq
          have HMX := Lib.hid hm
          have hlk : (rT l k).length = q + 1 := by rw [hm, hml, ← hq]
          rw [hlk]
          have HLK := Lib.hid hlk
          clear hG hstep hgo hsm hml hq hm hlk
          go_wp2_with fail
          rw [← HW1.out]
          refine HG.out.mono ?_
          rintro e w2 ⟨rfl, hb2⟩
          have hown2 := hown1.below hb2
          have hb02 := below_all hb1 hb2
          have hB2 := hBs.belowAll hb2
          have hcell : (ecells (m ++ [x]))[q * 3 + 1]? = some (.int .i64 x.n) := by
            rw [HQ.out, ecells_at (i := m.length) (j := 1) (by simp) (by omega)]
            simp [Ex.cells]
          obtain ⟨gx, rfl, hgB, hgs, hob, hc1, hf1, hset⟩ := hown2.atC (j := q * 3 + 1) (by omega) hcell
          have hown3 := hset (.int .i64 (x.n + 1))
          have hup := ecells_up m x (x.n + 1)
          rw [← HQ.out] at hup
          rw [hup] at hown3
          have hgne : gx ≠ w.heap.size := hne gx hob
          obtain ⟨hxn1, hxn2⟩ := hxn
          clear hcell hset hup hob
          go_wp2_with fail
          go_roundw
          case rel =>
            have hl : q + 1 = (rT l (k + 1)).length := by rw [HST.out, List.length_append, HQ.out]; rfl
            refine ⟨k + 1, _, c', by omega, by go_num, by rw [← hl], hB2.far (p := ⟨gx, q * 3 + 1, none⟩) (fun e => hgne e.symm) _, ?_, hb02.setCell hgB _⟩
            rw [← hl, HST.out]
            exact hown3
          case measure => simp [intOf]; omega
      · obtain rfl : k = 0 := by omega
        rw [if_neg (fun h => by omega)] at hstep
        have HST := Lib.hid hstep
        clear hstep e1 hsm hrl
        have hrt0 : rT l 0 = [] := rfl
        rw [hrt0] at hown hown1 ⊢
        obtain ⟨⟨f1, f2, f3⟩, _, f4⟩ := hBn.three
        rw [HW1.out] at f1 f2 f3
        have hownx := hown1
        rw [HW1.out] at hownx
        rw [HW1.out] at hBs hb1
        simp only [Nat.zero_mul, Nat.add_zero] at p1 p2 p3
        have hsrc0 : Src Try.prog ((wr.alloc (.cells #[.int .i64 s.k, .int .i64 s.h, .bool s.o] 29)).alloc (.cells #[.int .i64 0, .int .i64 1, .int .i64 s.k] 55)) 52 (.slice (some ⟨wr.heap.size + 1, 0, none⟩) 1 1) 3 1 (Ex.cells ⟨0, 1, s.k⟩) := by
          have h := Src.new (P := Try.prog) (w := wr.alloc (.cells #[.int .i64 s.k, .int .i64 s.h, .bool s.o] 29)) (tx := 52) (e := 55) (cs := #[.int .i64 0, .int .i64 1, .int .i64 s.k]) (size := 3) (m := 1) (c := 1) Try.underlying52 rfl (by simp [Value.oneCell'])
          rw [World.size_alloc] at h
          exact h
        go_wp2_with (at_builtin; refine wpList_app _ rfl _ _ 52 52 rfl w.heap.size 55 i0 _ 3 24 Try.underlying52 hi0 hz0 hz1 hz2 rfl A' 0 c' _ rfl (hownx.alloc _) _ 1 _ rfl hsrc0 (by simp only [maxLen]; omega) (by omega) (Nat.le_trans hb1.size (by simp)) ?_; intro A5 c5 w5 hown5 hg5 hb5)
        go_roundw
        case rel =>
          have hl : 0 + 1 = (rT l (0 + 1)).length := by rw [HST.out]; rfl
          refine ⟨0 + 1, A5, c5, by omega, by go_num, by rw [← hl], (hBs.alloc _).grown hg5 (fun e => hne _ e rfl), ?_, (hb1.alloc hb1.size _).grown hg5 (Nat.le_trans hb1.size (by simp)) (fun i hi => (hownx.lt i hi).1)⟩
          rw [← hl, HST.out]
          exact hown5
        case measure => simp [intOf]; omega
    · obtain rfl : k = n := by omega
      go_wp2_with fail
      go_ret
      exact ⟨_, _, rfl, hown, hb⟩
end Go.Proofs.Ytjpeoedpljcpnaa
