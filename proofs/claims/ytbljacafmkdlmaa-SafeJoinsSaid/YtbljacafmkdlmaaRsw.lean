/- pentimentoref03.DoWrite. Conditions: the lengths fit memory. -/
import Derived.Test.YtbljacafmkdlmaaMgK
namespace Go.Proofs.Ytbljacafmkdlmaa
set_option maxRecDepth 100000
open Go.RowKit
set_option linter.unusedSimpArgs false

theorem info_rw : (Try.prog.info? 139).map (fun i => (i.zero, i.size, i.bytes)) = some (some (.agg #[.int .i64 0, .string ByteArray.empty]), 2, 24) := by kernel_rfl

/-- The row of writes that a call gives: the one that came in, or one of its own. -/
def RNew (w w' : World) (A : Option Addr) (l : List Wrt) (A' : Option Addr) (l' : List Wrt) : Prop := Row w' A' (rcells l') ∧ ((A' = A ∧ l' = l) ∨ (rcells l' ≠ [] → ∀ a, A' = some a → w.heap.size ≤ a.block))
theorem RNew.same {w w' : World} {A : Option Addr} {l : List Wrt} (hr : Row w A (rcells l)) (hb : Below w.heap.size w w') : RNew w w' A l A l := ⟨hr.below hb, .inl ⟨rfl, rfl⟩⟩
theorem RNew.own {w w' : World} {A A' : Option Addr} {l l' : List Wrt} {B n c : Nat} (h : Own w' B 139 2 A' n c (rcells l')) (hB : w.heap.size ≤ B) : RNew w w' A l A' l' :=
  ⟨h.row, .inr fun hx a ha => by
    obtain ⟨h1, h2, _, h3 | ⟨g, cur, lo, hi, h4, h5, _⟩⟩ := h
    · exfalso
      apply hx
      apply List.eq_nil_of_length_eq_zero
      rw [h1]
      have : n = 0 := by omega
      rw [this]
    · rw [ha] at h4
      injection h4 with h4
      rw [h4]
      exact Nat.le_trans hB h5⟩
/-- It stays apart from a store. -/
theorem RNew.away {w w' : World} {A A' : Option Addr} {l l' : List Wrt} {f : Fp} {B : Nat} {s : St} (h : RNew w w' A l A' l') (ha : Away w A (rcells l) (Foot f)) (hs : Sto w B f s) : Away w' A' (rcells l') (Foot f) := by
  obtain ⟨h1, ⟨rfl, rfl⟩ | h2⟩ := h
  · exact ⟨h1, ha.2⟩
  · exact ⟨h1, fun hx a he hf => by
      have := h2 hx a he
      have := (hs.foot _ hf).2
      omega⟩

set_option maxHeartbeats 2000000 in
theorem rWrite_any (n : Nat) (room : Int) (A : Option Addr) (m c k : Nat) (l : List Wrt) (at_ : Int) (D : Option Addr) (q cb : Nat) (b : List UInt8) (w : World) (hn : n ≤ 4096) (hm : l.length = m) (hr : Row w A (rcells l)) (hsz : m + 4096 ≤ 5000000000000)
    (hq : b.length = q) (hqc : q ≤ cb) (hqm : q ≤ 9000000000000000000) (hrb : Row w D (bv b)) :
    Calls Try.prog 49 #[.agg #[.int .i64 n, .int .i64 room, .slice A m c, .int .i64 k], .int .i64 at_, .slice D q cb] w
      fun e w' => ∃ A' m' c', e = .returned (.tuple #[.agg #[.int .i64 n, .int .i64 room, .slice A' m' c', .int .i64 k], .int .i64 (doW ⟨n, room, l, k⟩ at_ b).2]) ∧ (doW ⟨n, room, l, k⟩ at_ b).1.l.length = m' ∧ RNew w w' A l A' (doW ⟨n, room, l, k⟩ at_ b).1.l ∧ Below w.heap.size w w' := by
  obtain ⟨i1, hi1, hy0, hy1, hy2⟩ := info_parts info_rw
  have hb2 : Below w.heap.size w ((w.alloc (.cells #[.int .i64 n, .int .i64 room, .slice A m c, .int .i64 k] 27)).alloc (.cells #[.int .i64 0, .int .i64 0, .slice none 0 0, .int .i64 0] 27)) := ((Below.refl _ _).alloc (Nat.le_refl _) _).alloc (by simp) _
  have hG3 := (Blk.new w 27 #[.int .i64 n, .int .i64 room, .slice A m c, .int .i64 k]).alloc (.cells #[.int .i64 0, .int .i64 0, .slice none 0 0, .int .i64 0] 27)
  have hG6 := Blk.new (w.alloc (.cells #[.int .i64 n, .int .i64 room, .slice A m c, .int .i64 k] 27)) 27 #[.int .i64 0, .int .i64 0, .slice none 0 0, .int .i64 0]
  rw [World.size_alloc] at hG6
  have hGr := Blk.new (w.alloc (.cells #[.int .i64 n, .int .i64 room, .slice A m c, .int .i64 k] 27)) 27 #[.int .i64 n, .int .i64 room, .slice A m c, .int .i64 k]
  rw [World.size_alloc] at hGr
  have hb2r : Below w.heap.size w ((w.alloc (.cells #[.int .i64 n, .int .i64 room, .slice A m c, .int .i64 k] 27)).alloc (.cells #[.int .i64 n, .int .i64 room, .slice A m c, .int .i64 k] 27)) := ((Below.refl _ _).alloc (Nat.le_refl _) _).alloc (by simp) _
  have HR := Lib.hid (fun w' (hb : Below w.heap.size w w') => RNew.same hr hb)
  by_cases h1 : q = 0
  · have ed : doW ⟨n, room, l, k⟩ at_ b = (⟨n, room, l, k⟩, 1) := by unfold doW; rw [if_pos (.inl (by omega))]
    have ED := Lib.hid ed
    have HM := Lib.hid hm
    subst h1
    clear ed hm hr hrb hq hG3 hG6
    go_enter Try.func49, Try.ntmps49
    go_wp2_with fail
    refine bodyPost_ret (sresults_row_tmp rfl _ _ _ 27 _ (0, 0) _ rfl hGr Try.underlying27 rfl (rst_info _ _ _ _)) rfl ?_
    rw [ED.out]
    exact ⟨A, m, c, rfl, HM.out, HR.out _ hb2r, hb2r⟩
  by_cases h2 : q % 16 = 0
  rotate_left
  · have ed : doW ⟨n, room, l, k⟩ at_ b = (⟨n, room, l, k⟩, 1) := by unfold doW; rw [if_pos (.inr (by omega))]
    have h3 : ((q : Int) % 16 != 0) = true := by simp; omega
    have ED := Lib.hid ed
    have HM := Lib.hid hm
    clear ed hm hr hrb hq hG3 hG6 h2
    go_enter Try.func49, Try.ntmps49
    go_wp2_with fail
    refine bodyPost_ret (sresults_row_tmp rfl _ _ _ 27 _ (0, 0) _ rfl hGr Try.underlying27 rfl (rst_info _ _ _ _)) rfl ?_
    rw [ED.out]
    exact ⟨A, m, c, rfl, HM.out, HR.out _ hb2r, hb2r⟩
  obtain ⟨N, rfl⟩ : ∃ N, q = 16 * N := ⟨q / 16, by omega⟩
  have h3 : ((16 * N : Nat) : Int) / 16 = (N : Int) := by omega
  have h4 : (((16 * N : Nat) : Int) % 16 != 0) = false := by simp
  have h5 : (((16 * N : Nat) : Int) == 0) = false := by simp; omega
  have hb1 : ¬ (b.length = 0 ∨ b.length % 16 ≠ 0) := by omega
  have hb16 : b.length / 16 = N := by omega
  clear hGr hb2r
  cases hi : insideB n at_ (N : Int)
  · have ed : doW ⟨n, room, l, k⟩ at_ b = (⟨n, room, l, k⟩, 31) := by
      unfold doW
      rw [if_neg hb1, hb16, if_pos hi]
    have hin := fun u => rInside_any n room A m c k at_ N u (by omega) (by omega)
    simp only [hi] at hin
    have ED := Lib.hid ed
    have HM := Lib.hid hm
    clear ed hm hr hrb hq h2 hi hb1 hb16
    go_enter Try.func49, Try.ntmps49
    go_wp2_with fail
    refine (hin _).mono ?_
    rintro e w3 ⟨rfl, hb3⟩
    have hG33 := hG3.belowAll hb3
    have hG63 := hG6.belowAll hb3
    obtain ⟨⟨c0, c1, c2, c3⟩, _⟩ := hG33.four
    obtain ⟨⟨d0, d1, d2, d3⟩, f0, f1, f2, f3⟩ := hG63.four
    have hb03 := below_all hb2 hb3
    clear hin
    go_wp2_with fail
    refine bodyPost_ret (sresults_row_tmp rfl _ _ _ 27 _ (0, 0) _ rfl (show Blk _ _ _ #[.int .i64 n, .int .i64 room, .slice A m c, .int .i64 k] from (((hG63.set_ 0 _).set_ 1 _).set_ 2 _).set_ 3 _) Try.underlying27 rfl (rst_info _ _ _ _)) rfl ?_
    have hbF : Below w.heap.size w ((((w3.setCell ⟨w.heap.size + 1, 0, none⟩ (.int .i64 n)).setCell ⟨w.heap.size + 1, 1, none⟩ (.int .i64 room)).setCell ⟨w.heap.size + 1, 2, none⟩ (.slice A m c)).setCell ⟨w.heap.size + 1, 3, none⟩ (.int .i64 k)) :=
      (((hb03.setCell (p := ⟨w.heap.size + 1, 0, none⟩) (by simp) _).setCell (p := ⟨w.heap.size + 1, 1, none⟩) (by simp) _).setCell (p := ⟨w.heap.size + 1, 2, none⟩) (by simp) _).setCell (p := ⟨w.heap.size + 1, 3, none⟩) (by simp) _
    rw [ED.out]
    exact ⟨A, m, c, rfl, HM.out, HR.out _ hbF, hbF⟩
  have hof := insideB_of hi
  have hin := fun u => rInside_any n room A m c k at_ N u (by omega) (by omega)
  simp only [hi] at hin
  have hN4 : N ≤ 4096 := by omega
  obtain ⟨g0, o0, rfl, hg0, _⟩ := hrb.at_ (by rw [bv_length]; omega)
  have hrl := (hr.alloc (.cells #[.int .i64 n, .int .i64 room, .slice A m c, .int .i64 k] 27)).alloc (.cells #[.int .i64 0, .int .i64 0, .slice none 0 0, .int .i64 0] 27)
  have hrd := (hrb.alloc (.cells #[.int .i64 n, .int .i64 room, .slice A m c, .int .i64 k] 27)).alloc (.cells #[.int .i64 0, .int .i64 0, .slice none 0 0, .int .i64 0] 27)
  have hlc := rcells_length l
  rw [hm] at hlc
  have hUse0 := fun u hu => rUsed_any n room A m c k l u hn hm hu (by omega)
  have hUse1 := fun (A1 : Option Addr) (c1 : Nat) u hu => rUsed_any n room A1 (m + N) c1 k (l ++ chs at_ b N) u hn (by rw [List.length_append, chs_length, hm]) hu (by omega)
  have e30 : room < ((usedN (l ++ chs at_ b N) n : Nat) : Int) ∧ usedN l n < usedN (l ++ chs at_ b N) n → doW ⟨n, room, l, k⟩ at_ b = (⟨n, room, l, k⟩, 30) := fun hc => by
    unfold doW
    rw [if_neg hb1, hb16, if_neg (by rw [hi]; simp)]
    exact if_pos hc
  have e0 : ¬ (room < ((usedN (l ++ chs at_ b N) n : Nat) : Int) ∧ usedN l n < usedN (l ++ chs at_ b N) n) → doW ⟨n, room, l, k⟩ at_ b = (⟨n, room, l ++ chs at_ b N, k⟩, 0) := fun hc => by
    unfold doW
    rw [if_neg hb1, hb16, if_neg (by rw [hi]; simp)]
    exact if_neg hc
  obtain ⟨U, hU⟩ : ∃ U, U = usedN (l ++ chs at_ b N) n := ⟨_, rfl⟩
  obtain ⟨U0, hU0⟩ : ∃ U0, U0 = usedN l n := ⟨_, rfl⟩
  have hUle : U ≤ n := by rw [hU]; exact usedN_le _ _
  have hU0le : U0 ≤ n := by rw [hU0]; exact usedN_le _ _
  rw [← hU, ← hU0] at e30 e0
  simp only [← hU] at hUse1
  simp only [← hU0] at hUse0
  have HU1 := Lib.hid hUse1
  have HU0 := Lib.hid hUse0
  have E30 := Lib.hid e30
  have E0 := Lib.hid e0
  have HM := Lib.hid hm
  have HQ := Lib.hid hq
  have H0 := Lib.hid (show 1 ≤ N by omega)
  have hlen : (l ++ chs at_ b N).length = m + N := by rw [List.length_append, chs_length, hm]
  have HLEN := Lib.hid hlen
  clear hm hq hr hrb hi h2 hb1 hb16 hU hU0 e30 e0 hUse0 hUse1 hlen
  go_enter Try.func49, Try.ntmps49
  go_wp2_with fail
  refine (hin _).mono ?_
  rintro e w3 ⟨rfl, hb3⟩
  have hG33 := hG3.belowAll hb3
  have hG63 := hG6.belowAll hb3
  have hb03 := below_all hb2 hb3
  have hrl3 := hrl.below hb3
  have hrd3 := hrd.below hb3
  have hs3 := hb03.size
  obtain ⟨⟨c0, c1, c2, c3⟩, _⟩ := hG33.four
  have hl3 := hG33.lt
  have hl6 := hG63.lt
  have hsrc : Src Try.prog ((w3.alloc (.cells #[.int .i64 n, .int .i64 room, .slice A m c, .int .i64 k] 27)).alloc (.cells #[] 139)) 25 (.slice A m c) 2 m (rcells l) := Src.slice Try.underlying25 ((hrl3.alloc _).alloc _) hlc (rcells_one l)
  have hG94 := (Blk.new w3 27 #[.int .i64 n, .int .i64 room, .slice A m c, .int .i64 k]).alloc (.cells #[] 139)
  have hb34 := (Below.refl w3.heap.size w3).alloc (Nat.le_refl _) (.cells #[.int .i64 n, .int .i64 room, .slice A m c, .int .i64 k] 27)
  have hb34 := hb34.alloc hb34.size (.cells #[] 139)
  clear hin hb2 hG3 hG6 hrl hrd hb3
  go_wp2_with (at_builtin; refine wpList_app _ rfl _ _ 25 25 rfl (w3.heap.size + 1) 139 i1 _ 2 24 Try.underlying25 hi1 hy0 hy1 hy2 rfl _ 0 0 [] rfl (Own.nil _ _ _ _ _) _ m (rcells l) rfl hsrc (by simp only [maxLen]; omega) (by omega) (by simp) ?_; intro A5 c5 w5 hown5 hg5 hb5; rw [Nat.zero_add, List.nil_append] at hown5; rw [Nat.zero_add]; refine Classical.byContradiction fun hstop => ?_)
  refine absurd ?_ hstop
  clear hstop
  have hG95 := hG94.grown hg5 (by simp [ownB])
  have hb35 := hb34.grown hg5 (by have := hb34.size; omega) (fun i hi => by simp [ownB] at hi)
  clear hb5 hg5 hG94 hb34 hsrc c0 c1 c2 c3
  go_wp2_with fail
  go_loopw [10, 11] (fun v i wr => ∃ (j : Nat) (A' : Option Addr) (c' : Nat), j ≤ N ∧ i = .int .i64 j ∧ v = .slice A' (m + j) c' ∧ Own wr (w3.heap.size + 1) 139 2 A' (m + j) c' (rcells (l ++ chs at_ b j)) ∧ Blk wr w3.heap.size 27 #[.int .i64 n, .int .i64 room, .slice A m c, .int .i64 k] ∧ Below w3.heap.size w3 wr)
    (fun _ i _ => N - (intOf i).toNat)
  case atStart => exact ⟨0, A5, c5, Nat.zero_le _, rfl, rfl, by simpa [chs] using hown5, hG95, hb35⟩
  case round =>
    obtain ⟨j, A', c', hj, rfl, rfl, hown, hK9, hb3r⟩ := hrel
    have hl9 := hK9.lt
    by_cases hlt : j < N
    · have hx : bv ((b.drop (16 * j)).take 16) = ((bv b).drop (16 * j)).take 16 := by rw [bv_drop, bv_take]
      have hxl : ((b.drop (16 * j)).take 16).length = 16 := by rw [List.length_take, List.length_drop, HQ.out]; omega
      have hstep : l ++ chs at_ b (j + 1) = (l ++ chs at_ b j) ++ [(at_ + (j : Int), (b.drop (16 * j)).take 16)] := by rw [List.append_assoc]; rfl
      have hrd6 := hrd3.belowB hb3r (fun hx a ha => hrd3.lt hx a ha)
      have hrow : Row wr (some ⟨g0, o0 + 16 * j, none⟩) (bv ((b.drop (16 * j)).take 16)) := .inr ⟨g0, o0 + 16 * j, rfl, fun i u hu => by
        rw [hx, List.getElem?_take] at hu
        split at hu
        · rw [List.getElem?_drop] at hu
          rw [Nat.add_assoc]
          exact hrd6.cell_ hu
        · cases hu⟩
      obtain ⟨x, hxe⟩ : ∃ x, x = (b.drop (16 * j)).take 16 := ⟨_, rfl⟩
      rw [← hxe] at hxl hrow hstep
      have HSTEP := Lib.hid hstep
      have hcv := run_string (P := Try.prog) hxl 23 9 5 (c := cb - 16 * j) Try.underlying23 Try.underlying5 Try.underlying9 hrow
      have hsrcC : Src Try.prog (wr.alloc (.cells #[.int .i64 (at_ + j), .string (str x)] 139)) 25 (.slice (some ⟨wr.heap.size, 0, none⟩) 1 1) 2 1 [.int .i64 (at_ + j), .string (str x)] := Src.new Try.underlying25 rfl (by simp [Value.oneCell'])
      clear hx hxe hstep hrow hrd6
      go_wp2_with (at_builtin; refine wpList_app _ rfl _ _ 25 25 rfl (w3.heap.size + 1) 139 i1 _ 2 24 Try.underlying25 hi1 hy0 hy1 hy2 rfl A' (m + j) c' _ rfl (hown.alloc _) _ 1 _ rfl hsrcC (by simp only [maxLen]; omega) (by omega) (by simp; omega) ?_; intro A6 c6 w6 hown6 hg6 hb6)
      go_roundw
      case rel => exact ⟨j + 1, A6, c6, by omega, by go_num, rfl, by rw [HSTEP.out, rcells_snoc]; exact hown6, (hK9.alloc _).grown hg6 (fun e => hown.blk_ne hK9 (by decide) _ e rfl), (hb3r.alloc (by omega) _).grown hg6 (by simp; omega) (fun i hi => by have := (hown.lt i hi).1; omega)⟩
      case measure => simp [intOf]; omega
    · obtain rfl : j = N := by omega
      have hG36 := hG33.below hb3r hl3
      have hG66 := hG63.below hb3r hl6
      have hrl6 := hrl3.belowB hb3r (fun hx a ha => hrl3.lt hx a ha)
      have hb06 : Below w.heap.size w wr := hb03.trans (hb3r.mono hs3)
      have k9 := hK9.cell 2
      have f9 := hK9.frozen 2
      have hne3 : w.heap.size ≠ w3.heap.size := by omega
      have hne6 : w.heap.size + 1 ≠ w3.heap.size := by omega
      have hG37 := hG36.far (p := ⟨w3.heap.size, 2, none⟩) hne3 (.slice A' (m + j) c')
      have hG67 := hG66.far (p := ⟨w3.heap.size, 2, none⟩) hne6 (.slice A' (m + j) c')
      have hK97 := hK9.set_ 2 (.slice A' (m + j) c')
      have hown7 := hown.setCell (p := ⟨w3.heap.size, 2, none⟩) (hown.blk_ne hK9 (by decide)) (.slice A' (m + j) c')
      have hb37 := hb3r.setCell (p := ⟨w3.heap.size, 2, none⟩) (Nat.le_refl _) (.slice A' (m + j) c')
      have hrl7 := hrl3.belowB hb37 (fun hx a ha => hrl3.lt hx a ha)
      have hb07 : Below w.heap.size w (wr.setCell ⟨w3.heap.size, 2, none⟩ (.slice A' (m + j) c')) := hb03.trans (hb37.mono hs3)
      clear hG36 hG66 hrl6 hb06 hown hb3r
      go_wp2_with fail
      obtain ⟨w7, hw7⟩ : ∃ w7, w7 = wr.setCell ⟨w3.heap.size, 2, none⟩ (.slice A' (m + j) c') := ⟨_, rfl⟩
      rw [← hw7] at hG37 hG67 hK97 hown7 hrl7 hb07 ⊢
      obtain ⟨g9, hg9⟩ : ∃ g9, g9 = w3.heap.size := ⟨_, rfl⟩
      rw [← hg9] at hK97 ⊢
      have hK97 : Blk w7 g9 27 #[.int .i64 n, .int .i64 room, .slice A' (m + j) c', .int .i64 k] := hK97
      have hg9w : w.heap.size ≤ g9 := by omega
      have hOW : w.heap.size ≤ w3.heap.size + 1 := by omega
      clear hw7 hb37 k9 f9 hK9 hl9 hG33 hG63 hl3 hl6 hrl3 hrd3 hs3 hb35 hG95 hown5
      have HG9 := Lib.hid hg9
      clear hg9
      by_cases hroom : room < (U : Int)
      · skip
        refine wp_region_seqS ((fun u => Blk u w.heap.size 27 #[.int .i64 n, .int .i64 room, .slice A m c, .int .i64 k] ∧ Blk u g9 27 #[.int .i64 n, .int .i64 room, .slice A' (m + j) c', .int .i64 k])) (.hold 0 (.take 2 .addr (.hold 3 (.alone 1 (.take 4 .int2 (.take 5 .copy (.hold 6 (.hold 8 (.alone 7 (.alone 9 (.take 10 .int2 (.take 11 .copy .fin)))))))))))) (by kernel_rfl) (by kernel_rfl) (by kernel_rfl) ?_ ?_
        · exact ⟨hG37.drew, hK97.drew⟩
        simp only [preS, nxtS, List.getElem?_toArray, List.getElem?_cons_zero, List.getElem?_cons_succ, opAt, ghosts, List.nil_append, gInt, ghost, List.cons_append]
        go_wp2_with fail
        refine next_hold (.agg #[.int .i64 n, .int .i64 room, .slice A' (m + j) c', .int .i64 k]) rfl (hold_row 27 _ rfl g9 rfl 27 _ _ (fun u h => h.2) Try.underlying27 rfl (rst_info _ _ _ _)) ?_
        go_wp2_with fail
        refine next_hold (.int .i64 room) rfl (hold_cell 3 _ rfl ⟨w.heap.size, 1, none⟩ rfl _ _ (fun u h => h.1.cell 1) rfl Try.underlying3) ?_
        go_wp2_with fail
        refine (HU1.out A' c' _ hown7.row.drew).mono ?_
        rintro e w8 ⟨rfl, hb8⟩
        have hG38 := hG37.drew.belowAll hb8
        have hG68 := hG67.drew.belowAll hb8
        have hK98 := hK97.drew.belowAll hb8
        have hown8 := hown7.drew.below hb8
        have hrl8 := hrl7.drew.below hb8
        have hb08 := below_all hb07.drew hb8
        clear hG37 hG67 hK97 hown7 hrl7 hb07 hb8
        go_wp2_with fail
        refine nextS ⟨hG38, hK98⟩ ?_
        go_wp2_with fail
        refine next_hold (.agg #[.int .i64 n, .int .i64 room, .slice A' (m + j) c', .int .i64 k]) rfl (hold_row 27 _ rfl g9 rfl 27 _ _ (fun u h => h.2) Try.underlying27 rfl (rst_info _ _ _ _)) ?_
        go_wp2_with fail
        refine next_hold (.agg #[.int .i64 n, .int .i64 room, .slice A m c, .int .i64 k]) rfl (hold_row 27 _ rfl w.heap.size rfl 27 _ _ (fun u h => h.1) Try.underlying27 rfl (rst_info _ _ _ _)) ?_
        go_wp2_with fail
        refine (HU1.out A' c' _ hown8.row).mono ?_
        rintro e w9 ⟨rfl, hb9⟩
        have hG39 := hG38.belowAll hb9
        have hG69 := hG68.belowAll hb9
        have hK99 := hK98.belowAll hb9
        have hown9 := hown8.below hb9
        have hrl9 := hrl8.below hb9
        have hb09 := below_all hb08 hb9
        go_wp2_with fail
        refine nextS ⟨hG39, hK99⟩ ?_
        go_wp2_with fail
        refine (HU0.out _ hrl9).mono ?_
        rintro e w10 ⟨rfl, hb10⟩
        have hG310 := hG39.belowAll hb10
        have hG610 := hG69.belowAll hb10
        have hK910 := hK99.belowAll hb10
        have hown10 := hown9.below hb10
        have hb010 := below_all hb09 hb10
        go_wp2_with fail
        refine nextS ⟨hG310, hK910⟩ ?_
        go_wp2_with fail
        refine ends_normal ?_
        clear hG38 hG68 hK98 hown8 hrl8 hb08 hG39 hG69 hK99 hown9 hrl9 hb09 hb9 hb10
        obtain ⟨⟨d0, d1, d2, d3⟩, f0, f1, f2, f3⟩ := hG610.four
        obtain ⟨⟨a0, a1, a2, a3⟩, _⟩ := hG310.four
        obtain ⟨⟨b0, b1, b2, b3⟩, _⟩ := hK910.four
        by_cases hu : U0 < U
        · skip
          go_wp2_with fail
          refine bodyPost_ret (sresults_row_tmp rfl _ _ _ 27 _ (0, 0) _ rfl (show Blk _ _ _ #[.int .i64 n, .int .i64 room, .slice A m c, .int .i64 k] from ((((hG610).set_ 0 _).set_ 1 _).set_ 2 _).set_ 3 _) Try.underlying27 rfl (rst_info _ _ _ _)) rfl ?_
          have hbF : Below w.heap.size w ((((w10.setCell ⟨w.heap.size + 1, 0, none⟩ (.int .i64 n)).setCell ⟨w.heap.size + 1, 1, none⟩ (.int .i64 room)).setCell ⟨w.heap.size + 1, 2, none⟩ (.slice A m c)).setCell ⟨w.heap.size + 1, 3, none⟩ (.int .i64 k)) := ((((hb010.setCell (p := ⟨w.heap.size + 1, 0, none⟩) (by simp) _).setCell (p := ⟨w.heap.size + 1, 1, none⟩) (by simp) _).setCell (p := ⟨w.heap.size + 1, 2, none⟩) (by simp) _).setCell (p := ⟨w.heap.size + 1, 3, none⟩) (by simp) _)
          rw [E30.out ⟨hroom, hu⟩]
          exact ⟨A, m, c, rfl, HM.out, HR.out _ hbF, hbF⟩
        · have hcond : ¬ (room < (U : Int) ∧ U0 < U) := fun h => hu h.2
          go_wp2_with fail
          refine bodyPost_ret (sresults_row_tmp rfl _ _ _ 27 _ (0, 0) _ rfl (show Blk _ _ _ #[.int .i64 n, .int .i64 room, .slice A' (m + j) c', .int .i64 k] from ((((hG610).set_ 0 _).set_ 1 _).set_ 2 _).set_ 3 _) Try.underlying27 rfl (rst_info _ _ _ _)) rfl ?_
          have hbF : Below w.heap.size w ((((w10.setCell ⟨w.heap.size + 1, 0, none⟩ (.int .i64 n)).setCell ⟨w.heap.size + 1, 1, none⟩ (.int .i64 room)).setCell ⟨w.heap.size + 1, 2, none⟩ (.slice A' (m + j) c')).setCell ⟨w.heap.size + 1, 3, none⟩ (.int .i64 k)) := ((((hb010.setCell (p := ⟨w.heap.size + 1, 0, none⟩) (by simp) _).setCell (p := ⟨w.heap.size + 1, 1, none⟩) (by simp) _).setCell (p := ⟨w.heap.size + 1, 2, none⟩) (by simp) _).setCell (p := ⟨w.heap.size + 1, 3, none⟩) (by simp) _)
          rw [E0.out hcond]
          have hne := hown10.blk_ne hG610 (by decide)
          exact ⟨A', m + j, c', rfl, HLEN.out, RNew.own ((((hown10.setCell hne _).setCell hne _).setCell hne _).setCell hne _) hOW, hbF⟩
      · have hcond : ¬ (room < (U : Int) ∧ U0 < U) := fun h => hroom h.1
        have hdec : decide (room < (U : Int)) = false := decide_eq_false hroom
        refine wp_region_seqS ((fun u => Blk u w.heap.size 27 #[.int .i64 n, .int .i64 room, .slice A m c, .int .i64 k] ∧ Blk u g9 27 #[.int .i64 n, .int .i64 room, .slice A' (m + j) c', .int .i64 k])) (.hold 0 (.take 2 .addr (.hold 3 (.alone 1 (.take 4 .int2 (.take 5 .copy (.hold 6 (.hold 8 (.alone 7 (.alone 9 (.take 10 .int2 (.take 11 .copy .fin)))))))))))) (by kernel_rfl) (by kernel_rfl) (by kernel_rfl) ?_ ?_
        · exact ⟨hG37.drew, hK97.drew⟩
        simp only [preS, nxtS, List.getElem?_toArray, List.getElem?_cons_zero, List.getElem?_cons_succ, opAt, ghosts, List.nil_append, gInt, ghost, List.cons_append]
        go_wp2_with fail
        refine next_hold (.agg #[.int .i64 n, .int .i64 room, .slice A' (m + j) c', .int .i64 k]) rfl (hold_row 27 _ rfl g9 rfl 27 _ _ (fun u h => h.2) Try.underlying27 rfl (rst_info _ _ _ _)) ?_
        go_wp2_with fail
        refine next_hold (.int .i64 room) rfl (hold_cell 3 _ rfl ⟨w.heap.size, 1, none⟩ rfl _ _ (fun u h => h.1.cell 1) rfl Try.underlying3) ?_
        go_wp2_with fail
        refine (HU1.out A' c' _ hown7.row.drew).mono ?_
        rintro e w8 ⟨rfl, hb8⟩
        have hG38 := hG37.drew.belowAll hb8
        have hG68 := hG67.drew.belowAll hb8
        have hK98 := hK97.drew.belowAll hb8
        have hown8 := hown7.drew.below hb8
        have hrl8 := hrl7.drew.below hb8
        have hb08 := below_all hb07.drew hb8
        clear hG37 hG67 hK97 hown7 hrl7 hb07 hb8
        go_wp2_with fail
        refine nextS ⟨hG38, hK98⟩ ?_
        go_wp2_with fail
        refine next_pass rfl ?_
        go_wp2_with fail
        refine next_pass rfl ?_
        go_wp2_with fail
        refine nextS ⟨hG38, hK98⟩ ?_
        go_wp2_with fail
        refine nextS ⟨hG38, hK98⟩ ?_
        go_wp2_with fail
        refine ends_normal ?_
        obtain ⟨⟨d0, d1, d2, d3⟩, f0, f1, f2, f3⟩ := hG68.four
        obtain ⟨⟨b0, b1, b2, b3⟩, _⟩ := hK98.four
        go_wp2_with fail
        refine bodyPost_ret (sresults_row_tmp rfl _ _ _ 27 _ (0, 0) _ rfl (show Blk _ _ _ #[.int .i64 n, .int .i64 room, .slice A' (m + j) c', .int .i64 k] from ((((hG68).set_ 0 _).set_ 1 _).set_ 2 _).set_ 3 _) Try.underlying27 rfl (rst_info _ _ _ _)) rfl ?_
        have hbF : Below w.heap.size w ((((w8.setCell ⟨w.heap.size + 1, 0, none⟩ (.int .i64 n)).setCell ⟨w.heap.size + 1, 1, none⟩ (.int .i64 room)).setCell ⟨w.heap.size + 1, 2, none⟩ (.slice A' (m + j) c')).setCell ⟨w.heap.size + 1, 3, none⟩ (.int .i64 k)) := ((((hb08.setCell (p := ⟨w.heap.size + 1, 0, none⟩) (by simp) _).setCell (p := ⟨w.heap.size + 1, 1, none⟩) (by simp) _).setCell (p := ⟨w.heap.size + 1, 2, none⟩) (by simp) _).setCell (p := ⟨w.heap.size + 1, 3, none⟩) (by simp) _)
        rw [E0.out hcond]
        have hne := hown8.blk_ne hG68 (by decide)
        exact ⟨A', m + j, c', rfl, HLEN.out, RNew.own ((((hown8.setCell hne _).setCell hne _).setCell hne _).setCell hne _) hOW, hbF⟩
end Go.Proofs.Ytbljacafmkdlmaa
