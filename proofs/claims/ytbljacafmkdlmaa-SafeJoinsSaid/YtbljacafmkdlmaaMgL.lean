/- Several texts in one: Rsc, Rsz. -/
import Derived.Test.YtbljacafmkdlmaaRsw
/- pentimentoref03.Crash, Resize. Conditions: the lengths fit memory. -/
namespace Go.Proofs.Ytbljacafmkdlmaa
set_option maxRecDepth 100000
open Go.RowKit
set_option linter.unusedSimpArgs false

def crA (l : List Wrt) (k : Nat) (keep : List Int) (i : Nat) : List Wrt := (l.take k).take i ++ kp keep (l.drop k) (i - k)
theorem crA_zero (l : List Wrt) (k : Nat) (keep : List Int) : crA l k keep 0 = [] := by unfold crA; simp [kp]
theorem crA_all (s : St) (keep : List Int) (h : s.k ≤ s.l.length) : crA s.l s.k keep s.l.length = crashL s keep := by
  unfold crA crashL
  rw [List.take_of_length_le (by rw [List.length_take]; omega)]
theorem crA_low (l : List Wrt) (k : Nat) (keep : List Int) (i : Nat) (hi : i < l.length) (hk : i < k) : crA l k keep (i + 1) = crA l k keep i ++ [l[i]] := by
  unfold crA
  rw [show i + 1 - k = 0 by omega, show i - k = 0 by omega]
  show _ ++ [] = (_ ++ []) ++ _
  rw [List.append_nil, List.append_nil, List.take_take, List.take_take, Nat.min_eq_left (by omega), Nat.min_eq_left (by omega), List.take_succ_eq_append_getElem hi]
theorem crA_high (l : List Wrt) (k : Nat) (keep : List Int) (i : Nat) (hi : i < l.length) (hk : k ≤ i) : crA l k keep (i + 1) = crA l k keep i ++ if keep.contains ((i : Int) - k) then [l[i]] else [] := by
  unfold crA
  have hl : i - k < (l.drop k).length := by rw [List.length_drop]; omega
  have e1 : (l.take k).take (i + 1) = l.take k := List.take_of_length_le (by rw [List.length_take]; omega)
  have e2 : (l.take k).take i = l.take k := List.take_of_length_le (by rw [List.length_take]; omega)
  rw [show i + 1 - k = (i - k) + 1 by omega, kp_step keep (l.drop k) hl, e1, e2, List.append_assoc, show ((i - k : Nat) : Int) = (i : Int) - k by omega, List.getElem_drop]
  simp only [show k + (i - k) = i by omega]
theorem crA_len (l : List Wrt) (k : Nat) (keep : List Int) (i : Nat) (hi : i ≤ l.length) : (crA l k keep i).length ≤ i := by
  unfold crA
  rw [List.length_append, List.length_take, List.length_take]
  have := kp_length keep (l.drop k) (i - k)
  omega

set_option maxHeartbeats 4000000 in
theorem rCrash_any (n room : Int) (A : Option Addr) (m c k : Nat) (l : List Wrt) (K : Option Addr) (q cb : Nat) (keep : List Int) (w : World) (hm : l.length = m) (hr : Row w A (rcells l)) (hsz : m ≤ 5000000000000) (hk : k ≤ m)
    (hq : keep.length = q) (hqm : q ≤ 9000000000000000000) (hrb : Row w K (iv keep)) (hkb : ∀ x ∈ keep, -9223372036854775808 ≤ x ∧ x ≤ 9223372036854775807) :
    Calls Try.prog 50 #[.agg #[.int .i64 n, .int .i64 room, .slice A m c, .int .i64 k], .slice K q cb] w
      fun e w' => ∃ A' m' c', e = .returned (.agg #[.int .i64 n, .int .i64 room, .slice A' m' c', .int .i64 m']) ∧ (crashL ⟨n, room, l, k⟩ keep).length = m' ∧ RNew w w' A l A' (crashL ⟨n, room, l, k⟩ keep) ∧ Below w.heap.size w w' := by
  obtain ⟨i1, hi1, hy0, hy1, hy2⟩ := info_parts info_rw
  have hb2 : Below w.heap.size w ((w.alloc (.cells #[.int .i64 n, .int .i64 room, .slice A m c, .int .i64 k] 27)).alloc (.cells #[.int .i64 0, .int .i64 0, .slice none 0 0, .int .i64 0] 27)) := ((Below.refl _ _).alloc (Nat.le_refl _) _).alloc (by simp) _
  have hG3 := (Blk.new w 27 #[.int .i64 n, .int .i64 room, .slice A m c, .int .i64 k]).alloc (.cells #[.int .i64 0, .int .i64 0, .slice none 0 0, .int .i64 0] 27)
  have hG6 := Blk.new (w.alloc (.cells #[.int .i64 n, .int .i64 room, .slice A m c, .int .i64 k] 27)) 27 #[.int .i64 0, .int .i64 0, .slice none 0 0, .int .i64 0]
  rw [World.size_alloc] at hG6
  have hrl := (hr.alloc (.cells #[.int .i64 n, .int .i64 room, .slice A m c, .int .i64 k] 27)).alloc (.cells #[.int .i64 0, .int .i64 0, .slice none 0 0, .int .i64 0] 27)
  have hrk := (hrb.alloc (.cells #[.int .i64 n, .int .i64 room, .slice A m c, .int .i64 k] 27)).alloc (.cells #[.int .i64 0, .int .i64 0, .slice none 0 0, .int .i64 0] 27)
  have hall : crA l k keep m = crashL ⟨n, room, l, k⟩ keep := by rw [← hm]; exact crA_all ⟨n, room, l, k⟩ keep (by simp only; omega)
  have HALL := Lib.hid hall
  have HM := Lib.hid hm
  have HQ := Lib.hid hq
  have HKB := Lib.hid hkb
  have hrA := Lib.hid (fun hx a ha => hr.lt (xs := rcells l) hx a ha)
  have hrK := Lib.hid (fun hx a ha => hrb.lt (xs := iv keep) hx a ha)
  obtain ⟨w2, hw2⟩ : ∃ w2, w2 = (w.alloc (.cells #[.int .i64 n, .int .i64 room, .slice A m c, .int .i64 k] 27)).alloc (.cells #[.int .i64 0, .int .i64 0, .slice none 0 0, .int .i64 0] 27) := ⟨_, rfl⟩
  have hw2s : w2.heap.size = w.heap.size + 2 := by rw [hw2]; simp
  rw [← hw2] at hb2 hG3 hG6 hrl hrk
  have HW2 := Lib.hid hw2
  clear hw2 hm hr hq hrb hall hkb
  go_enter Try.func50, Try.ntmps50
  go_wp2_with fail
  rw [← HW2.out]
  go_loopw [5, 6] (fun v i wr => ∃ (j : Nat) (A' : Option Addr) (c' : Nat), j ≤ m ∧ i = .int .i64 j ∧ v = .slice A' (crA l k keep j).length c' ∧ Own wr (w.heap.size + 2) 139 2 A' (crA l k keep j).length c' (rcells (crA l k keep j)) ∧ Below (w.heap.size + 2) w2 wr)
    (fun _ i _ => m - (intOf i).toNat)
  case atStart => exact ⟨0, none, 0, Nat.zero_le _, rfl, by rw [crA_zero]; rfl, by rw [crA_zero]; exact Own.nil _ _ _ _ _, Below.refl _ _⟩
  case round =>
    obtain ⟨j, A', c', hj, rfl, rfl, hown, hbr⟩ := hrel
    have hG3r := hG3.below hbr (by omega)
    have hrlr := hrl.belowB hbr (fun hx a ha => by have := hrA.out hx a ha; omega)
    have hrkr := hrk.belowB hbr (fun hx a ha => by have := hrK.out hx a ha; omega)
    have hsr := hbr.size
    obtain ⟨⟨c0, c1, c2, c3⟩, _⟩ := hG3r.four
    have hlen := crA_len l k keep j (by rw [HM.out]; exact hj)
    by_cases hlt : j < m
    · have hjl : j < l.length := by rw [HM.out]; exact hlt
      have hlow := crA_low l k keep j hjl
      have hhigh := crA_high l k keep j hjl
      obtain ⟨gL, oL, rfl, hgL, hy0c, hy1c⟩ := hrlr.rcell hjl
      obtain ⟨⟨ya, yx⟩, hye⟩ : ∃ y, y = l[j] := ⟨_, rfl⟩
      rw [← hye] at hlow hhigh hy0c hy1c
      simp only at hy0c hy1c
      have hlen1 := crA_len l k keep (j + 1) (by omega)
      obtain ⟨X, hX⟩ : ∃ X, X = crA l k keep j := ⟨_, rfl⟩
      obtain ⟨p, hp⟩ : ∃ p, p = X.length := ⟨_, rfl⟩
      rw [← hX] at hlow hhigh hown hlen ⊢
      rw [← hp] at hown hlen ⊢
      have HX := Lib.hid hX
      have HP := Lib.hid hp
      have HLOW := Lib.hid hlow
      have HHIGH := Lib.hid hhigh
      have hfinY : ∀ (wz : World) (A6 : Option Addr) (c6 : Nat), crA l k keep (j + 1) = X ++ [(ya, yx)] → Own wz (w.heap.size + 2) 139 2 A6 (p + 1) c6 (rcells X ++ [.int .i64 ya, .string (str yx)]) → Below (w.heap.size + 2) w2 wz →
          ∃ (j1 : Nat) (A1 : Option Addr) (c1 : Nat), j1 ≤ m ∧ (Value.int .i64 ((j : Int) + 1)) = .int .i64 j1 ∧ (Value.slice A6 (p + 1) c6) = .slice A1 (crA l k keep j1).length c1 ∧ Own wz (w.heap.size + 2) 139 2 A1 (crA l k keep j1).length c1 (rcells (crA l k keep j1)) ∧ Below (w.heap.size + 2) w2 wz := fun wz A6 c6 he ho hb => by
        have hl1 : (crA l k keep (j + 1)).length = p + 1 := by rw [he, List.length_append, ← HP.out]; rfl
        refine ⟨j + 1, A6, c6, by omega, rfl, by rw [hl1], ?_, hb⟩
        rw [hl1, he, rcells_snoc]
        exact ho
      have hfinN : ∀ (wz : World), crA l k keep (j + 1) = X → Own wz (w.heap.size + 2) 139 2 A' p c' (rcells X) → Below (w.heap.size + 2) w2 wz →
          ∃ (j1 : Nat) (A1 : Option Addr) (c1 : Nat), j1 ≤ m ∧ (Value.int .i64 ((j : Int) + 1)) = .int .i64 j1 ∧ (Value.slice A' p c') = .slice A1 (crA l k keep j1).length c1 ∧ Own wz (w.heap.size + 2) 139 2 A1 (crA l k keep j1).length c1 (rcells (crA l k keep j1)) ∧ Below (w.heap.size + 2) w2 wz := fun wz he ho hb => by
        refine ⟨j + 1, A', c', by omega, rfl, by rw [he, ← HP.out], ?_, hb⟩
        rw [he, ← HP.out]
        exact ho
      have HFY := Lib.hid hfinY
      have HFN := Lib.hid hfinN
      clear hX hp hlow hhigh hfinY hfinN hye hlen1
      have hbwo : w.heap.size + 2 ≤ wr.heap.size := by omega
      obtain ⟨wo, rfl⟩ : ∃ wo : World, wo = wr := ⟨_, rfl⟩
      by_cases hik : j < k
      · have he := HLOW.out hik
        have HE := Lib.hid he
        clear he
        go_wp2_with fail
        go_loopw [7, 8] (fun v i wr => ∃ j2 : Nat, j2 ≤ q ∧ i = .int .i64 j2 ∧ v = .bool true ∧ Below wo.heap.size wo wr) (fun _ i _ => q - (intOf i).toNat)
        case atStart => exact ⟨0, Nat.zero_le _, rfl, by simp [hik], Below.refl _ _⟩
        case round =>
          obtain ⟨j2, hj2, rfl, rfl, hbz⟩ := hrel
          have hG3z := hG3r.belowAll hbz
          obtain ⟨⟨d0, d1, d2, d3⟩, _⟩ := hG3z.four
          by_cases hlt2 : j2 < q
          · have hkl : j2 < keep.length := by rw [HQ.out]; exact hlt2
            obtain ⟨gK, oK, rfl, hgK, hkc⟩ := (hrkr.below hbz).icell hkl
            obtain ⟨y2, hy2e⟩ : ∃ y2, y2 = keep[j2] := ⟨_, rfl⟩
            have hy2b := HKB.out keep[j2] (List.getElem_mem hkl)
            rw [← hy2e] at hkc hy2b
            clear hy2e
            by_cases heq : y2 = (j : Int) - k
            · subst heq
              go_wp2_with fail
              refine wp_region_seq true (.take 0 .copy (.take 1 .copy (.take 2 .addr (.take 3 .load (.take 4 .copy (.take 5 .addr (.take 6 .load (.take 7 .int2 (.take 8 .int2 (.take 9 .copy (.take 10 .copy (.take 11 .addr (.take 12 .load (.take 13 .int2 (.take 14 .copy .fin))))))))))))))) (by kernel_rfl) (by kernel_rfl) (by kernel_rfl) ?_
              simp only [pre, nxt, List.getElem?_toArray, List.getElem?_cons_zero, List.getElem?_cons_succ, ghosts, List.nil_append, gInt, ghost, List.cons_append]
              go_wp2_with fail
              refine ends_normal ?_
              go_wp2_with fail
              go_roundw
              case rel => exact ⟨j2 + 1, by omega, by go_num, rfl, hbz.drew⟩
              case measure => simp [intOf]; omega
            · skip
              go_wp2_with fail
              refine wp_region_seq true (.take 0 .copy (.take 1 .copy (.take 2 .addr (.take 3 .load (.take 4 .copy (.take 5 .addr (.take 6 .load (.take 7 .int2 (.take 8 .int2 (.take 9 .copy (.take 10 .copy (.take 11 .addr (.take 12 .load (.take 13 .int2 (.take 14 .copy .fin))))))))))))))) (by kernel_rfl) (by kernel_rfl) (by kernel_rfl) ?_
              simp only [pre, nxt, List.getElem?_toArray, List.getElem?_cons_zero, List.getElem?_cons_succ, ghosts, List.nil_append, gInt, ghost, List.cons_append]
              go_wp2_with fail
              refine ends_normal ?_
              go_wp2_with fail
              go_roundw
              case rel => exact ⟨j2 + 1, by omega, by go_num, rfl, hbz.drew⟩
              case measure => simp [intOf]; omega
          · obtain rfl : j2 = q := by omega
            have hz0 := below_cells hbz _ _ hy0c
            have hz1 := below_cells hbz _ _ hy1c
            have hownz := hown.below hbz
            have hbwz := hbr.trans (hbz.mono hbwo)
            have hsrcC : Src Try.prog (wr.alloc (.cells #[.int .i64 ya, .string (str yx)] 139)) 25 (.slice (some ⟨wr.heap.size, 0, none⟩) 1 1) 2 1 [.int .i64 ya, .string (str yx)] := Src.new Try.underlying25 rfl (by simp [Value.oneCell'])
            have hsz6 := hbz.size
            go_wp2_with (at_builtin; refine wpList_app _ rfl _ _ 25 25 rfl (w.heap.size + 2) 139 i1 _ 2 24 Try.underlying25 hi1 hy0 hy1 hy2 rfl A' p c' _ rfl (hownz.alloc _) _ 1 _ rfl hsrcC (by simp only [maxLen]; omega) (by omega) (by simp; omega) ?_; intro A6 c6 w6 hown6 hg6 hb6)
            go_roundw
            case rel => exact HFY.out _ _ _ HE.out hown6 ((hbwz.alloc (by omega) _).grown hg6 (by simp; omega) (fun i hi => (hownz.lt i hi).1))
            case measure => simp [intOf]; omega
      · skip
        go_wp2_with fail
        go_loopw [7, 8] (fun v i wr => ∃ j2 : Nat, j2 ≤ q ∧ i = .int .i64 j2 ∧ v = .bool (decide (((j : Int) - k) ∈ keep.take j2)) ∧ Below wo.heap.size wo wr) (fun _ i _ => q - (intOf i).toNat)
        case atStart => exact ⟨0, Nat.zero_le _, rfl, by simp [hik], Below.refl _ _⟩
        case round =>
          obtain ⟨j2, hj2, rfl, rfl, hbz⟩ := hrel
          have hG3z := hG3r.belowAll hbz
          obtain ⟨⟨d0, d1, d2, d3⟩, _⟩ := hG3z.four
          by_cases hlt2 : j2 < q
          · have hkl : j2 < keep.length := by rw [HQ.out]; exact hlt2
            obtain ⟨gK, oK, rfl, hgK, hkc⟩ := (hrkr.below hbz).icell hkl
            obtain ⟨y2, hy2e⟩ : ∃ y2, y2 = keep[j2] := ⟨_, rfl⟩
            have hy2b := HKB.out keep[j2] (List.getElem_mem hkl)
            have hmem := mem_take_succ keep ((j : Int) - k) j2 hkl
            rw [← hy2e] at hmem
            have HMEM := Lib.hid hmem
            rw [← hy2e] at hkc hy2b
            clear hy2e hmem
            by_cases heq : y2 = (j : Int) - k
            · subst heq
              have hin2 : decide (((j : Int) - k) ∈ keep.take (j2 + 1)) = true := decide_eq_true (HMEM.out.2 (.inr rfl))
              have HIN2 := Lib.hid hin2
              obtain ⟨kv, hkv⟩ : ∃ kv, kv = decide (((j : Int) - k) ∈ keep.take j2) := ⟨_, rfl⟩
              rw [← hkv]
              clear hin2 hkv
              go_wp2_with fail
              refine wp_region_seq true (.take 0 .copy (.take 1 .copy (.take 2 .addr (.take 3 .load (.take 4 .copy (.take 5 .addr (.take 6 .load (.take 7 .int2 (.take 8 .int2 (.take 9 .copy (.take 10 .copy (.take 11 .addr (.take 12 .load (.take 13 .int2 (.take 14 .copy .fin))))))))))))))) (by kernel_rfl) (by kernel_rfl) (by kernel_rfl) ?_
              simp only [pre, nxt, List.getElem?_toArray, List.getElem?_cons_zero, List.getElem?_cons_succ, ghosts, List.nil_append, gInt, ghost, List.cons_append]
              go_wp2_with fail
              refine ends_normal ?_
              go_wp2_with fail
              go_roundw
              case rel => exact ⟨j2 + 1, by omega, by go_num, by rw [HIN2.out], hbz.drew⟩
              case measure => simp [intOf]; omega
            · skip
              have hin2 : decide (((j : Int) - k) ∈ keep.take (j2 + 1)) = decide (((j : Int) - k) ∈ keep.take j2) := decide_eq_decide.2 (HMEM.out.trans ⟨fun h => h.elim id (fun e => absurd e.symm heq), .inl⟩)
              have HIN2 := Lib.hid hin2
              obtain ⟨kv, hkv⟩ : ∃ kv, kv = decide (((j : Int) - k) ∈ keep.take j2) := ⟨_, rfl⟩
              rw [← hkv]
              have HKV := Lib.hid hkv
              clear hin2 hkv
              go_wp2_with fail
              refine wp_region_seq true (.take 0 .copy (.take 1 .copy (.take 2 .addr (.take 3 .load (.take 4 .copy (.take 5 .addr (.take 6 .load (.take 7 .int2 (.take 8 .int2 (.take 9 .copy (.take 10 .copy (.take 11 .addr (.take 12 .load (.take 13 .int2 (.take 14 .copy .fin))))))))))))))) (by kernel_rfl) (by kernel_rfl) (by kernel_rfl) ?_
              simp only [pre, nxt, List.getElem?_toArray, List.getElem?_cons_zero, List.getElem?_cons_succ, ghosts, List.nil_append, gInt, ghost, List.cons_append]
              go_wp2_with fail
              refine ends_normal ?_
              go_wp2_with fail
              go_roundw
              case rel => exact ⟨j2 + 1, by omega, by go_num, by rw [HIN2.out, ← HKV.out], hbz.drew⟩
              case measure => simp [intOf]; omega
          · obtain rfl : j2 = q := by omega
            have hz0 := below_cells hbz _ _ hy0c
            have hz1 := below_cells hbz _ _ hy1c
            have hownz := hown.below hbz
            have hbwz := hbr.trans (hbz.mono hbwo)
            have hfull : keep.take j2 = keep := List.take_of_length_le (by rw [HQ.out]; exact Nat.le_refl _)
            rw [hfull]
            have hcase := HHIGH.out (by omega)
            by_cases hmm : ((j : Int) - k) ∈ keep
            · have hc1 : keep.contains ((j : Int) - k) = true := by rw [List.contains_iff_mem]; exact hmm
              rw [if_pos hc1] at hcase
              have HE := Lib.hid hcase
              have hdt : decide (((j : Int) - k) ∈ keep) = true := decide_eq_true hmm
              rw [hdt]
              clear hcase hc1 hmm hdt hfull
              have hsrcC : Src Try.prog (wr.alloc (.cells #[.int .i64 ya, .string (str yx)] 139)) 25 (.slice (some ⟨wr.heap.size, 0, none⟩) 1 1) 2 1 [.int .i64 ya, .string (str yx)] := Src.new Try.underlying25 rfl (by simp [Value.oneCell'])
              have hsz6 := hbz.size
              go_wp2_with (at_builtin; refine wpList_app _ rfl _ _ 25 25 rfl (w.heap.size + 2) 139 i1 _ 2 24 Try.underlying25 hi1 hy0 hy1 hy2 rfl A' p c' _ rfl (hownz.alloc _) _ 1 _ rfl hsrcC (by simp only [maxLen]; omega) (by omega) (by simp; omega) ?_; intro A6 c6 w6 hown6 hg6 hb6)
              go_roundw
              case rel => exact HFY.out _ _ _ HE.out hown6 ((hbwz.alloc (by omega) _).grown hg6 (by simp; omega) (fun i hi => (hownz.lt i hi).1))
              case measure => simp [intOf]; omega
            · have hc1 : ¬ keep.contains ((j : Int) - k) = true := by rw [List.contains_iff_mem]; exact hmm
              rw [if_neg hc1, List.append_nil] at hcase
              have HE := Lib.hid hcase
              have hdt : decide (((j : Int) - k) ∈ keep) = false := decide_eq_false hmm
              rw [hdt]
              clear hcase hc1 hmm hdt hfull
              go_wp2_with fail
              go_roundw
              case rel => exact HFN.out _ HE.out hownz hbwz
              case measure => simp [intOf]; omega
    · obtain rfl : j = m := by omega
      have hG6r := hG6.below hbr (by omega)
      obtain ⟨X, hX⟩ : ∃ X, X = crA l k keep j := ⟨_, rfl⟩
      obtain ⟨p, hp⟩ : ∃ p, p = X.length := ⟨_, rfl⟩
      rw [← hX] at hown hlen ⊢
      rw [← hp] at hown hlen ⊢
      have hXc : X = crashL ⟨n, room, l, k⟩ keep := by rw [hX]; exact HALL.out
      have HXC := Lib.hid hXc
      have HP := Lib.hid hp
      have f2 := hG3r.frozen 2
      have f3 := hG3r.frozen 3
      have hne : w.heap.size ≠ w.heap.size + 1 := by omega
      have hK3 := (hG3r.set_ 2 (.slice A' p c')).set_ 3 (.int .i64 p)
      have hK6 := (hG6r.far (p := ⟨w.heap.size, 2, none⟩) hne.symm (.slice A' p c')).far (p := ⟨w.heap.size, 3, none⟩) hne.symm (.int .i64 p)
      have hn3 := hown.blk_ne hG3r (by decide)
      have hn6 := hown.blk_ne hG6r (by decide)
      have hownF := (((((hown.setCell (p := ⟨w.heap.size, 2, none⟩) hn3 (.slice A' p c')).setCell (p := ⟨w.heap.size, 3, none⟩) hn3 (.int .i64 p)).setCell (p := ⟨w.heap.size + 1, 0, none⟩) hn6 (.int .i64 n)).setCell (p := ⟨w.heap.size + 1, 1, none⟩) hn6 (.int .i64 room)).setCell (p := ⟨w.heap.size + 1, 2, none⟩) hn6 (.slice A' p c')).setCell (p := ⟨w.heap.size + 1, 3, none⟩) hn6 (.int .i64 p)
      have hb0r : Below w.heap.size w wr := hb2.trans (hbr.mono (by omega))
      have hbF := (((((hb0r.setCell (p := ⟨w.heap.size, 2, none⟩) (Nat.le_refl _) (.slice A' p c')).setCell (p := ⟨w.heap.size, 3, none⟩) (Nat.le_refl _) (.int .i64 p)).setCell (p := ⟨w.heap.size + 1, 0, none⟩) (by simp) (.int .i64 n)).setCell (p := ⟨w.heap.size + 1, 1, none⟩) (by simp) (.int .i64 room)).setCell (p := ⟨w.heap.size + 1, 2, none⟩) (by simp) (.slice A' p c')).setCell (p := ⟨w.heap.size + 1, 3, none⟩) (by simp) (.int .i64 p)
      obtain ⟨⟨d0, d1, d2, d3⟩, e0, e1, e2, e3⟩ := hK6.four
      obtain ⟨⟨a0, a1, a2, a3⟩, _⟩ := (show Blk _ w.heap.size 27 #[.int .i64 n, .int .i64 room, .slice A' p c', .int .i64 p] from hK3).four
      have hlX : X.length = p := hp.symm
      clear hX hp hXc hn3 hn6 hG6r
      go_wp2_with fail
      refine bodyPost_ret (results_cell_row rfl _ _ _ 27 _ (0, 0) _ rfl (show Blk _ _ _ #[.int .i64 n, .int .i64 room, .slice A' p c', .int .i64 p] from ((((hK6).set_ 0 _).set_ 1 _).set_ 2 _).set_ 3 _) Try.underlying27 rfl (rst_info _ _ _ _)) rfl ?_
      rw [← HXC.out]
      exact ⟨A', p, c', rfl, hlX, RNew.own hownF (by omega), hbF⟩
end Go.Proofs.Ytbljacafmkdlmaa

/- pentimentoref03.Resize. Conditions: the lengths fit memory. -/
namespace Go.Proofs.Ytbljacafmkdlmaa
set_option maxRecDepth 100000
open Go.RowKit
set_option linter.unusedSimpArgs false

def rsA (l : List Wrt) (x : Int) (i : Nat) : List Wrt := (l.take i).filter fun w => decide (w.1 < x)
theorem rsA_all (l : List Wrt) (x : Int) : rsA l x l.length = l.filter fun w => decide (w.1 < x) := by unfold rsA; rw [List.take_of_length_le (Nat.le_refl _)]
theorem rsA_step (l : List Wrt) (x : Int) (i : Nat) (hi : i < l.length) : rsA l x (i + 1) = rsA l x i ++ if l[i].1 < x then [l[i]] else [] := by
  unfold rsA
  rw [List.take_succ_eq_append_getElem hi, List.filter_append]
  by_cases h : l[i].1 < x <;> simp [h]
theorem rsA_len (l : List Wrt) (x : Int) (i : Nat) : (rsA l x i).length ≤ i := by
  have h1 := List.length_filter_le (fun w : Wrt => decide (w.1 < x)) (l.take i)
  have h2 : (l.take i).length ≤ i := by rw [List.length_take]; omega
  exact Nat.le_trans h1 h2

/-- What a call gives: a store of these writes, and an error. -/
def RzPost (w : World) (A : Option Addr) (l : List Wrt) (room : Int) (s' : St) (err : Int) (e : Ending) (w' : World) : Prop :=
  ∃ A' m' c', e = .returned (.tuple #[.agg #[.int .i64 s'.n, .int .i64 room, .slice A' m' c', .int .i64 s'.k], .int .i64 err]) ∧ s'.l.length = m' ∧ RNew w w' A l A' s'.l ∧ Below w.heap.size w w'

set_option maxHeartbeats 4000000 in
theorem rResize_any (n room : Int) (A : Option Addr) (m c k : Nat) (l : List Wrt) (x : Int) (w : World) (hm : l.length = m) (hr : Row w A (rcells l)) (hsz : m ≤ 5000000000000) :
    Calls Try.prog 51 #[.agg #[.int .i64 n, .int .i64 room, .slice A m c, .int .i64 k], .int .i64 x] w
      (RzPost w A l room (doZ ⟨n, room, l, k⟩ x).1 (doZ ⟨n, room, l, k⟩ x).2) := by
  obtain ⟨i1, hi1, hy0, hy1, hy2⟩ := info_parts info_rw
  have hGr := Blk.new (w.alloc (.cells #[.int .i64 n, .int .i64 room, .slice A m c, .int .i64 k] 27)) 27 #[.int .i64 n, .int .i64 room, .slice A m c, .int .i64 k]
  rw [World.size_alloc] at hGr
  have hb2r : Below w.heap.size w ((w.alloc (.cells #[.int .i64 n, .int .i64 room, .slice A m c, .int .i64 k] 27)).alloc (.cells #[.int .i64 n, .int .i64 room, .slice A m c, .int .i64 k] 27)) := ((Below.refl _ _).alloc (Nat.le_refl _) _).alloc (by simp) _
  have HR := Lib.hid (fun w' (hb : Below w.heap.size w w') => RNew.same hr hb)
  have HM := Lib.hid hm
  by_cases hlo : x < 0
  · have ed : doZ ⟨n, room, l, k⟩ x = (⟨n, room, l, k⟩, 1) := by unfold doZ; rw [if_pos (.inl hlo)]
    have ED := Lib.hid ed
    clear ed hm hr
    go_enter Try.func51, Try.ntmps51
    go_wp2_with fail
    refine bodyPost_ret (sresults_row_tmp rfl _ _ _ 27 _ (0, 0) _ rfl hGr Try.underlying27 rfl (rst_info _ _ _ _)) rfl ?_
    rw [ED.out]
    exact ⟨A, m, c, rfl, HM.out, HR.out _ hb2r, hb2r⟩
  by_cases hhi : 4096 < x
  · have ed : doZ ⟨n, room, l, k⟩ x = (⟨n, room, l, k⟩, 1) := by unfold doZ; rw [if_pos (.inr hhi)]
    have ED := Lib.hid ed
    clear ed hm hr
    go_enter Try.func51, Try.ntmps51
    go_wp2_with fail
    refine bodyPost_ret (sresults_row_tmp rfl _ _ _ 27 _ (0, 0) _ rfl hGr Try.underlying27 rfl (rst_info _ _ _ _)) rfl ?_
    rw [ED.out]
    exact ⟨A, m, c, rfl, HM.out, HR.out _ hb2r, hb2r⟩
  have ed : doZ ⟨n, room, l, k⟩ x = (⟨x, room, rsA l x m, (rsA l x m).length⟩, 0) := by
    unfold doZ
    rw [if_neg (by omega), ← hm, rsA_all]
    rfl
  have ED := Lib.hid ed
  have hb2 : Below w.heap.size w ((w.alloc (.cells #[.int .i64 n, .int .i64 room, .slice A m c, .int .i64 k] 27)).alloc (.cells #[.int .i64 0, .int .i64 0, .slice none 0 0, .int .i64 0] 27)) := ((Below.refl _ _).alloc (Nat.le_refl _) _).alloc (by simp) _
  have hG3 := (Blk.new w 27 #[.int .i64 n, .int .i64 room, .slice A m c, .int .i64 k]).alloc (.cells #[.int .i64 0, .int .i64 0, .slice none 0 0, .int .i64 0] 27)
  have hG6 := Blk.new (w.alloc (.cells #[.int .i64 n, .int .i64 room, .slice A m c, .int .i64 k] 27)) 27 #[.int .i64 0, .int .i64 0, .slice none 0 0, .int .i64 0]
  rw [World.size_alloc] at hG6
  have hrl := (hr.alloc (.cells #[.int .i64 n, .int .i64 room, .slice A m c, .int .i64 k] 27)).alloc (.cells #[.int .i64 0, .int .i64 0, .slice none 0 0, .int .i64 0] 27)
  have hrA := Lib.hid (fun hx a ha => hr.lt (xs := rcells l) hx a ha)
  obtain ⟨w2, hw2⟩ : ∃ w2, w2 = (w.alloc (.cells #[.int .i64 n, .int .i64 room, .slice A m c, .int .i64 k] 27)).alloc (.cells #[.int .i64 0, .int .i64 0, .slice none 0 0, .int .i64 0] 27) := ⟨_, rfl⟩
  have hw2s : w2.heap.size = w.heap.size + 2 := by rw [hw2]; simp
  rw [← hw2] at hb2 hG3 hG6 hrl
  have HW2 := Lib.hid hw2
  clear hw2 hm hr ed hGr hb2r HR
  go_enter Try.func51, Try.ntmps51
  go_wp2_with fail
  rw [← HW2.out]
  go_loopw [6, 7] (fun v i wr => ∃ (j : Nat) (A' : Option Addr) (c' : Nat), j ≤ m ∧ i = .int .i64 j ∧ v = .slice A' (rsA l x j).length c' ∧ Own wr (w.heap.size + 2) 139 2 A' (rsA l x j).length c' (rcells (rsA l x j)) ∧ Below (w.heap.size + 2) w2 wr)
    (fun _ i _ => m - (intOf i).toNat)
  case atStart => exact ⟨0, none, 0, Nat.zero_le _, rfl, rfl, Own.nil _ _ _ _ _, Below.refl _ _⟩
  case round =>
    obtain ⟨j, A', c', hj, rfl, rfl, hown, hbr⟩ := hrel
    have hG3r := hG3.below hbr (by omega)
    have hrlr := hrl.belowB hbr (fun hx a ha => by have := hrA.out hx a ha; omega)
    have hsr := hbr.size
    obtain ⟨⟨c0, c1, c2, c3⟩, _⟩ := hG3r.four
    have hlen := rsA_len l x j
    by_cases hlt : j < m
    · have hjl : j < l.length := by rw [HM.out]; exact hlt
      have hstep := rsA_step l x j hjl
      obtain ⟨gL, oL, rfl, hgL, hy0c, hy1c⟩ := hrlr.rcell hjl
      obtain ⟨⟨ya, yx⟩, hye⟩ : ∃ y, y = l[j] := ⟨_, rfl⟩
      rw [← hye] at hstep hy0c hy1c
      simp only at hy0c hy1c hstep
      obtain ⟨X, hX⟩ : ∃ X, X = rsA l x j := ⟨_, rfl⟩
      obtain ⟨p, hp⟩ : ∃ p, p = X.length := ⟨_, rfl⟩
      rw [← hX] at hstep hown hlen ⊢
      rw [← hp] at hown hlen ⊢
      have HP := Lib.hid hp
      have hsrcC : Src Try.prog (wr.alloc (.cells #[.int .i64 ya, .string (str yx)] 139)) 25 (.slice (some ⟨wr.heap.size, 0, none⟩) 1 1) 2 1 [.int .i64 ya, .string (str yx)] := Src.new Try.underlying25 rfl (by simp [Value.oneCell'])
      by_cases hyx : ya < x
      · rw [if_pos hyx] at hstep
        have HS := Lib.hid hstep
        clear hX hp hye hstep
        go_wp2_with (at_builtin; refine wpList_app _ rfl _ _ 25 25 rfl (w.heap.size + 2) 139 i1 _ 2 24 Try.underlying25 hi1 hy0 hy1 hy2 rfl A' p c' _ rfl (hown.alloc _) _ 1 _ rfl hsrcC (by simp only [maxLen]; omega) (by omega) (by simp; omega) ?_; intro A6 c6 w6 hown6 hg6 hb6)
        go_roundw
        case rel =>
          have hl1 : (rsA l x (j + 1)).length = p + 1 := by rw [HS.out, List.length_append, ← HP.out]; rfl
          exact ⟨j + 1, A6, c6, by omega, by go_num, by rw [hl1], by rw [hl1, HS.out, rcells_snoc]; exact hown6, (hbr.alloc (by omega) _).grown hg6 (by simp; omega) (fun i hi => (hown.lt i hi).1)⟩
        case measure => simp [intOf]; omega
      · rw [if_neg hyx, List.append_nil] at hstep
        have HS := Lib.hid hstep
        clear hX hp hye hstep
        go_wp2_with fail
        go_roundw
        case rel => exact ⟨j + 1, A', c', by omega, by go_num, by rw [HS.out, ← HP.out], by rw [HS.out, ← HP.out]; exact hown, hbr⟩
        case measure => simp [intOf]; omega
    · obtain rfl : j = m := by omega
      have hG6r := hG6.below hbr (by omega)
      obtain ⟨X, hX⟩ : ∃ X, X = rsA l x j := ⟨_, rfl⟩
      obtain ⟨p, hp⟩ : ∃ p, p = X.length := ⟨_, rfl⟩
      rw [← hX] at hown hlen ⊢
      rw [← hp] at hown hlen ⊢
      have hed : doZ ⟨n, room, l, k⟩ x = (⟨x, room, X, p⟩, 0) := by rw [hp, hX]; exact ED.out
      have HED := Lib.hid hed
      have hn6 := hown.blk_ne hG6r (by decide)
      have hownF := (((hown.setCell (p := ⟨w.heap.size + 1, 0, none⟩) hn6 (.int .i64 x)).setCell (p := ⟨w.heap.size + 1, 1, none⟩) hn6 (.int .i64 room)).setCell (p := ⟨w.heap.size + 1, 2, none⟩) hn6 (.slice A' p c')).setCell (p := ⟨w.heap.size + 1, 3, none⟩) hn6 (.int .i64 p)
      have hb0r : Below w.heap.size w wr := hb2.trans (hbr.mono (by omega))
      have hbF := (((hb0r.setCell (p := ⟨w.heap.size + 1, 0, none⟩) (by simp) (.int .i64 x)).setCell (p := ⟨w.heap.size + 1, 1, none⟩) (by simp) (.int .i64 room)).setCell (p := ⟨w.heap.size + 1, 2, none⟩) (by simp) (.slice A' p c')).setCell (p := ⟨w.heap.size + 1, 3, none⟩) (by simp) (.int .i64 p)
      obtain ⟨⟨d0, d1, d2, d3⟩, e0, e1, e2, e3⟩ := hG6r.four
      have hlX : X.length = p := hp.symm
      clear hX hp hed hn6
      go_wp2_with fail
      refine bodyPost_ret (sresults_row_tmp rfl _ _ _ 27 _ (0, 0) _ rfl (show Blk _ _ _ #[.int .i64 x, .int .i64 room, .slice A' p c', .int .i64 p] from ((((hG6r).set_ 0 _).set_ 1 _).set_ 2 _).set_ 3 _) Try.underlying27 rfl (rst_info _ _ _ _)) rfl ?_
      rw [HED.out]
      exact ⟨A', p, c', rfl, hlX, RNew.own hownF (by omega), hbF⟩
end Go.Proofs.Ytbljacafmkdlmaa
