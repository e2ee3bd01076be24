/- The law SafeJoins. Condition: the lengths fit memory. -/
import Derived.Test.YtbljacafmkdlmaaJnD
import Derived.Test.YtbljacafmkdlmaaAp48
import Derived.Test.YtbljacafmkdlmaaMgN
namespace Go.Proofs.Ytbljacafmkdlmaa
set_option maxRecDepth 100000
open Go.RowKit
set_option linter.unusedSimpArgs false
set_option linter.unusedVariables false

theorem joinP_len (h : Hd) (ls : List (List UInt8)) : (joinP h ls).1.length ≤ 106 + ls.flatten.length := by
  unfold joinP
  split
  · rename_i hr
    have := text_le hr
    simp only [List.length_append, be_length, sealed_length]
    omega
  · exact Nat.zero_le _
theorem mem_flat {ls : List (List UInt8)} {x : List UInt8} (h : x ∈ ls) : x.length ≤ ls.flatten.length := by
  induction ls with
  | nil => cases h
  | cons y ls ih =>
    rw [List.flatten_cons, List.length_append]
    rcases List.mem_cons.1 h with rfl | h
    · omega
    · have := ih h
      omega

theorem split_few (b : List UInt8) : (splitP b).2.1.length ≤ 8 := by
  unfold splitP
  split
  · exact Nat.zero_le _
  split
  · exact Nat.zero_le _
  split
  · exact Nat.zero_le _
  · rename_i q hq
    split
    · rw [(cutN_length hq).1]
      exact (decH_small _).1
    · exact Nat.zero_le _

set_option maxHeartbeats 16000000 in
theorem joins_law (h : Hd) (P0 : Option Addr) (q0 cp : Nat) (A : Option Addr) (n c : Nat) (ls : List (List UInt8)) (Bb : Option Addr) (nb cb : Nat) (b : List UInt8) (w : World) (hnl : h.n.length ≤ 140737488355328) (hn : ls.length = n) (hr : Row w A (sv ls)) (hn43 : n ≤ 8796093022208) (hls : ∀ x ∈ ls, x.length ≤ 140737488355328) (hnb : b.length = nb) (hrb : Row w Bb (bv b)) (hbc : nb ≤ cb) (hb47 : nb ≤ 140737488355328) :
    Calls Try.prog 4 #[.agg #[.int .i64 h.b, .int .i64 h.z, .string (str h.n), .int .i64 h.g, .bool h.c, .slice P0 q0 cp], .slice A n c, .slice Bb nb cb] w fun e w' => e = .returned (.bool true) ∧ Below w.heap.size w w' := by
  obtain ⟨i2, hi2, hx0, hx1, hx2⟩ := info_parts info_sl
  have HI2 := Lib.hid hi2
  have HX0 := Lib.hid hx0
  have HX1 := Lib.hid hx1
  have HX2 := Lib.hid hx2
  have HN := Lib.hid hn
  have HLS := Lib.hid hls
  have HNB := Lib.hid hnb
  have hK0 := Blk.new w 56 #[.int .i64 h.b, .int .i64 h.z, .string (str h.n), .int .i64 h.g, .bool h.c, .slice P0 q0 cp]
  have hb0 : Below w.heap.size w (w.alloc (.cells #[.int .i64 h.b, .int .i64 h.z, .string (str h.n), .int .i64 h.g, .bool h.c, .slice P0 q0 cp] 56)) := (Below.refl _ w).alloc (Nat.le_refl _) _
  obtain ⟨g3, hg3⟩ : ∃ g3, g3 = w.heap.size := ⟨_, rfl⟩
  rw [← hg3] at hK0
  obtain ⟨w0, hw0⟩ : ∃ w0, w0 = w.alloc (.cells #[.int .i64 h.b, .int .i64 h.z, .string (str h.n), .int .i64 h.g, .bool h.c, .slice P0 q0 cp] 56) := ⟨_, rfl⟩
  rw [← hw0] at hb0 hK0
  have HW0 := Lib.hid hw0
  have HG3 := Lib.hid hg3
  have hbw : ∀ u, Below w0.heap.size w0 u → Below w.heap.size w u := fun u hu => hb0.trans (hu.mono hb0.size)
  have HBW := Lib.hid hbw
  clear hi2 hx0 hx1 hx2 hn hls hnb hg3 hw0 hbw
  go_enter Try.func4, Try.ntmps4
  go_upto_region 1 with fail
  rw [← HW0.out, ← HG3.out]
  clear HW0
  go_wp2_with fail
  go_loopw [7, 8, 28] (fun zv lv i wr => ∃ (j : Nat) (z : Int) (A' : Option Addr) (c' : Nat) (qs : List Piece), j ≤ n ∧ i = .int .i64 j ∧ zv = .int .i64 z ∧ lv = .slice A' j c' ∧ Own wr w0.heap.size 23 1 A' j c' (pv qs) ∧ (∀ p ∈ qs, PB wr p) ∧ Hid (qs.map Piece.l = ls.take j) ∧ Hid (j ≤ 20 → z = ((nb + (ls.take j).flatten.length : Nat) : Int)) ∧ Below w0.heap.size w0 wr)
    (fun _ _ i _ => n - (intOf i).toNat)
  case atStart => exact ⟨0, _, none, 0, [], Nat.zero_le _, rfl, rfl, rfl, Own.nil _ _ _ _ _, (fun p hp => by cases hp), Lib.hid rfl, Lib.hid (fun _ => by simp), Below.refl _ _⟩
  case round =>
    obtain ⟨j, z, A', c', qs, hj, rfl, rfl, rfl, hown, hpb, HQS, HZ, hBr⟩ := hrel
    by_cases hlt : j < n
    · have hjl : j < ls.length := by rw [HN.out]; exact hlt
      obtain ⟨g, o, rfl, hgw, hcs⟩ := (hr.below (HBW.out _ hBr)).at_ (by rw [sv_length]; omega)
      have hc0 := hcs j _ (sv_at hjl)
      have hx7 := HLS.out _ (List.getElem_mem hjl)
      have hft : (ls.take (j + 1)).flatten.length = (ls.take j).flatten.length + ls[j].length := by rw [List.take_succ_eq_append_getElem hjl, List.flatten_append, List.length_append]; simp
      have hts : ls.take (j + 1) = ls.take j ++ [ls[j]] := List.take_succ_eq_append_getElem hjl
      obtain ⟨x, hx⟩ : ∃ x, x = ls[j] := ⟨_, rfl⟩
      rw [← hx] at hc0 hx7 hft hts
      obtain ⟨mx, hmx⟩ : ∃ mx, mx = x.length := ⟨_, rfl⟩
      have hmx' : x.length = mx := hmx.symm
      have HMX := Lib.hid hmx'
      rw [hmx'] at hx7 hft
      have HFT := Lib.hid hft
      have HTS := Lib.hid hts
      obtain ⟨cX, w3, hcv, hcX, hxr, hxb, hb3⟩ := jconv_any wr x mx hmx'
      have hpb3 : PB w3 ⟨some ⟨wr.heap.size, 0, none⟩, cX, x⟩ := ⟨hxr, hxb, by show x.length ≤ cX; rw [HMX.out]; exact hcX⟩
      have hown3 := hown.below hb3
      have hB3 := below_all hBr hb3
      have hbA : Below w3.heap.size w3 (w3.alloc (.cells #[.slice (some ⟨wr.heap.size, 0, none⟩) mx cX] 23)) := (Below.refl _ _).alloc (Nat.le_refl _) _
      have hval : ([.slice (some ⟨wr.heap.size, 0, none⟩) mx cX] : List Value) = [Piece.val ⟨some ⟨wr.heap.size, 0, none⟩, cX, x⟩] := by unfold Piece.val; simp only [HMX.out]
      have HVAL := Lib.hid hval
      clear hcs hft hts hx hmx hxr hxb hval hown
      by_cases h20 : j < 20
      · have hz := HZ.out (by omega)
        have hfl := flat_len HLS.out j
        obtain ⟨G, hG⟩ : ∃ G : Nat, G = nb + (ls.take j).flatten.length := ⟨_, rfl⟩
        rw [← hG] at hz
        subst hz
        have hG9 : G ≤ 9000000000000000 := by omega
        have HNX : Hid (j + 1 ≤ 20 → ((G : Int) + (mx : Int)) = ((nb + (ls.take (j + 1)).flatten.length : Nat) : Int)) := Lib.hid (fun _ => by rw [HFT.out, hG]; omega)
        clear hG hfl
        go_wp2_with (at_builtin; refine wpList_app48 _ rfl _ _ 58 58 rfl w0.heap.size 23 i2 _ 1 24 Try.underlying58 HI2.out HX0.out HX1.out HX2.out rfl A' j c' _ rfl (hown3.alloc _) _ 1 _ rfl (Src.new Try.underlying58 rfl (by simp [Value.oneCell'])) (by simp only [maxLen]; omega) (by omega) (Nat.le_trans hB3.size (by simp)) ?_; intro A7 c7 w8 hown7 hg7 hb7; refine Classical.byContradiction fun hstop => ?_)
        refine absurd ?_ hstop
        clear hstop
        have hpb7 := pbs_app hpb (below_all hb3 hbA) (hpb3.below hbA) (hown3.alloc _) hg7
        have hB7 := (hB3.alloc hB3.size (.cells #[.slice (some ⟨wr.heap.size, 0, none⟩) mx cX] 23)).grown hg7 (Nat.le_trans hB3.size (by simp)) (fun i hi => (hown3.lt i hi).1)
        rw [HVAL.out, pv_snoc] at hown7
        clear hg7 hb7 hbA hpb3 hown3 hpb hB3 hb3 hcv
        go_wp2_with fail
        go_roundw
        case rel => exact ⟨j + 1, _, A7, c7, qs ++ [⟨some ⟨wr.heap.size, 0, none⟩, cX, x⟩], by omega, by go_num, rfl, rfl, hown7, hpb7, Lib.hid (by rw [List.map_append, HQS.out, HTS.out]; rfl), HNX, hB7⟩
        case measure => simp [intOf]; omega
      · have hj20 : ¬ j + 1 ≤ 20 := by omega
        have HJ20 := Lib.hid hj20
        clear hj20
        go_wp2_with (at_builtin; refine wpList_app48 _ rfl _ _ 58 58 rfl w0.heap.size 23 i2 _ 1 24 Try.underlying58 HI2.out HX0.out HX1.out HX2.out rfl A' j c' _ rfl (hown3.alloc _) _ 1 _ rfl (Src.new Try.underlying58 rfl (by simp [Value.oneCell'])) (by simp only [maxLen]; omega) (by omega) (Nat.le_trans hB3.size (by simp)) ?_; intro A7 c7 w8 hown7 hg7 hb7; refine Classical.byContradiction fun hstop => ?_)
        refine absurd ?_ hstop
        clear hstop
        have hpb7 := pbs_app hpb (below_all hb3 hbA) (hpb3.below hbA) (hown3.alloc _) hg7
        have hB7 := (hB3.alloc hB3.size (.cells #[.slice (some ⟨wr.heap.size, 0, none⟩) mx cX] 23)).grown hg7 (Nat.le_trans hB3.size (by simp)) (fun i hi => (hown3.lt i hi).1)
        rw [HVAL.out, pv_snoc] at hown7
        clear hg7 hb7 hbA hpb3 hown3 hpb hB3 hb3 hcv
        go_wp2_with fail
        go_roundw
        case rel => exact ⟨j + 1, _, A7, c7, qs ++ [⟨some ⟨wr.heap.size, 0, none⟩, cX, x⟩], by omega, by go_num, rfl, rfl, hown7, hpb7, Lib.hid (by rw [List.map_append, HQS.out, HTS.out]; rfl), Lib.hid (fun hh => absurd hh HJ20.out), hB7⟩
        case measure => simp [intOf]; omega
    · obtain rfl : n = j := by omega
      have htk : ls.take n = ls := List.take_of_length_le (by rw [HN.out]; exact Nat.le_refl _)
      rw [htk] at HQS HZ
      clear htk
      by_cases hn20 : n ≤ 20
      rotate_left
      · have hn21 : 20 < n := by omega
        have hn22 : (20 : Int) < (n : Int) := by omega
        clear hn20
        by_cases hz : 100000 < z
        · go_wp2_with fail
          refine (alive_any wr).mono ?_
          rintro e w4 ⟨rfl, hb4⟩
          have hb := HBW.out _ (below_all hBr hb4)
          go_wp2_with fail
          go_ret
          exact ⟨rfl, hb⟩
        · go_wp2_with fail
          refine (alive_any wr).mono ?_
          rintro e w4 ⟨rfl, hb4⟩
          have hb := HBW.out _ (below_all hBr hb4)
          go_wp2_with fail
          go_ret
          exact ⟨rfl, hb⟩
      have hz := HZ.out hn20
      obtain ⟨F, hF⟩ : ∃ F : Nat, F = ls.flatten.length := ⟨_, rfl⟩
      rw [← hF] at hz
      have HF := Lib.hid hF
      obtain ⟨G, hG⟩ : ∃ G : Nat, G = nb + F := ⟨_, rfl⟩
      rw [← hG] at hz
      subst hz
      clear HZ hF
      by_cases hG1 : 100000 < G
      · clear hG
        go_wp2_with fail
        refine (alive_any wr).mono ?_
        rintro e w4 ⟨rfl, hb4⟩
        have hb := HBW.out _ (below_all hBr hb4)
        go_wp2_with fail
        go_ret
        exact ⟨rfl, hb⟩
      have hG2 : G ≤ 100000 := by omega
      have hnb5 : nb ≤ 100000 := by omega
      have hF5 : F ≤ 100000 := by omega
      have hx6 : ∀ x ∈ ls, x.length ≤ 1000000 := fun x hx => by have h1 := mem_flat hx; rw [← HF.out] at h1; omega
      have hql : qs.length = n := by have h1 := congrArg List.length HQS.out; rw [List.length_map, HN.out] at h1; exact h1
      have hjn := join_any h P0 q0 cp A' n c' qs wr hql hown.row (by omega) (fun p hp => (hpb p hp).row) (fun p hp => ⟨(hpb p hp).cap, hx6 _ (by rw [← HQS.out]; exact List.mem_map_of_mem hp)⟩) hnl
      rw [HQS.out] at hjn
      have hrj := fun u (hu : Row u A (sv ls)) => rJoin_any h P0 q0 cp A n c ls u HN.out hu (by omega) hx6 hnl
      have hjl := joinP_len h ls
      rw [← HF.out] at hjl
      obtain ⟨⟨xb, je⟩, hJ⟩ : ∃ r, r = joinP h ls := ⟨_, rfl⟩
      rw [← hJ] at hjn hjl
      simp only [← hJ] at hrj
      simp only at hjl
      have hK := hK0.belowAll hBr
      have hxb6 : xb.length ≤ 1000000 := by omega
      have HXB := Lib.hid hxb6
      have HRJ := Lib.hid hrj
      have x0 := hK.cell 0
      have x1 := hK.cell 1
      have x2 := hK.cell 2
      have x3 := hK.cell 3
      have x4 := hK.cell 4
      have x5 := hK.cell 5
      simp only [List.getElem?_toArray, List.getElem?_cons_succ, List.getElem?_cons_zero] at x0 x1 x2 x3 x4 x5
      clear hG hG1 hx6 hql hJ hjl hxb6 hrj hown hpb HQS
      go_wp2_with fail
      refine hjn.mono ?_
      rintro e w4 ⟨A1, m1, c1, rfl, hm1, hmc1, hx1, hb4⟩
      simp only at hm1 hx1
      have hB4 := below_all hBr hb4
      have hK4 := hK.belowAll hb4
      have HM1 := Lib.hid hm1
      clear hjn hm1 x0 x1 x2 x3 x4 x5
      have x0 := hK4.cell 0
      have x1 := hK4.cell 1
      have x2 := hK4.cell 2
      have x3 := hK4.cell 3
      have x4 := hK4.cell 4
      have x5 := hK4.cell 5
      simp only [List.getElem?_toArray, List.getElem?_cons_succ, List.getElem?_cons_zero] at x0 x1 x2 x3 x4 x5
      go_wp2_with fail
      refine (HRJ.out _ (hr.below (HBW.out _ hB4))).mono ?_
      rintro e w5 ⟨rfl, hb5⟩
      have hB5 := below_all hB4 hb5
      have hx15 := hx1.below hb5
      have hcv := run_string (P := Try.prog) HM1.out 23 9 5 (c := c1) Try.underlying23 Try.underlying5 Try.underlying9 hx15
      have hrb5 := hrb.below (HBW.out _ hB5)
      have h9 := Blk.new w5 23 #[.slice A1 m1 c1, .slice Bb nb cb]
      have hx19 := hx15.alloc (.cells #[.slice A1 m1 c1, .slice Bb nb cb] 23)
      have hrb9 := hrb5.alloc (.cells #[.slice A1 m1 c1, .slice Bb nb cb] 23)
      have hB9 := hB5.alloc hB5.size (.cells #[.slice A1 m1 c1, .slice Bb nb cb] 23)
      obtain ⟨g9, hg9⟩ : ∃ g9, g9 = w5.heap.size := ⟨_, rfl⟩
      rw [← hg9] at h9
      obtain ⟨w9, hw9⟩ : ∃ w9, w9 = w5.alloc (.cells #[.slice A1 m1 c1, .slice Bb nb cb] 23) := ⟨_, rfl⟩
      rw [← hw9] at h9 hx19 hrb9 hB9
      have HW9 := Lib.hid hw9
      have HG9 := Lib.hid hg9
      have hgen : ∀ (i : Nat) (u : World), i < 2 → Below w9.heap.size w9 u → ∃ Az mz cz zb, u.cell? ⟨g9, i, none⟩ = some (.slice Az mz cz) ∧ zb.length = mz ∧ mz ≤ cz ∧ Row u Az (bv zb) ∧ mz ≤ 1000000 := fun i u hi hu => by
        have h9u := h9.belowAll hu
        obtain rfl | rfl : i = 0 ∨ i = 1 := by omega
        · exact ⟨A1, m1, c1, xb, h9u.cell 0, HM1.out, hmc1, hx19.below hu, by have := HXB.out; rw [HM1.out] at this; exact this⟩
        · exact ⟨Bb, nb, cb, b, h9u.cell 1, HNB.out, hbc, hrb9.below hu, by omega⟩
      have HGEN := Lib.hid hgen
      clear hK hK4 hb4 hb5 hx1 hx15 hrb5 h9 hx19 hrb9 hw9 hg9 hgen hBr x0 x1 x2 x3 x4 x5 hB4 hB5
      go_upto_region 16 with fail
      rw [← HW9.out, ← HG9.out]
      clear HW9 HG9
      go_loopw [75] (fun i wr => ∃ (j : Nat), j ≤ 2 ∧ i = .int .i64 j ∧ Below w9.heap.size w9 wr)
        (fun i _ => 2 - (intOf i).toNat)
      case atStart => exact ⟨0, by omega, rfl, Below.refl _ _⟩
      case round =>
        obtain ⟨j2, hj2, rfl, hBr⟩ := hrel
        by_cases hlt2 : j2 < 2
        · obtain ⟨Az, mz, cz, zb, hcz, hmz, hmcz, hrz, hmz6⟩ := HGEN.out j2 wr hlt2 hBr
          have hsp := split_any Az mz cz zb wr hmz hmcz hrz hmz6
          have hrs := fun u => rSplit_any zb u (by rw [hmz]; exact hmz6)
          have hsm := split_small zb
          have hsf := split_few zb
          obtain ⟨⟨sh, spl, se⟩, hs⟩ : ∃ r, r = splitP zb := ⟨_, rfl⟩
          rw [← hs] at hsp hsm hsf
          simp only [← hs] at hrs
          simp only at hsm hsf
          have HRS := Lib.hid hrs
          have HMZ := Lib.hid hmz
          have HSM := Lib.hid hsm
          have HSF := Lib.hid hsf
          clear hs hrs hmz hsm hsf
          go_wp2_with fail
          refine hsp.mono ?_
          rintro e w10 ⟨P, mp, cp', Aq, mq, cq, qs2, rfl, hmp, hrP, hql, hqm, hrq, hqp, hb10⟩
          simp only at hmp hrP hqm
          have HMP := Lib.hid hmp
          have HQL := Lib.hid hql
          have HQM := Lib.hid hqm
          have hB11 := below_all hBr hb10
          have hK17 := Blk.new w10 60 #[.int .i64 sh.b, .int .i64 sh.z, .string (str sh.n), .int .i64 sh.g, .bool sh.c, .slice P mp cp']
          have hrP1 := hrP.alloc (.cells #[.int .i64 sh.b, .int .i64 sh.z, .string (str sh.n), .int .i64 sh.g, .bool sh.c, .slice P mp cp'] 60)
          have hrq1 := hrq.alloc (.cells #[.int .i64 sh.b, .int .i64 sh.z, .string (str sh.n), .int .i64 sh.g, .bool sh.c, .slice P mp cp'] 60)
          have hqp1 := hqp.below ((Below.refl _ w10).alloc (Nat.le_refl _) (.cells #[.int .i64 sh.b, .int .i64 sh.z, .string (str sh.n), .int .i64 sh.g, .bool sh.c, .slice P mp cp'] 60))
          have hrz1 := (hrz.below hb10).alloc (.cells #[.int .i64 sh.b, .int .i64 sh.z, .string (str sh.n), .int .i64 sh.g, .bool sh.c, .slice P mp cp'] 60)
          have hB11 := hB11.alloc hB11.size (.cells #[.int .i64 sh.b, .int .i64 sh.z, .string (str sh.n), .int .i64 sh.g, .bool sh.c, .slice P mp cp'] 60)
          obtain ⟨g17, hg17⟩ : ∃ g17, g17 = w10.heap.size := ⟨_, rfl⟩
          rw [← hg17] at hK17
          obtain ⟨w11, hw11⟩ : ∃ w11, w11 = w10.alloc (.cells #[.int .i64 sh.b, .int .i64 sh.z, .string (str sh.n), .int .i64 sh.g, .bool sh.c, .slice P mp cp'] 60) := ⟨_, rfl⟩
          rw [← hw11] at hK17 hrP1 hrq1 hqp1 hrz1 hB11
          have HW11 := Lib.hid hw11
          have HG17 := Lib.hid hg17
          have hcv := run_string (P := Try.prog) HMZ.out 23 9 5 (c := cz) Try.underlying23 Try.underlying5 Try.underlying9 hrz1
          clear hsp hmp hrP hql hqm hrq hqp hb10 hw11 hg17 hrz hcz
          go_upto_region 19 with fail
          rw [← HW11.out, ← HG17.out]
          clear HW11
          go_wp2_with fail
          refine (HRS.out _).mono ?_
          rintro e w12 ⟨P2, mp2, cp2, Aq2, mq2, cq2, rfl, hmp2, hrP2, hql2, hrq2, hb12⟩
          simp only at hmp2 hrP2 hql2 hrq2
          have hqq : mq2 = mq := by rw [← hql2, ← HQM.out, List.length_map, HQL.out]
          subst hqq
          have HMP2 := Lib.hid hmp2
          have HQL2 := Lib.hid hql2
          have hm8 : mq2 ≤ 8 := by rw [← hql2]; exact HSF.out
          have HM8 := Lib.hid hm8
          clear hm8
          have hB13 := below_all hB11 hb12
          have hB13 := hB13.alloc hB13.size (.cells #[.int .i64 sh.b, .int .i64 sh.z, .string (str sh.n), .int .i64 sh.g, .bool sh.c, .slice P2 mp2 cp2] 56)
          have hK173 := (hK17.belowAll hb12).alloc (.cells #[.int .i64 sh.b, .int .i64 sh.z, .string (str sh.n), .int .i64 sh.g, .bool sh.c, .slice P2 mp2 cp2] 56)
          have hK20 := Blk.new w12 56 #[.int .i64 sh.b, .int .i64 sh.z, .string (str sh.n), .int .i64 sh.g, .bool sh.c, .slice P2 mp2 cp2]
          have hrP3 := (hrP1.below hb12).alloc (.cells #[.int .i64 sh.b, .int .i64 sh.z, .string (str sh.n), .int .i64 sh.g, .bool sh.c, .slice P2 mp2 cp2] 56)
          have hrq3 := (hrq1.below hb12).alloc (.cells #[.int .i64 sh.b, .int .i64 sh.z, .string (str sh.n), .int .i64 sh.g, .bool sh.c, .slice P2 mp2 cp2] 56)
          have hqp3 := (hqp1.below hb12).below ((Below.refl _ w12).alloc (Nat.le_refl _) (.cells #[.int .i64 sh.b, .int .i64 sh.z, .string (str sh.n), .int .i64 sh.g, .bool sh.c, .slice P2 mp2 cp2] 56))
          have hrP23 := hrP2.alloc (.cells #[.int .i64 sh.b, .int .i64 sh.z, .string (str sh.n), .int .i64 sh.g, .bool sh.c, .slice P2 mp2 cp2] 56)
          have hrq23 := hrq2.alloc (.cells #[.int .i64 sh.b, .int .i64 sh.z, .string (str sh.n), .int .i64 sh.g, .bool sh.c, .slice P2 mp2 cp2] 56)
          obtain ⟨g20, hg20⟩ : ∃ g20, g20 = w12.heap.size := ⟨_, rfl⟩
          rw [← hg20] at hK20
          obtain ⟨w13, hw13⟩ : ∃ w13, w13 = w12.alloc (.cells #[.int .i64 sh.b, .int .i64 sh.z, .string (str sh.n), .int .i64 sh.g, .bool sh.c, .slice P2 mp2 cp2] 56) := ⟨_, rfl⟩
          rw [← hw13] at hB13 hK173 hK20 hrP3 hrq3 hqp3 hrP23 hrq23
          have HW13 := Lib.hid hw13
          have HG20 := Lib.hid hg20
          have hsame := rSame_self sh mp mp2 P P2 cp' cp2 w13 HMP.out HMP2.out hrP3 hrP23 (by have h1 := HSM.out; rw [HMP.out] at h1; omega)
          clear hcv hmp2 hrP2 hql2 hrq2 hb12 hK17 hrP1 hrq1 hqp1 hrz1 hB11 hw13 hg20 hrP3 hrP23
          go_upto_region 20 with fail
          rw [← HW13.out, ← HG20.out]
          clear HW13
          have x0 := hK173.cell 0
          have x1 := hK173.cell 1
          have x2 := hK173.cell 2
          have x3 := hK173.cell 3
          have x4 := hK173.cell 4
          have x5 := hK173.cell 5
          have y0 := hK20.cell 0
          have y1 := hK20.cell 1
          have y2 := hK20.cell 2
          have y3 := hK20.cell 3
          have y4 := hK20.cell 4
          have y5 := hK20.cell 5
          simp only [List.getElem?_toArray, List.getElem?_cons_succ, List.getElem?_cons_zero] at x0 x1 x2 x3 x4 x5 y0 y1 y2 y3 y4 y5
          go_wp2_with fail
          refine hsame.mono ?_
          rintro e w14 ⟨rfl, hb14⟩
          have hB14 := below_all hB13 hb14
          have hrq4 := hrq3.below hb14
          have hqp4 := hqp3.below hb14
          have hrq24 := hrq23.below hb14
          clear hsame hb14 hB13 hrq3 hqp3 hrq23 hK173 hK20 x0 x1 x2 x3 x4 x5 y0 y1 y2 y3 y4 y5
          go_wp2_with fail
          go_loopw [110] (fun i wr2 => ∃ (k : Nat), k ≤ mq2 ∧ i = .int .i64 k ∧ Below w14.heap.size w14 wr2)
            (fun i _ => mq2 - (intOf i).toNat)
          case atStart => exact ⟨0, Nat.zero_le _, rfl, Below.refl _ _⟩
          case round =>
            obtain ⟨k, hk, rfl, hBk⟩ := hrel
            by_cases hlk : k < mq2
            · have h8 := HM8.out
              have hkq : k < qs2.length := by rw [HQL.out]; exact hlk
              have hks : k < spl.length := by rw [HQL2.out]; exact hlk
              obtain ⟨gq, oq, rfl, hgq, hcq⟩ := (hrq4.below hBk).at_ (by rw [pv_length]; omega)
              have hq0 := hcq k _ (pv_at hkq)
              obtain ⟨gs, os, rfl, hgs, hcs⟩ := (hrq24.below hBk).at_ (by rw [sv_length]; omega)
              have hs0 := hcs k _ (sv_at hks)
              have hpr := (hqp4 _ (List.getElem_mem hkq)).below hBk
              have he : spl[k] = qs2[k].l := by
                have h1 : spl[k]? = (qs2.map Piece.l)[k]? := by rw [HQM.out]
                rw [List.getElem?_eq_getElem hks, List.getElem?_map, List.getElem?_eq_getElem hkq] at h1
                simpa using h1
              obtain ⟨⟨Ap, cpp, pl⟩, hp⟩ : ∃ p, p = qs2[k] := ⟨_, rfl⟩
              rw [← hp] at hq0 hpr he
              rw [he] at hs0
              simp only at hq0 hpr hs0
              obtain ⟨ml, hml⟩ : ∃ ml, ml = pl.length := ⟨_, rfl⟩
              rw [← hml] at hq0
              have hcvk := run_string (P := Try.prog) hml.symm 23 9 5 (c := cpp) Try.underlying23 Try.underlying5 Try.underlying9 hpr.drew
              have hq1 : wr.drew.cell? ⟨gq, oq + k, none⟩ = some (.slice Ap ml cpp) := hq0
              have hs1 : wr.drew.cell? ⟨gs, os + k, none⟩ = some (.string (str pl)) := hs0
              clear hml hp he hkq hks hcq hcs
              go_upto_region 25 with fail
              refine wp_region_seq true (.take 0 .copy (.take 1 .copy (.take 2 .addr (.take 3 .load (.take 4 (.text 23 5 9) (.take 5 .copy (.take 6 .copy (.take 7 .addr (.take 8 .load (.take 9 (.str2 9) .fin)))))))))) (by kernel_rfl) (by kernel_rfl) (by kernel_rfl) ?_
              simp only [pre, nxt, List.getElem?_toArray, List.getElem?_cons_zero, List.getElem?_cons_succ, ghosts, List.nil_append, gStr, ghost, List.cons_append]
              go_wp2_with fail
              refine ends_normal ?_
              go_wp2_with fail
              go_roundw
              case rel => exact ⟨k + 1, by omega, by go_num, hBk.drew⟩
              case measure => simp [intOf]; omega
            · obtain rfl : mq2 = k := by omega
              go_wp2_with fail
              go_roundw
              case rel => exact ⟨j2 + 1, by omega, by go_num, below_all hB14 hBk⟩
              case measure => simp [intOf]; omega
        · obtain rfl : j2 = 2 := by omega
          have hB0 := below_all hB9 hBr
          go_wp2_with fail
          refine (alive_any wr).mono ?_
          rintro e w4 ⟨rfl, hb4⟩
          have hb := HBW.out _ (below_all hB0 hb4)
          go_wp2_with fail
          go_ret
          exact ⟨rfl, hb⟩
end Go.Proofs.Ytbljacafmkdlmaa
