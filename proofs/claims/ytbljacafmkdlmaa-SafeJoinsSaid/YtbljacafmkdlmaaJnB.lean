/- pentimentoref13.Join. Condition: the parts' lengths fit memory. -/
import Derived.Test.YtbljacafmkdlmaaJnA
import Derived.Test.YtbljacafmkdlmaaRe
import Derived.Test.YtbljacafmkdlmaaSeqS
import Derived.Deep.Cut
namespace Go.Proofs.Ytbljacafmkdlmaa
set_option maxRecDepth 100000
open Go.RowKit
set_option linter.unusedSimpArgs false
set_option linter.unusedVariables false

def sv (L : List (List UInt8)) : List Value := L.map fun y => .string (str y)
theorem sv_snoc (L : List (List UInt8)) (y : List UInt8) : sv L ++ [.string (str y)] = sv (L ++ [y]) := by simp [sv]
theorem sv_length (L : List (List UInt8)) : (sv L).length = L.length := by simp [sv]
theorem sv_at {L : List (List UInt8)} {k : Nat} (hk : k < L.length) : (sv L)[k]? = some (.string (str L[k])) := by simp [sv, hk]
theorem flat_len {L : List (List UInt8)} {M : Nat} (h : ∀ x ∈ L, x.length ≤ M) : ∀ q, ((L.take q).flatten).length ≤ M * q := by
  intro q
  induction q with
  | zero => rw [List.take_zero]; exact Nat.zero_le _
  | succ q ih =>
    by_cases hq : q < L.length
    · rw [List.take_succ_eq_append_getElem hq, List.flatten_append, List.length_append]
      have h1 := h _ (List.getElem_mem hq)
      have h2 : ([L[q]].flatten).length = L[q].length := by simp
      rw [h2, Nat.mul_succ]
      omega
    · rw [List.take_of_length_le (by omega)] at ih ⊢
      rw [Nat.mul_succ]
      omega

set_option maxHeartbeats 8000000 in
theorem rJoin_any (h : Hd) (P0 : Option Addr) (q0 cp : Nat) (A : Option Addr) (n c : Nat) (ls : List (List UInt8)) (w : World) (hn : ls.length = n) (hr : Row w A (sv ls)) (hn47 : n ≤ 1000) (hsum : ∀ x ∈ ls, x.length ≤ 1000000) (hnl : h.n.length ≤ 140737488355328) :
    Calls Try.prog 24 #[.agg #[.int .i64 h.b, .int .i64 h.z, .string (str h.n), .int .i64 h.g, .bool h.c, .slice P0 q0 cp], .slice A n c] w fun e w' => e = .returned (.tuple #[.string (str (joinP h ls).1), .int .i64 (joinP h ls).2]) ∧ Below w.heap.size w w' := by
  obtain ⟨i0, hi0, hz0, hz1, hz2⟩ := info_parts info_int
  have HN := Lib.hid hn
  have HSUM := Lib.hid hsum
  have HZ0 := Lib.hid hz0
  have HZ1 := Lib.hid hz1
  have HZ2 := Lib.hid hz2
  have HI0 := Lib.hid hi0
  have hbk := Blk.new w 56 #[.int .i64 h.b, .int .i64 h.z, .string (str h.n), .int .i64 h.g, .bool h.c, .slice none 0 0]
  have hb1 : Below w.heap.size w (w.alloc (.cells #[.int .i64 h.b, .int .i64 h.z, .string (str h.n), .int .i64 h.g, .bool h.c, .slice none 0 0] 56)) := (Below.refl _ w).alloc (Nat.le_refl _) _
  obtain ⟨gb, hgb⟩ : ∃ gb, gb = w.heap.size := ⟨_, rfl⟩
  rw [← hgb] at hbk
  obtain ⟨w1, hw1⟩ : ∃ w1, w1 = w.alloc (.cells #[.int .i64 h.b, .int .i64 h.z, .string (str h.n), .int .i64 h.g, .bool h.c, .slice none 0 0] 56) := ⟨_, rfl⟩
  rw [← hw1] at hbk hb1
  have HW1 := Lib.hid hw1
  have HGB := Lib.hid hgb
  have hgbw : w.heap.size ≤ gb := by omega
  clear hn hsum hz0 hz1 hz2 hi0 hw1 hgb
  go_enter Try.func24, Try.ntmps24
  go_wp2_with fail
  rw [← HW1.out, ← HGB.out]
  clear HW1
  go_loopw [6, 7] (fun v i wr => ∃ (j : Nat) (A' : Option Addr) (c' : Nat), j ≤ n ∧ i = .int .i64 j ∧ v = .string (str ((ls.take j).flatten)) ∧ Blk wr gb 56 #[.int .i64 h.b, .int .i64 h.z, .string (str h.n), .int .i64 h.g, .bool h.c, .slice A' j c'] ∧ Own wr w.heap.size 3 1 A' j c' (iv ((lens ls).take j)) ∧ Below w.heap.size w wr)
    (fun _ i _ => n - (intOf i).toNat)
  case atStart => exact ⟨0, none, 0, Nat.zero_le _, rfl, rfl, hbk, Own.nil _ _ _ _ _, hb1⟩
  case round =>
    obtain ⟨j, A', c', hj, rfl, rfl, hbj, hown, hbr⟩ := hrel
    clear hbk hb1
    by_cases hlt : j < n
    · have hjl : j < ls.length := by rw [HN.out]; exact hlt
      obtain ⟨g, o, rfl, hgw, hcs⟩ := hr.at_ (by rw [sv_length]; omega)
      have hts := lens_succ hjl
      have hx6 := HSUM.out _ (List.getElem_mem hjl)
      have hfl := flat_len HSUM.out j
      have hft : (ls.take (j + 1)).flatten = (ls.take j).flatten ++ ls[j] := by rw [List.take_succ_eq_append_getElem hjl, List.flatten_append]; simp
      have hSof : ∀ u, Below w.heap.size w u → u.cell? ⟨g, o + j, none⟩ = some (.string (str ls[j])) := fun u hu => by
        rcases hr.below hu with h0 | ⟨g', o', he, hc⟩
        · exact absurd h0 (fun e => by have := sv_length ls; rw [e] at this; simp at this; omega)
        · injection he with he
          injection he with e1 e2
          subst e1 e2
          exact hc j _ (sv_at hjl)
      obtain ⟨b, hp⟩ : ∃ b, b = ls[j] := ⟨_, rfl⟩
      rw [← hp] at hSof hts hx6 hft
      obtain ⟨R, hR⟩ : ∃ R, R = (ls.take j).flatten := ⟨_, rfl⟩
      rw [← hR] at hfl hft ⊢
      have hcat := fun u => run_cat (P := Try.prog) R b (by omega) u
      have HTS := Lib.hid hts
      have HFT := Lib.hid hft
      have hbjd := hbj.drew
      have hownd := hown.drew
      have hbd := hbr.drew
      have hap := hown.blk_ne hbj (by decide)
      clear hcs hts hp hft hR
      go_upto_region 6 with fail
      refine wp_region_seqS (fun u => u.cell? ⟨g, o + j, none⟩ = some (.string (str b))) (.take 0 .addr (.take 2 .copy (.take 3 .copy (.take 4 .addr (.hold 5 (.take 6 (.len 9) (.fork 1 (.alone 7 (.alone 8 (.take 9 .addr (.alone 10 .fin)))) 7 (.alone 1 (.alone 8 (.take 9 .addr (.alone 10 .fin))))))))))) (by kernel_rfl) (by kernel_rfl) (by kernel_rfl) ?_ ?_
      · exact hSof _ hbd
      simp only [preS, nxtS, List.getElem?_toArray, List.getElem?_cons_zero, List.getElem?_cons_succ, opAt, ghosts, List.nil_append, gInt, ghost, List.cons_append]
      obtain ⟨wd, hwd⟩ : ∃ wd, wd = wr.drew := ⟨_, rfl⟩
      rw [← hwd] at hbjd hownd hbd ⊢
      have hbd1 := hbd.alloc hbd.size (.cells #[.int .i64 (b.length : Int)] 3)
      clear hwd hbj hown hbr
      have x5 := hbjd.cell 5
      have z5 := hbjd.frozen 5
      simp only [List.getElem?_toArray, List.getElem?_cons_succ, List.getElem?_cons_zero] at x5
      go_wp2_with fail
      refine next_hold (.string (str b)) rfl (hold_cell 9 _ rfl ⟨g, o + j, none⟩ rfl _ _ (fun u h => h) rfl Try.underlying9) ?_
      go_wp2_with fail
      refine next_fork ?_ ?_
      · go_wp2_with fail
        refine nextS (hSof _ hbd) ?_
        go_wp2_with fail
        refine nextS (hSof _ hbd1) ?_
        go_wp2_with (at_builtin; refine wpList_app _ rfl _ _ 43 43 rfl w.heap.size 3 i0 _ 1 8 Try.underlying43 HI0.out HZ0.out HZ1.out HZ2.out rfl A' j c' _ rfl (hownd.alloc _) _ 1 _ rfl (Src.new Try.underlying43 rfl (by simp [Value.oneCell'])) (by simp only [maxLen]; omega) (by omega) (Nat.le_trans hbd.size (by simp)) ?_; intro A3 c3 w3 hown3 hg3 hb3; refine Classical.byContradiction fun hstop => ?_)
        refine absurd ?_ hstop
        clear hstop
        rw [HTS.out] at hown3
        have hb3' := (hbjd.alloc (.cells #[.int .i64 (b.length : Int)] 3)).grown hg3 (fun hk => hap gb hk rfl)
        have hbr3 := hbd1.grown hg3 hbd1.size (fun i hi => (hownd.lt i hi).1)
        have y5 := hb3'.cell 5
        have yz5 := hb3'.frozen 5
        simp only [List.getElem?_toArray, List.getElem?_cons_succ, List.getElem?_cons_zero] at y5
        have hst := hb3'.set_ 5 (.slice A3 (j + 1) c3)
        have hown4 := hown3.setCell (p := ⟨gb, 5, none⟩) (fun k hk => hown3.blk_ne hb3' (by decide) k hk) (.slice A3 (j + 1) c3)
        have hbr4 := hbr3.setCell (p := ⟨gb, 5, none⟩) hgbw (.slice A3 (j + 1) c3)
        refine nextS (hSof _ hbr3) ?_
        go_wp2_with fail
        refine nextS (hSof _ hbr4) ?_
        refine ends_normal ?_
        obtain ⟨w5, hw5⟩ : ∃ w5, w5 = w3.setCell ⟨gb, 5, none⟩ (.slice A3 (j + 1) c3) := ⟨_, rfl⟩
        rw [← hw5] at hst hown4 hbr4 ⊢
        have hc5 := hSof _ hbr4
        have HSOF := Lib.hid hSof
        clear hw5 hb3' hown3 hg3 hb3 y5 yz5 hbr3 hSof hap hbjd hownd hbd hbd1
        go_wp2_with fail
        go_roundw
        case rel => exact ⟨j + 1, A3, c3, by omega, by go_num, by rw [HFT.out], hst, hown4, hbr4⟩
        case measure => simp [intOf]; omega
      · go_wp2_with fail
        refine nextS (hSof _ hbd1) ?_
        obtain ⟨y5, yz5⟩ : _ ∧ _ := ⟨(hbjd.alloc (.cells #[.int .i64 (b.length : Int)] 3)).cell 5, (hbjd.alloc (.cells #[.int .i64 (b.length : Int)] 3)).frozen 5⟩
        simp only [List.getElem?_toArray, List.getElem?_cons_succ, List.getElem?_cons_zero] at y5
        go_wp2_with fail
        refine nextS (hSof _ hbd1) ?_
        go_wp2_with (at_builtin; refine wpList_app _ rfl _ _ 43 43 rfl w.heap.size 3 i0 _ 1 8 Try.underlying43 HI0.out HZ0.out HZ1.out HZ2.out rfl A' j c' _ rfl (hownd.alloc _) _ 1 _ rfl (Src.new Try.underlying43 rfl (by simp [Value.oneCell'])) (by simp only [maxLen]; omega) (by omega) (Nat.le_trans hbd.size (by simp)) ?_; intro A3 c3 w3 hown3 hg3 hb3; refine Classical.byContradiction fun hstop => ?_)
        refine absurd ?_ hstop
        clear hstop
        rw [HTS.out] at hown3
        have hb3' := (hbjd.alloc (.cells #[.int .i64 (b.length : Int)] 3)).grown hg3 (fun hk => hap gb hk rfl)
        have hbr3 := hbd1.grown hg3 hbd1.size (fun i hi => (hownd.lt i hi).1)
        have y5 := hb3'.cell 5
        have yz5 := hb3'.frozen 5
        simp only [List.getElem?_toArray, List.getElem?_cons_succ, List.getElem?_cons_zero] at y5
        have hst := hb3'.set_ 5 (.slice A3 (j + 1) c3)
        have hown4 := hown3.setCell (p := ⟨gb, 5, none⟩) (fun k hk => hown3.blk_ne hb3' (by decide) k hk) (.slice A3 (j + 1) c3)
        have hbr4 := hbr3.setCell (p := ⟨gb, 5, none⟩) hgbw (.slice A3 (j + 1) c3)
        refine nextS (hSof _ hbr3) ?_
        go_wp2_with fail
        refine nextS (hSof _ hbr4) ?_
        refine ends_normal ?_
        obtain ⟨w5, hw5⟩ : ∃ w5, w5 = w3.setCell ⟨gb, 5, none⟩ (.slice A3 (j + 1) c3) := ⟨_, rfl⟩
        rw [← hw5] at hst hown4 hbr4 ⊢
        have hc5 := hSof _ hbr4
        have HSOF := Lib.hid hSof
        clear hw5 hb3' hown3 hg3 hb3 y5 yz5 hbr3 hSof hap hbjd hownd hbd hbd1
        go_wp2_with fail
        go_roundw
        case rel => exact ⟨j + 1, A3, c3, by omega, by go_num, by rw [HFT.out], hst, hown4, hbr4⟩
        case measure => simp [intOf]; omega
    · obtain rfl : j = n := by omega
      have htk : (lens ls).take j = lens ls := List.take_of_length_le (by unfold lens; rw [List.length_map, HN.out]; exact Nat.le_refl _)
      have htf : ls.take j = ls := List.take_of_length_le (by rw [HN.out]; exact Nat.le_refl _)
      have hfl := flat_len HSUM.out j
      rw [htf] at hfl ⊢
      rw [htk] at hown
      have hll : (lens ls).length = j := by unfold lens; rw [List.length_map, HN.out]
      have henc := rEncode5_any (withP h ls) A' c' wr hown.row (by show (lens ls).length ≤ _; omega) hnl
      have hag : (withP h ls).p.length = j := hll
      rw [hag] at henc
      have henc2 : Calls Try.prog 57 #[.agg #[.int .i64 h.b, .int .i64 h.z, .string (str h.n), .int .i64 h.g, .bool h.c, .slice A' j c']] wr fun e w' => e = .returned (.tuple #[.string (str (if (withP h ls).right then sealed (withP h ls).text else [])), .int .i64 (if (withP h ls).right then 0 else 50)]) ∧ Below wr.heap.size wr w' := henc
      have hjp : joinP h ls = if (withP h ls).right then (be 2 (sealed (withP h ls).text).length ++ sealed (withP h ls).text ++ ls.flatten, 0) else ([], 50) := rfl
      have htl := fun hr => text_le (h := withP h ls) hr
      obtain ⟨h', hh'⟩ : ∃ h', h' = withP h ls := ⟨_, rfl⟩
      rw [← hh'] at henc2 hjp htl
      obtain ⟨F, hF⟩ : ∃ F, F = ls.flatten := ⟨_, rfl⟩
      rw [← hF] at hfl hjp ⊢
      have x0 := hbj.cell 0
      have x1 := hbj.cell 1
      have x2 := hbj.cell 2
      have x3 := hbj.cell 3
      have x4 := hbj.cell 4
      have x5 := hbj.cell 5
      simp only [List.getElem?_toArray, List.getElem?_cons_succ, List.getElem?_cons_zero] at x0 x1 x2 x3 x4 x5
      obtain ⟨X, hX⟩ : ∃ X, X = sealed h'.text := ⟨_, rfl⟩
      have hxl : h'.right = true → X.length ≤ 104 := fun hr => by have := htl hr; rw [hX, sealed_length]; omega
      rw [← hX] at henc2 hjp
      obtain ⟨rt', hrt⟩ : ∃ rt', rt' = h'.right := ⟨_, rfl⟩
      rw [← hrt] at henc2 hjp hxl
      clear htk htf hll henc hag htl hh' hF hX hrt hbj hown hj hlt
      cases rt'
      · have HR := Lib.hid (show joinP h ls = ([], 50) from hjp)
        have henc3 : Calls Try.prog 57 #[.agg #[.int .i64 h.b, .int .i64 h.z, .string (str h.n), .int .i64 h.g, .bool h.c, .slice A' j c']] wr fun e w' => e = .returned (.tuple #[.string (str []), .int .i64 50]) ∧ Below wr.heap.size wr w' := henc2
        clear hjp hxl henc2
        go_wp2_with fail
        refine henc3.mono ?_
        rintro e w2 ⟨rfl, hb2⟩
        have hb02 := below_all hbr hb2
        clear henc3
        go_wp2_with fail
        go_ret2
        rw [HR.out]
        exact ⟨rfl, hb02⟩
      · have HR := Lib.hid (show joinP h ls = (be 2 X.length ++ X ++ F, 0) from hjp)
        have hxl2 := hxl rfl
        have henc3 : Calls Try.prog 57 #[.agg #[.int .i64 h.b, .int .i64 h.z, .string (str h.n), .int .i64 h.g, .bool h.c, .slice A' j c']] wr fun e w' => e = .returned (.tuple #[.string (str X), .int .i64 0]) ∧ Below wr.heap.size wr w' := henc2
        obtain ⟨m2, hm2⟩ : ∃ m2, m2 = X.length := ⟨_, rfl⟩
        have hm2' : X.length = m2 := hm2.symm
        rw [← hm2] at HR hxl2
        have hnum := fun u => num_any (m2 : Int) 2 u
        rw [num2 (show 0 ≤ (m2 : Int) ∧ (m2 : Int) < 65536 by omega), Int.toNat_natCast] at hnum
        have hc1 := fun u => run_cat (P := Try.prog) (be 2 m2) X (by rw [be_length, hm2']; omega) u
        have hc2 := fun u => run_cat (P := Try.prog) (be 2 m2 ++ X) F (by rw [List.length_append, be_length, hm2']; omega) u
        clear hjp hxl henc2 hm2
        go_wp2_with fail
        refine henc3.mono ?_
        rintro e w2 ⟨rfl, hb2⟩
        have hb02 := below_all hbr hb2
        clear henc3
        go_wp2_with fail
        refine (hnum _).mono ?_
        rintro e w3 ⟨rfl, hb3⟩
        have hb03 := below_all hb02 hb3
        go_wp2_with fail
        go_ret2
        rw [HR.out]
        exact ⟨rfl, hb03⟩
end Go.Proofs.Ytbljacafmkdlmaa
