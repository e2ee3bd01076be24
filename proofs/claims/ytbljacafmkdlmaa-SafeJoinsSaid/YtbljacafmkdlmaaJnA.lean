/- safe.Join. Condition: the parts' lengths fit memory. -/
import Derived.Test.YtbljacafmkdlmaaMgE
import Derived.Test.YtbljacafmkdlmaaHe
namespace Go.Proofs.Ytbljacafmkdlmaa
set_option maxRecDepth 100000
open Go.RowKit
set_option linter.unusedSimpArgs false
set_option linter.unusedVariables false

def JoinPost (w : World) (r : List UInt8 × Int) (e : Ending) (w' : World) : Prop :=
  ∃ A m c, e = .returned (.tuple #[.slice A m c, .int .i64 r.2]) ∧ r.1.length = m ∧ m ≤ c ∧ Row w' A (bv r.1) ∧ Below w.heap.size w w'
def lens (ls : List (List UInt8)) : List Int := ls.map fun x => (x.length : Int)
theorem lens_succ {ls : List (List UInt8)} {j : Nat} (h : j < ls.length) : iv ((lens ls).take j) ++ [.int .i64 (ls[j].length : Int)] = iv ((lens ls).take (j + 1)) := by
  have h' : j < (lens ls).length := by unfold lens; rw [List.length_map]; exact h
  rw [List.take_succ_eq_append_getElem h', iv_append]
  have e : (lens ls)[j] = (ls[j].length : Int) := by simp [lens]
  rw [e]
  rfl
theorem text_le {h : Hd} (hr : h.right = true) : h.text.length ≤ 100 := by
  unfold Hd.right at hr
  simp only [Bool.and_eq_true, Bool.or_eq_true, decide_eq_true_eq] at hr
  obtain ⟨⟨⟨⟨_, hn⟩, _⟩, hp⟩, _⟩ := hr
  have hn15 : h.n.length ≤ 15 := by
    rcases hn with hn | hn
    · rw [hn]; exact Nat.zero_le _
    · unfold nameOK at hn
      simp only [Bool.and_eq_true, decide_eq_true_eq] at hn
      exact hn.2
  have hf : ∀ l : List Int, (l.flatMap fun x => be 2 x.toNat).length = 2 * l.length := fun l => by
    induction l with
    | nil => rfl
    | cons x l ih => rw [List.flatMap_cons, List.length_append, be_length, ih, List.length_cons]; omega
  unfold Hd.text
  simp only [List.length_append, be_length, hf]
  have : magic.length = 10 := rfl
  omega
set_option maxHeartbeats 4000000 in
theorem join_any (h : Hd) (P0 : Option Addr) (q0 cp : Nat) (A : Option Addr) (n c : Nat) (ps : List Piece) (w : World) (hn : ps.length = n) (hr : Row w A (pv ps)) (hn47 : n ≤ 1000) (hps : Pieces w ps) (hsum : ∀ p : Piece, p ∈ ps → p.l.length ≤ p.c ∧ p.l.length ≤ 1000000) (hnl : h.n.length ≤ 140737488355328) :
    Calls Try.prog 23 #[.agg #[.int .i64 h.b, .int .i64 h.z, .string (str h.n), .int .i64 h.g, .bool h.c, .slice P0 q0 cp], .slice A n c] w (JoinPost w (joinP h (ps.map Piece.l))) := by
  obtain ⟨i0, hi0, hz0, hz1, hz2⟩ := info_parts info_int
  have HN := Lib.hid hn
  have HPS := Lib.hid hps
  have HSUM := Lib.hid hsum
  have HZ0 := Lib.hid hz0
  have HZ1 := Lib.hid hz1
  have HZ2 := Lib.hid hz2
  have HI0 := Lib.hid hi0
  have hbk := Blk.new w 60 #[.int .i64 h.b, .int .i64 h.z, .string (str h.n), .int .i64 h.g, .bool h.c, .slice none 0 0]
  have hb1 : Below w.heap.size w (w.alloc (.cells #[.int .i64 h.b, .int .i64 h.z, .string (str h.n), .int .i64 h.g, .bool h.c, .slice none 0 0] 60)) := (Below.refl _ w).alloc (Nat.le_refl _) _
  obtain ⟨gb, hgb⟩ : ∃ gb, gb = w.heap.size := ⟨_, rfl⟩
  rw [← hgb] at hbk
  obtain ⟨w1, hw1⟩ : ∃ w1, w1 = w.alloc (.cells #[.int .i64 h.b, .int .i64 h.z, .string (str h.n), .int .i64 h.g, .bool h.c, .slice none 0 0] 60) := ⟨_, rfl⟩
  rw [← hw1] at hbk hb1
  have HW1 := Lib.hid hw1
  have HGB := Lib.hid hgb
  have hgbw : w.heap.size ≤ gb := by omega
  clear hn hps hsum hz0 hz1 hz2 hi0 hw1 hgb
  go_enter Try.func23, Try.ntmps23
  go_wp2_with fail
  rw [← HW1.out, ← HGB.out]
  clear HW1
  go_loopw [17] (fun i wr => ∃ (j : Nat) (A' : Option Addr) (c' : Nat), j ≤ n ∧ i = .int .i64 j ∧ Blk wr gb 60 #[.int .i64 h.b, .int .i64 h.z, .string (str h.n), .int .i64 h.g, .bool h.c, .slice A' j c'] ∧ Own wr w.heap.size 3 1 A' j c' (iv ((lens (ps.map Piece.l)).take j)) ∧ Below w.heap.size w wr)
    (fun i _ => n - (intOf i).toNat)
  case atStart => exact ⟨0, none, 0, Nat.zero_le _, rfl, hbk, Own.nil _ _ _ _ _, hb1⟩
  case round =>
    obtain ⟨j, A', c', hj, rfl, hbj, hown, hbr⟩ := hrel
    clear hbk hb1
    by_cases hlt : j < n
    · have hjl : j < ps.length := by rw [HN.out]; exact hlt
      have hrr := hr.below hbr
      obtain ⟨g, o, rfl, hgw, hcs⟩ := hrr.at_ (by rw [pv_length]; omega)
      have hc0a := hcs j _ (pv_at hjl)
      have hts := lens_succ (ls := ps.map Piece.l) (j := j) (by rw [List.length_map]; exact hjl)
      rw [List.getElem_map] at hts
      obtain ⟨⟨Ab, cb, b⟩, hp⟩ : ∃ p, p = ps[j] := ⟨_, rfl⟩
      rw [← hp] at hc0a hts
      have hc0 : wr.cell? ⟨g, o + j, none⟩ = some (.slice Ab b.length cb) := hc0a
      have x5 := hbj.cell 5
      have z5 := hbj.frozen 5
      simp only [List.getElem?_toArray, List.getElem?_cons_succ, List.getElem?_cons_zero] at x5
      have HTS := Lib.hid hts
      have hi0 := HI0.out
      have hz0 := HZ0.out
      have hz1 := HZ1.out
      have hz2 := HZ2.out
      have hap := hown.blk_ne hbj (by decide)
      clear hc0a hcs hrr hts hp
      go_wp2_with (at_builtin; refine wpList_app _ rfl _ _ 43 43 rfl w.heap.size 3 i0 _ 1 8 Try.underlying43 hi0 hz0 hz1 hz2 rfl A' j c' _ rfl (hown.alloc _) _ 1 _ rfl (Src.new Try.underlying43 rfl (by simp [Value.oneCell'])) (by simp only [maxLen]; omega) (by omega) (Nat.le_trans hbr.size (by simp)) ?_; intro A3 c3 w3 hown3 hg3 hb3; refine Classical.byContradiction fun hstop => ?_)
      refine absurd ?_ hstop
      clear hstop
      rw [HTS.out] at hown3
      have hb3' := (hbj.alloc (.cells #[.int .i64 (b.length : Int)] 3)).grown hg3 (fun hk => hap gb hk rfl)
      have y5 := hb3'.cell 5
      have yz5 := hb3'.frozen 5
      simp only [List.getElem?_toArray, List.getElem?_cons_succ, List.getElem?_cons_zero] at y5
      have hst := hb3'.set_ 5 (.slice A3 (j + 1) c3)
      have hown4 := hown3.setCell (p := ⟨gb, 5, none⟩) (fun k hk => hown3.blk_ne hb3' (by decide) k hk) (.slice A3 (j + 1) c3)
      have hbr3 := ((hbr.alloc hbr.size (.cells #[.int .i64 (b.length : Int)] 3)).grown hg3 (Nat.le_trans hbr.size (by simp)) (fun i hi => (hown.lt i hi).1)).setCell (p := ⟨gb, 5, none⟩) hgbw (.slice A3 (j + 1) c3)
      clear hb3' hown3 hg3 hb3 hown hbr hbj x5 z5
      go_wp2_with fail
      go_roundw
      case rel => exact ⟨j + 1, A3, c3, by omega, by go_num, hst, hown4, hbr3⟩
      case measure => simp [intOf]; omega
    · obtain rfl : j = n := by omega
      have htk : (lens (ps.map Piece.l)).take j = lens (ps.map Piece.l) := List.take_of_length_le (by unfold lens; rw [List.length_map, List.length_map, HN.out]; exact Nat.le_refl _)
      rw [htk] at hown
      have hll : (lens (ps.map Piece.l)).length = j := by unfold lens; rw [List.length_map, List.length_map, HN.out]
      have henc := hEncode_any (withP h (ps.map Piece.l)) A' c' wr hown.row (by show (lens (ps.map Piece.l)).length ≤ _; omega) hnl
      have hag : (withP h (ps.map Piece.l)).p.length = j := hll
      have x0 := hbj.cell 0
      have x1 := hbj.cell 1
      have x2 := hbj.cell 2
      have x3 := hbj.cell 3
      have x4 := hbj.cell 4
      have x5 := hbj.cell 5
      simp only [List.getElem?_toArray, List.getElem?_cons_succ, List.getElem?_cons_zero] at x0 x1 x2 x3 x4 x5
      rw [hag] at henc
      have hjp : joinP h (ps.map Piece.l) = if (withP h (ps.map Piece.l)).right then (be 2 (sealed (withP h (ps.map Piece.l)).text).length ++ sealed (withP h (ps.map Piece.l)).text ++ (ps.map Piece.l).flatten, 0) else ([], 50) := rfl
      have htl := fun hr => text_le (h := withP h (ps.map Piece.l)) hr
      have henc2 : Calls Try.prog 55 #[.agg #[.int .i64 h.b, .int .i64 h.z, .string (str h.n), .int .i64 h.g, .bool h.c, .slice A' j c']] wr (EncPost wr (withP h (ps.map Piece.l))) := henc
      obtain ⟨h', hh'⟩ : ∃ h', h' = withP h (ps.map Piece.l) := ⟨_, rfl⟩
      rw [← hh'] at henc2 hjp htl
      have HJP := Lib.hid hjp
      have HTL := Lib.hid htl
      clear htk hll hag henc hjp hh' htl
      go_wp2_with fail
      refine henc2.mono ?_
      rintro e w2 ⟨⟨hrt, rfl⟩ | ⟨hrt, A2, c2, rfl, hown2⟩, hb2⟩
      · have hr50 : joinP h (ps.map Piece.l) = ([], 50) := by rw [HJP.out, hrt]; rfl
        have HR := Lib.hid hr50
        have hb02 := below_all hbr hb2
        clear hr50 hrt henc2
        go_wp2_with fail
        go_ret2
        rw [HR.out]
        exact ⟨none, 0, 0, rfl, rfl, Nat.le_refl _, Row.nil _ _, hb02⟩
      · have hr0 : joinP h (ps.map Piece.l) = (be 2 (sealed h'.text).length ++ sealed h'.text ++ (ps.map Piece.l).flatten, 0) := by rw [HJP.out, if_pos hrt]
        have HR := Lib.hid hr0
        have hxl : (sealed h'.text).length ≤ 104 := by rw [sealed_length]; have := HTL.out hrt; omega
        have hb02 := below_all hbr hb2
        obtain ⟨X, hX⟩ : ∃ X, X = sealed h'.text := ⟨_, rfl⟩
        rw [← hX] at hown2 hxl HR ⊢
        obtain ⟨m2, hm2⟩ : ∃ m2, m2 = X.length := ⟨_, rfl⟩
        rw [← hm2] at hown2 hxl ⊢
        have hrs := run_string (P := Try.prog) hm2.symm 23 9 5 (c := c2) Try.underlying23 Try.underlying5 Try.underlying9 hown2.row
        have htx := textA_any w2.heap.size none 0 0 2 2 rfl X [] (0 + 2 + X.length) w2 (Nat.le_refl _) (Own.nil _ _ _ _ _) rfl (by rw [ft_two]; rw [← hm2]; simp; omega) rfl (by rw [← hm2]; omega)
        rw [← hm2] at htx
        have HM2 := Lib.hid hm2
        clear hX hm2 hr0 hrt henc2 hown2 hb2 hbr hown hbj x0 x1 x2 x3 x4 x5
        go_wp2_with fail
        refine htx.mono ?_
        rintro e w3 ⟨A3, c3, rfl, hown3, hb3⟩
        rw [List.nil_append] at hown3
        have hm0 : (0 + 2 + m2 : Nat) = m2 + 2 := by omega
        rw [hm0] at hown3 ⊢
        have hb03 := below_all hb02 hb3
        have h23 : w2.heap.size ≤ w3.heap.size := hb3.size
        have h02 : w.heap.size ≤ w2.heap.size := hb02.size
        obtain ⟨i1, hi1, hy0, hy1, hy2⟩ := info_parts info_u8
        obtain ⟨Y, hY⟩ : ∃ Y, Y = be 2 m2 ++ X := ⟨_, rfl⟩
        rw [← hY] at hown3
        have HY := Lib.hid hY
        clear hm0 hb3 hb02 htx hrs hY
        go_wp2_with fail
        go_loopw [10, 45] (fun v i wr => ∃ (q : Nat) (A' : Option Addr) (m' c' : Nat), q ≤ j ∧ i = .int .i64 q ∧ v = .slice A' m' c' ∧ Own wr w2.heap.size 5 1 A' m' c' (bv (Y ++ ((ps.map Piece.l).take q).flatten)) ∧ Below w.heap.size w wr ∧ m' ≤ 106 + 1000000 * q ∧ w2.heap.size ≤ wr.heap.size)
          (fun _ i _ => j - (intOf i).toNat)
        case atStart => exact ⟨0, A3, m2 + 2, c3, Nat.zero_le _, rfl, rfl, by rw [List.take_zero, List.flatten_nil, List.append_nil]; exact hown3, hb03, by omega, h23⟩
        case round =>
          obtain ⟨q, A', m', c', hq, rfl, rfl, hown, hbr, hm', h2r⟩ := hrel
          clear hown3 hb03 h23
          by_cases hlt : q < j
          · have hql : q < ps.length := by rw [HN.out]; exact hlt
            have hrr := hr.below hbr
            obtain ⟨g, o, rfl, hgw, hcs⟩ := hrr.at_ (by rw [pv_length]; omega)
            have hc0a := hcs q _ (pv_at hql)
            have hpr := (HPS.out _ (List.getElem_mem hql)).below hbr
            have hp6 := (HSUM.out _ (List.getElem_mem hql)).2
            have hts : bv (Y ++ ((ps.map Piece.l).take q).flatten) ++ bv ps[q].l = bv (Y ++ ((ps.map Piece.l).take (q + 1)).flatten) := by
              rw [List.take_succ_eq_append_getElem (by rw [List.length_map]; exact hql), List.flatten_append, ← bv_append, List.append_assoc, List.getElem_map]
              simp
            obtain ⟨⟨Ab, cb, b⟩, hp⟩ : ∃ p, p = ps[q] := ⟨_, rfl⟩
            rw [← hp] at hc0a hpr hp6 hts
            simp only at hpr hp6 hts
            have hc0 : wr.cell? ⟨g, o + q, none⟩ = some (.slice Ab b.length cb) := hc0a
            obtain ⟨nb, hnb⟩ : ∃ nb, nb = b.length := ⟨_, rfl⟩
            rw [← hnb] at hc0 hp6
            have HNB := Lib.hid hnb
            have HTS := Lib.hid hts
            have hsrc : Src Try.prog wr 23 (.slice Ab nb cb) 1 nb (bv b) := Src.slice Try.underlying23 hpr (by rw [bv_length, HNB.out, Nat.mul_one]) (bv_one b)
            have HSRC := Lib.hid hsrc
            clear hc0a hcs hrr hts hp hnb hsrc
            go_wp2_with (at_builtin; refine wpList_app _ rfl _ _ 23 23 rfl w2.heap.size 5 i1 _ 1 1 Try.underlying23 hi1 hy0 hy1 hy2 rfl A' m' c' _ rfl hown _ nb (bv b) rfl HSRC.out (by simp only [maxLen]; omega) (by omega) h2r ?_; intro A5 c5 w5 hown5 hg5 hb5; rw [HTS.out] at hown5)
            go_roundw
            case rel => exact ⟨q + 1, A5, m' + nb, c5, by omega, by go_num, rfl, hown5, hbr.grown hg5 hbr.size (fun i hi => by have := (hown.lt i hi).1; omega), by omega, Nat.le_trans h2r hg5.size⟩
            case measure => simp [intOf]; omega
          · obtain rfl : q = j := by omega
            have htk2 : (ps.map Piece.l).take q = ps.map Piece.l := List.take_of_length_le (by rw [List.length_map, HN.out]; exact Nat.le_refl _)
            rw [htk2] at hown
            clear htk2
            go_wp2_with fail
            go_ret2
            rw [HR.out, ← HM2.out, ← HY.out]
            exact ⟨A', m', c', rfl, by have h1 := hown.1; rw [bv_length, Nat.mul_one] at h1; exact h1, hown.2.1, hown.row, hbr⟩
end Go.Proofs.Ytbljacafmkdlmaa
