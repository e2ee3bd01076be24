/- The law OctetsReads. Conditions: the length of the bytes fits memory. -/
import Derived.Test.YtijogfjihnbmeaaPart
import Derived.Test.YtijogfjihnbmeaaRefRead
import Derived.Test.YtijogfjihnbmeaaAlive01
import Derived.Test.YtijogfjihnbmeaaSeqS
namespace Go.Proofs.Ytijogfjihnbmeaa
open Go.RowKit

theorem only_below' {w w1 w2 : World} {g : Nat} (h : Below w.heap.size w w1) (hg : w.heap.size ≤ g) (hon : Only w1 w2 (· = g)) : Below w.heap.size w w2 := below_only h (Nat.le_refl _) hg hon
theorem rp_len (l : List UInt8) (e k wd n : Int) : (rp l e k wd n).1.length ≤ l.length := by
  have ht : ∀ (l : List UInt8) e n b, (tk l e n b).1.length ≤ l.length := fun l e n b => by
    unfold tk
    split
    · exact Nat.le_refl _
    split
    · exact Nat.le_refl _
    split
    · exact Nat.le_refl _
    · rw [List.length_drop]; omega
  unfold rp
  split
  · exact nm_len _ _ _
  split
  · exact Nat.le_trans (ht _ _ _ _) (nm_len _ _ _)
  split
  · exact ht _ _ _ _
  · exact Nat.le_refl _

set_option maxHeartbeats 4000000 in
theorem reads_law (A A2 : Option Addr) (n c n2 c2 : Nat) (l : List UInt8) (ps : List Pt) (w : World) (hn : l.length = n) (hr : Row w A (bv l)) (hn2 : ps.length = n2) (hr2 : Row w A2 (pcells ps))
    (hsz : n ≤ 140737488355328) (hsz2 : n2 ≤ 140737488355328) :
    Calls Try.prog 8 #[.slice A n c, .slice A2 n2 c2] w fun e w' => e = .returned (.bool true) ∧ Below w.heap.size w w' := by
  have HN := Lib.hid hn
  have HN2 := Lib.hid hn2
  clear hn hn2
  by_cases h1 : 20000 < n
  · go_enter Try.func8, Try.ntmps8
    go_wp2_with fail
    refine (newReader_any A n c l w HN.out hr hsz).mono ?_
    rintro e w1 ⟨g, rfl, hg, hrd, hb1⟩
    go_wp2_with fail
    refine (alive_any w1).mono ?_
    rintro e w2 ⟨rfl, hb2⟩
    go_wp2_with fail
    go_ret
    exact ⟨rfl, below_all hb1 hb2⟩
  by_cases h2 : 200 < n2
  · go_enter Try.func8, Try.ntmps8
    go_wp2_with fail
    refine (newReader_any A n c l w HN.out hr hsz).mono ?_
    rintro e w1 ⟨g, rfl, hg, hrd, hb1⟩
    go_wp2_with fail
    refine (alive_any w1).mono ?_
    rintro e w2 ⟨rfl, hb2⟩
    go_wp2_with fail
    go_ret
    exact ⟨rfl, below_all hb1 hb2⟩
  go_enter Try.func8, Try.ntmps8
  go_wp2_with fail
  refine (newReader_any A n c l w HN.out hr hsz).mono ?_
  rintro e w1 ⟨g, rfl, hg, hrd, hb1⟩
  have hcv := run_string (P := Try.prog) HN.out 22 9 5 (c := c) Try.underlying22 Try.underlying5 Try.underlying9 (hr.below hb1)
  go_wp2_with fail
  clear hcv
  go_loopw [35] (fun i wr => ∃ (k : Nat) (l' : List UInt8) (e' : Int), k ≤ n2 ∧ i = .int .i64 k ∧ l'.length ≤ 20000 ∧ Rd wr g l' e' ∧ Blk wr w1.heap.size 47 #[.string (str l'), .int .i64 e'] ∧ g ≠ w1.heap.size ∧ Below w.heap.size w wr) (fun i _ => n2 - (intOf i).toNat)
  case atStart => exact ⟨0, l, 0, Nat.zero_le _, rfl, by have := HN.out; omega, hrd.alloc _, Blk.new _ _ _, by (obtain ⟨_, _, _, hb, _⟩ := hrd; have := hb.lt; omega), hb1.alloc hb1.size _⟩
  case round =>
    obtain ⟨k, l1, e1, hk, rfl, hl1, hrd1, hB1, hgne, hbel⟩ := hrel
    by_cases hlt : k < n2
    · have hkl : k < ps.length := by rw [HN2.out]; exact hlt
      obtain ⟨g2, o2, rfl, hg2, p1, p2, p3, p4⟩ := (hr2.below hbel).part hkl
      obtain ⟨pp, hpp⟩ : ∃ pp, pp = ps[k] := ⟨_, rfl⟩
      rw [← hpp] at p1 p2 p3 p4
      clear hpp
      obtain ⟨q1, q2, q3, q4, q5⟩ := hB1.two
      go_wp2_with fail
      have hR := fun w => rRead_any l1 e1 pp.k pp.wd pp.n pp.s w (by omega)
      have hL := fun w h => read_any g l1 e1 pp.k pp.wd pp.n pp.s w h
      have hlen := rp_len l1 e1 pp.k pp.wd pp.n
      obtain ⟨t, ht⟩ : ∃ t, t = rp l1 e1 pp.k pp.wd pp.n := ⟨_, rfl⟩
      rw [← ht] at hR hL hlen
      obtain ⟨l2, e2, x, y⟩ := t
      simp only at hR hL hlen
      clear ht
      refine (hR _).mono ?_
      rintro e w2 ⟨rfl, hb2⟩
      have HL := Lib.hid hL
      clear hL hR
      have hB6 := ((((hB1.alloc (.cells #[.int .i64 pp.k, .int .i64 pp.wd, .int .i64 pp.n, .string pp.s] 40)).belowAll hb2).alloc (.cells #[.string (str l2), .int .i64 e2] 47)).alloc (.cells #[.int .i64 pp.k, .int .i64 pp.wd, .int .i64 (x : Int), .string (str y)] 40))
      have hB8 := ((((Blk.new wr 40 #[.int .i64 pp.k, .int .i64 pp.wd, .int .i64 pp.n, .string pp.s]).belowAll hb2).alloc (.cells #[.string (str l2), .int .i64 e2] 47)).alloc (.cells #[.int .i64 pp.k, .int .i64 pp.wd, .int .i64 (x : Int), .string (str y)] 40))
      have hB10 := Blk.new (w2.alloc (.cells #[.string (str l2), .int .i64 e2] 47)) 40 #[.int .i64 pp.k, .int .i64 pp.wd, .int .i64 (x : Int), .string (str y)]
      obtain ⟨r1, r2, r3, r4, r5⟩ := hB6.two
      obtain ⟨⟨a1, a2, a3, a4⟩, ⟨a5, a6, a7, a8⟩, a9⟩ := hB8.four
      go_wp2_with fail
      have hC6 : Blk _ w1.heap.size 47 #[.string (str l2), .int .i64 e2] := (hB6.set_ 0 (.string (str l2))).set_ 1 (.int .i64 e2)
      have hne8 : wr.heap.size ≠ w1.heap.size := by have := hB1.lt; omega
      have hw2 := hb2.size
      rw [World.size_alloc] at hw2
      have hne10 : w2.heap.size + 1 ≠ w1.heap.size := by have := hB1.lt; omega
      have hC8 := (hB8.far (p := ⟨w1.heap.size, 0, none⟩) hne8 (.string (str l2))).far (p := ⟨w1.heap.size, 1, none⟩) hne8 (.int .i64 e2)
      have hC10 := (hB10.far (p := ⟨w1.heap.size, 0, none⟩) (by rw [World.size_alloc]; exact hne10) (.string (str l2))).far (p := ⟨w1.heap.size, 1, none⟩) (by rw [World.size_alloc]; exact hne10) (.int .i64 e2)
      rw [World.size_alloc] at hC10
      have hrd2 := ((((hrd1.alloc (.cells #[.int .i64 pp.k, .int .i64 pp.wd, .int .i64 pp.n, .string pp.s] 40)).only hb2).alloc (.cells #[.string (str l2), .int .i64 e2] 47)).alloc (.cells #[.int .i64 pp.k, .int .i64 pp.wd, .int .i64 (x : Int), .string (str y)] 40))
      have hrd3 := (hrd2.apart hB6 rfl hgne 0 (.string (str l2))).apart (hB6.set_ 0 (.string (str l2))) rfl hgne 1 (.int .i64 e2)
      have hbw2 : Below w.heap.size w w2 := (hbel.alloc hbel.size _).trans (hb2.mono (by rw [World.size_alloc]; have := hbel.size; omega))
      have hw1s := hb1.size
      have hbw3 := ((((hbw2.alloc hbw2.size (.cells #[.string (str l2), .int .i64 e2] 47)).alloc (by rw [World.size_alloc]; have := hbw2.size; omega) (.cells #[.int .i64 pp.k, .int .i64 pp.wd, .int .i64 (x : Int), .string (str y)] 40)).setCell (p := ⟨w1.heap.size, 0, none⟩) hw1s (.string (str l2))).setCell (p := ⟨w1.heap.size, 1, none⟩) hw1s (.int .i64 e2))
      obtain ⟨w3, hw3⟩ : ∃ w3, w3 = ((((w2.alloc (.cells #[.string (str l2), .int .i64 e2] 47)).alloc (.cells #[.int .i64 pp.k, .int .i64 pp.wd, .int .i64 (x : Int), .string (str y)] 40)).setCell ⟨w1.heap.size, 0, none⟩ (.string (str l2))).setCell ⟨w1.heap.size, 1, none⟩ (.int .i64 e2)) := ⟨_, rfl⟩
      rw [← hw3] at hC6 hC8 hC10 hrd3 hbw3 ⊢
      clear hw3 hB6 hB8 hB10 r1 r2 r3 r4 r5 a1 a2 a3 a4 a5 a6 a7 a8 a9 hrd2 hbw2 q1 q2 q3 q4 q5
      refine wp_region_seqS ((fun u => Blk u w1.heap.size 47 #[.string (str l2), .int .i64 e2] ∧ Blk u wr.heap.size 40 #[.int .i64 pp.k, .int .i64 pp.wd, .int .i64 pp.n, .string pp.s] ∧ Blk u (w2.heap.size + 1) 40 #[.int .i64 pp.k, .int .i64 pp.wd, .int .i64 (x : Int), .string (str y)])) (.take 0 .copy (.hold 1 (.hold 3 (.alone 2 (.alone 4 (.take 5 .copy (.take 6 .copy (.take 8 .addr (.hold 9 (.alone 7 (.take 10 .int2 (.take 11 .copy (.take 12 .copy (.take 13 .copy (.hold 15 (.alone 14 (.alone 16 (.take 17 .int2 (.take 18 .copy (.take 19 .copy (.take 20 .copy (.take 22 .addr (.hold 23 (.take 24 (.len 9) (.alone 21 (.take 25 .int2 (.take 26 .copy (.take 27 .addr (.hold 28 (.take 29 .int2 (.take 30 .copy (.take 31 .copy .fin)))))))))))))))))))))))))))))))) (by kernel_rfl) (by kernel_rfl) (by kernel_rfl) ?_ ?_
      · exact ⟨hC6.drew, hC8.drew, hC10.drew⟩
      simp only [preS, nxtS, List.getElem?_toArray, List.getElem?_cons_zero, List.getElem?_cons_succ, opAt, ghosts, List.nil_append, gInt, ghost, List.cons_append]
      go_wp2_with fail
      refine next_hold (.agg #[.int .i64 pp.k, .int .i64 pp.wd, .int .i64 pp.n, .string pp.s]) rfl (hold_row _ _ rfl _ rfl _ _ _ (fun u h => h.2.1) Try.underlying40 rfl (part_info _ _ _ _)) ?_
      go_wp2_with fail
      refine next_hold (.agg #[.int .i64 pp.k, .int .i64 pp.wd, .int .i64 (x : Int), .string (str y)]) rfl (hold_row _ _ rfl _ rfl _ _ _ (fun u h => h.2.2) Try.underlying40 rfl (part_info _ _ _ _)) ?_
      go_wp2_with fail
      refine (HL.out _ hrd3.drew).mono ?_
      rintro e w4 ⟨rfl, hrd4, hon4⟩
      have hg8 : ¬ wr.heap.size = g := by (obtain ⟨_, _, _, hb, _⟩ := hrd1; have := hb.lt; omega)
      have hg10 : ¬ w2.heap.size + 1 = g := by (obtain ⟨_, _, _, hb, _⟩ := hrd1; have := hb.lt; omega)
      have hD6 := hC6.drew.only hon4 (fun h => hgne h.symm)
      have hD8 := hC8.drew.only hon4 hg8
      have hD10 := hC10.drew.only hon4 hg10
      have hbw4 := only_below' hbw3.drew hg hon4
      go_wp2_with fail
      refine nextS ⟨hD6, hD8, hD10⟩ ?_
      go_wp2_with fail
      refine nextS ⟨hD6, hD8, hD10⟩ ?_
      go_wp2_with fail
      refine next_hold (.int .i64 e2) rfl (hold_cell _ _ rfl ⟨w1.heap.size, 1, none⟩ rfl _ _ (fun u h => h.1.cell 1) rfl Try.underlying42) ?_
      go_wp2_with fail
      refine (err_any g l2 e2 _ hrd4).mono ?_
      rintro e w5 ⟨rfl, rfl⟩
      go_wp2_with fail
      refine nextS ⟨hD6, hD8, hD10⟩ ?_
      go_wp2_with fail
      refine next_hold (.agg #[.string (str l2), .int .i64 e2]) rfl (hold_row _ _ rfl _ rfl _ _ _ (fun u h => h.1) Try.underlying47 rfl (rr_info _ _)) ?_
      go_wp2_with fail
      refine (end_any g l2 e2 _ hrd4).mono ?_
      rintro e w5 ⟨rfl, rfl⟩
      go_wp2_with fail
      refine nextS ⟨hD6, hD8, hD10⟩ ?_
      go_wp2_with fail
      refine (rEnd_any l2 e2 _).mono ?_
      rintro e w5 ⟨rfl, hb5⟩
      have hD6' := hD6.belowAll hb5
      have hD8' := hD8.belowAll hb5
      have hD10' := hD10.belowAll hb5
      have hrd5 := hrd4.only hb5
      have hbw5 := below_all hbw4 hb5
      go_wp2_with fail
      refine nextS ⟨hD6', hD8', hD10'⟩ ?_
      go_wp2_with fail
      refine next_hold (.string (str l2)) rfl (hold_cell _ _ rfl ⟨w1.heap.size, 0, none⟩ rfl _ _ (fun u h => h.1.cell 0) rfl Try.underlying9) ?_
      go_wp2_with fail
      refine (left_any g l2 e2 _ hrd5).mono ?_
      rintro e w6 ⟨rfl, rfl⟩
      go_wp2_with fail
      refine nextS ⟨hD6', hD8', hD10'⟩ ?_
      go_wp2_with fail
      refine next_pass rfl ?_
      go_wp2_with fail
      refine ends_normal ?_
      go_wp2_with fail
      go_roundw
      case rel => exact ⟨k + 1, l2, e2, by omega, by go_num, by omega, hrd5.drew, hD6', hgne, hbw5⟩
      case measure => simp [intOf]; omega
    · obtain rfl : k = n2 := by omega
      go_wp2_with fail
      refine (alive_any wr).mono ?_
      rintro e w2 ⟨rfl, hb2⟩
      go_wp2_with fail
      go_ret
      exact ⟨rfl, below_all hbel hb2⟩
end Go.Proofs.Ytijogfjihnbmeaa
