/- pentimentoref01.Read. Conditions: the text is an int's length. -/
import Derived.Test.YtijogfjihnbmeaaRead
namespace Go.Proofs.Ytijogfjihnbmeaa
open Go.RowKit

theorem five_new (w : World) (A B C D E : Obj) : let u := ((((w.alloc A).alloc B).alloc C).alloc D).alloc E
    u.heap[w.heap.size]? = some A ∧ u.heap[w.heap.size + 1]? = some B ∧ u.heap[w.heap.size + 1 + 1]? = some C ∧ u.heap[w.heap.size + 1 + 1 + 1]? = some D ∧ u.heap[w.heap.size + 1 + 1 + 1 + 1]? = some E := by
  obtain ⟨h1, h2, h3⟩ := three_new w A B C
  have s3 : (((w.alloc A).alloc B).alloc C).heap.size = w.heap.size + 1 + 1 + 1 := by simp
  have s4 : ((((w.alloc A).alloc B).alloc C).alloc D).heap.size = w.heap.size + 1 + 1 + 1 + 1 := by simp
  have old : ∀ k, k < w.heap.size + 1 + 1 + 1 → (((((w.alloc A).alloc B).alloc C).alloc D).alloc E).heap[k]? = (((w.alloc A).alloc B).alloc C).heap[k]? := fun k hk => by
    rw [heap_alloc_old _ _ (by rw [s4]; omega), heap_alloc_old _ _ (by rw [s3]; omega)]
  refine ⟨?_, ?_, ?_, ?_, ?_⟩
  · rw [old _ (by omega)]; exact h3
  · rw [old _ (by omega)]; exact h1
  · rw [old _ (by omega)]; exact h2
  · rw [heap_alloc_old _ _ (by rw [s4]; omega)]
    have := heap_alloc_new (((w.alloc A).alloc B).alloc C) D
    rwa [s3] at this
  · have := heap_alloc_new ((((w.alloc A).alloc B).alloc C).alloc D) E
    rwa [s4] at this
theorem five_below (w : World) (A B C D E : Obj) : Below w.heap.size w (((((w.alloc A).alloc B).alloc C).alloc D).alloc E) :=
  (((((Below.refl _ _).alloc (Nat.le_refl _) _).alloc (by simp) _).alloc (by simp; omega) _).alloc (by simp; omega) _).alloc (by simp; omega) _

set_option maxHeartbeats 4000000 in
theorem rRead_any (l : List UInt8) (e0 k wd n : Int) (s : ByteArray) (w : World) (hsz : l.length ≤ 9223372036854775807) :
    Calls Try.prog 22 #[.agg #[.string (str l), .int .i64 e0], .agg #[.int .i64 k, .int .i64 wd, .int .i64 n, .string s]] w fun e w' =>
      e = .returned (.tuple #[.agg #[.string (str (rp l e0 k wd n).1), .int .i64 (rp l e0 k wd n).2.1], .agg #[.int .i64 k, .int .i64 wd, .int .i64 ((rp l e0 k wd n).2.2.1 : Int), .string (str (rp l e0 k wd n).2.2.2)]]) ∧ Below w.heap.size w w' := by
  by_cases h0 : k = 0
  · subst h0
    rw [rp_num]
    have hN := fun w => rReadNum_any l e0 wd w hsz
    obtain ⟨m, hm⟩ : ∃ m, m = nm l e0 wd := ⟨_, rfl⟩
    rw [← hm] at hN ⊢
    clear hm
    obtain ⟨l1, e1, x⟩ := m
    simp only at hN ⊢
    have HN := Lib.hid hN
    clear hN
    go_enter Try.func22, Try.ntmps22
    go_wp2_with fail
    refine (HN.out _).mono ?_
    rintro e w1 ⟨rfl, hb1⟩
    obtain ⟨n1, n2, n3, n4, n5⟩ := five_new w (.cells #[.string (str l), .int .i64 e0] 47) (.cells #[.int .i64 0, .int .i64 wd, .int .i64 n, .string s] 40) (.cells #[.string ⟨#[]⟩, .int .i64 0] 47) (.cells #[.int .i64 0, .int .i64 0, .int .i64 0, .string ⟨#[]⟩] 40) (.cells #[.int .i64 0, .int .i64 wd, .int .i64 0, .string ⟨#[]⟩] 40)
    have bw1 := (five_below w _ _ _ _ _).trans (hb1.mono (by simp; omega))
    have hA := Blk.belowAll n1 hb1
    have hC := Blk.belowAll n3 hb1
    have hD := Blk.belowAll n4 hb1
    have hE := Blk.belowAll n5 hb1
    clear n1 n2 n3 n4 n5 hb1
    obtain ⟨a1, a2, a3, a4, a5⟩ := hA.two
    obtain ⟨⟨b1, b2, b3, b4⟩, ⟨b5, b6, b7, b8⟩, b9⟩ := hE.four
    have hA2 : Blk ((w1.setCell ⟨w.heap.size, 0, none⟩ (.string (str l1))).setCell ⟨w.heap.size, 1, none⟩ (.int .i64 e1)) w.heap.size 47 #[.string (str l1), .int .i64 e1] := (hA.set_ 0 _).set_ 1 _
    have hC2 := (hC.far (p := ⟨w.heap.size, 0, none⟩) (by simp; omega) (.string (str l1))).far (p := ⟨w.heap.size, 1, none⟩) (by simp; omega) (.int .i64 e1)
    have hD2 := (hD.far (p := ⟨w.heap.size, 0, none⟩) (by simp; omega) (.string (str l1))).far (p := ⟨w.heap.size, 1, none⟩) (by simp; omega) (.int .i64 e1)
    have hE2 := (hE.far (p := ⟨w.heap.size, 0, none⟩) (by simp; omega) (.string (str l1))).far (p := ⟨w.heap.size, 1, none⟩) (by simp; omega) (.int .i64 e1)
    have bw2 := (bw1.setCell (p := ⟨w.heap.size, 0, none⟩) (Nat.le_refl _) (.string (str l1))).setCell (p := ⟨w.heap.size, 1, none⟩) (Nat.le_refl _) (.int .i64 e1)
    obtain ⟨⟨c1, c2, c3, c4⟩, ⟨c5, c6, c7, c8⟩, c9⟩ := hE2.four
    have hA3 := hA2.far (p := ⟨w.heap.size + 1 + 1 + 1 + 1, 2, none⟩) (by simp; omega) (.int .i64 (x : Int))
    have hC3 := hC2.far (p := ⟨w.heap.size + 1 + 1 + 1 + 1, 2, none⟩) (by simp) (.int .i64 (x : Int))
    have hD3 := hD2.far (p := ⟨w.heap.size + 1 + 1 + 1 + 1, 2, none⟩) (by simp) (.int .i64 (x : Int))
    have hE3 : Blk _ (w.heap.size + 1 + 1 + 1 + 1) 40 #[.int .i64 0, .int .i64 wd, .int .i64 (x : Int), .string ⟨#[]⟩] := hE2.set_ 2 (.int .i64 (x : Int))
    have bw3 := bw2.setCell (p := ⟨w.heap.size + 1 + 1 + 1 + 1, 2, none⟩) (by simp; omega) (.int .i64 (x : Int))
    obtain ⟨⟨d1, d2, d3, d4⟩, ⟨d5, d6, d7, d8⟩, d9⟩ := hE3.four
    obtain ⟨⟨f1, f2, f3, f4⟩, ⟨f5, f6, f7, f8⟩, f9⟩ := hD3.four
    obtain ⟨g1, g2, g3, g4, g5⟩ := hA3.two
    obtain ⟨i1, i2, i3, i4, i5⟩ := hC3.two
    have jC : Blk _ (w.heap.size + 1 + 1) 47 #[.string (str l1), .int .i64 e1] := (((((hC3.set_ 0 (.string (str l1))).set_ 1 (.int .i64 e1)).far (p := ⟨w.heap.size + 1 + 1 + 1, 0, none⟩) (by simp) (.int .i64 0)).far (p := ⟨w.heap.size + 1 + 1 + 1, 1, none⟩) (by simp) (.int .i64 wd)).far (p := ⟨w.heap.size + 1 + 1 + 1, 2, none⟩) (by simp) (.int .i64 (x : Int))).far (p := ⟨w.heap.size + 1 + 1 + 1, 3, none⟩) (by simp) (.string ⟨#[]⟩)
    have jD : Blk _ (w.heap.size + 1 + 1 + 1) 40 #[.int .i64 0, .int .i64 wd, .int .i64 (x : Int), .string ⟨#[]⟩] := ((((((hD3.far (p := ⟨w.heap.size + 1 + 1, 0, none⟩) (by simp) (.string (str l1))).far (p := ⟨w.heap.size + 1 + 1, 1, none⟩) (by simp) (.int .i64 e1)).set_ 0 (.int .i64 0)).set_ 1 (.int .i64 wd)).set_ 2 (.int .i64 (x : Int))).set_ 3 (.string ⟨#[]⟩))
    have jw := (((((bw3.setCell (p := ⟨w.heap.size + 1 + 1, 0, none⟩) (by simp; omega) (.string (str l1))).setCell (p := ⟨w.heap.size + 1 + 1, 1, none⟩) (by simp; omega) (.int .i64 e1)).setCell (p := ⟨w.heap.size + 1 + 1 + 1, 0, none⟩) (by simp; omega) (.int .i64 0)).setCell (p := ⟨w.heap.size + 1 + 1 + 1, 1, none⟩) (by simp; omega) (.int .i64 wd)).setCell (p := ⟨w.heap.size + 1 + 1 + 1, 2, none⟩) (by simp; omega) (.int .i64 (x : Int))).setCell (p := ⟨w.heap.size + 1 + 1 + 1, 3, none⟩) (by simp; omega) (.string ⟨#[]⟩)
    have JC := Lib.hid jC.drew
    have JD := Lib.hid jD.drew
    clear jC jD
    go_wp2_with fail
    go_region
    go_wp2_with fail
    (try simp only [Exit.inBlock, Exit.then])
    refine bodyPost_ret (results_row_row rfl _ _ _ _ 47 40 _ _ (0, 0) (0, 0) _ _ rfl JC.out Try.underlying47 rfl (rr_info _ _) rfl JD.out Try.underlying40 rfl (part_info _ _ _ _)) rfl ?_
    exact ⟨rfl, jw.drew⟩
  by_cases h1 : k = 1
  · subst h1
    rw [rp_text]
    have hN := fun w => rReadText_any l e0 wd w hsz
    obtain ⟨m, hm⟩ : ∃ m, m = tx l e0 wd := ⟨_, rfl⟩
    rw [← hm] at hN ⊢
    clear hm
    obtain ⟨l1, e1, x⟩ := m
    simp only at hN ⊢
    have HN := Lib.hid hN
    clear hN
    go_enter Try.func22, Try.ntmps22
    go_wp2_with fail
    refine (HN.out _).mono ?_
    rintro e w1 ⟨rfl, hb1⟩
    obtain ⟨n1, n2, n3, n4, n5⟩ := five_new w (.cells #[.string (str l), .int .i64 e0] 47) (.cells #[.int .i64 1, .int .i64 wd, .int .i64 n, .string s] 40) (.cells #[.string ⟨#[]⟩, .int .i64 0] 47) (.cells #[.int .i64 0, .int .i64 0, .int .i64 0, .string ⟨#[]⟩] 40) (.cells #[.int .i64 1, .int .i64 wd, .int .i64 0, .string ⟨#[]⟩] 40)
    have bw1 := (five_below w _ _ _ _ _).trans (hb1.mono (by simp; omega))
    have hA := Blk.belowAll n1 hb1
    have hC := Blk.belowAll n3 hb1
    have hD := Blk.belowAll n4 hb1
    have hE := Blk.belowAll n5 hb1
    clear n1 n2 n3 n4 n5 hb1
    obtain ⟨a1, a2, a3, a4, a5⟩ := hA.two
    obtain ⟨⟨b1, b2, b3, b4⟩, ⟨b5, b6, b7, b8⟩, b9⟩ := hE.four
    have hA2 : Blk ((w1.setCell ⟨w.heap.size, 0, none⟩ (.string (str l1))).setCell ⟨w.heap.size, 1, none⟩ (.int .i64 e1)) w.heap.size 47 #[.string (str l1), .int .i64 e1] := (hA.set_ 0 _).set_ 1 _
    have hC2 := (hC.far (p := ⟨w.heap.size, 0, none⟩) (by simp; omega) (.string (str l1))).far (p := ⟨w.heap.size, 1, none⟩) (by simp; omega) (.int .i64 e1)
    have hD2 := (hD.far (p := ⟨w.heap.size, 0, none⟩) (by simp; omega) (.string (str l1))).far (p := ⟨w.heap.size, 1, none⟩) (by simp; omega) (.int .i64 e1)
    have hE2 := (hE.far (p := ⟨w.heap.size, 0, none⟩) (by simp; omega) (.string (str l1))).far (p := ⟨w.heap.size, 1, none⟩) (by simp; omega) (.int .i64 e1)
    have bw2 := (bw1.setCell (p := ⟨w.heap.size, 0, none⟩) (Nat.le_refl _) (.string (str l1))).setCell (p := ⟨w.heap.size, 1, none⟩) (Nat.le_refl _) (.int .i64 e1)
    obtain ⟨⟨c1, c2, c3, c4⟩, ⟨c5, c6, c7, c8⟩, c9⟩ := hE2.four
    have hA3 := hA2.far (p := ⟨w.heap.size + 1 + 1 + 1 + 1, 3, none⟩) (by simp; omega) (.string (str x))
    have hC3 := hC2.far (p := ⟨w.heap.size + 1 + 1 + 1 + 1, 3, none⟩) (by simp) (.string (str x))
    have hD3 := hD2.far (p := ⟨w.heap.size + 1 + 1 + 1 + 1, 3, none⟩) (by simp) (.string (str x))
    have hE3 : Blk _ (w.heap.size + 1 + 1 + 1 + 1) 40 #[.int .i64 1, .int .i64 wd, .int .i64 0, .string (str x)] := hE2.set_ 3 (.string (str x))
    have bw3 := bw2.setCell (p := ⟨w.heap.size + 1 + 1 + 1 + 1, 3, none⟩) (by simp; omega) (.string (str x))
    obtain ⟨⟨d1, d2, d3, d4⟩, ⟨d5, d6, d7, d8⟩, d9⟩ := hE3.four
    obtain ⟨⟨f1, f2, f3, f4⟩, ⟨f5, f6, f7, f8⟩, f9⟩ := hD3.four
    obtain ⟨g1, g2, g3, g4, g5⟩ := hA3.two
    obtain ⟨i1, i2, i3, i4, i5⟩ := hC3.two
    have jC : Blk _ (w.heap.size + 1 + 1) 47 #[.string (str l1), .int .i64 e1] := (((((hC3.set_ 0 (.string (str l1))).set_ 1 (.int .i64 e1)).far (p := ⟨w.heap.size + 1 + 1 + 1, 0, none⟩) (by simp) (.int .i64 1)).far (p := ⟨w.heap.size + 1 + 1 + 1, 1, none⟩) (by simp) (.int .i64 wd)).far (p := ⟨w.heap.size + 1 + 1 + 1, 2, none⟩) (by simp) (.int .i64 0)).far (p := ⟨w.heap.size + 1 + 1 + 1, 3, none⟩) (by simp) (.string (str x))
    have jD : Blk _ (w.heap.size + 1 + 1 + 1) 40 #[.int .i64 1, .int .i64 wd, .int .i64 0, .string (str x)] := ((((((hD3.far (p := ⟨w.heap.size + 1 + 1, 0, none⟩) (by simp) (.string (str l1))).far (p := ⟨w.heap.size + 1 + 1, 1, none⟩) (by simp) (.int .i64 e1)).set_ 0 (.int .i64 1)).set_ 1 (.int .i64 wd)).set_ 2 (.int .i64 0)).set_ 3 (.string (str x)))
    have jw := (((((bw3.setCell (p := ⟨w.heap.size + 1 + 1, 0, none⟩) (by simp; omega) (.string (str l1))).setCell (p := ⟨w.heap.size + 1 + 1, 1, none⟩) (by simp; omega) (.int .i64 e1)).setCell (p := ⟨w.heap.size + 1 + 1 + 1, 0, none⟩) (by simp; omega) (.int .i64 1)).setCell (p := ⟨w.heap.size + 1 + 1 + 1, 1, none⟩) (by simp; omega) (.int .i64 wd)).setCell (p := ⟨w.heap.size + 1 + 1 + 1, 2, none⟩) (by simp; omega) (.int .i64 0)).setCell (p := ⟨w.heap.size + 1 + 1 + 1, 3, none⟩) (by simp; omega) (.string (str x))
    have JC := Lib.hid jC.drew
    have JD := Lib.hid jD.drew
    clear jC jD
    go_wp2_with fail
    go_region
    go_wp2_with fail
    (try simp only [Exit.inBlock, Exit.then])
    refine bodyPost_ret (results_row_row rfl _ _ _ _ 47 40 _ _ (0, 0) (0, 0) _ _ rfl JC.out Try.underlying47 rfl (rr_info _ _) rfl JD.out Try.underlying40 rfl (part_info _ _ _ _)) rfl ?_
    exact ⟨rfl, jw.drew⟩
  by_cases h2 : k = 2
  · subst h2
    rw [rp_skip]
    have hN := fun w => rSkip_any l e0 n w
    obtain ⟨m, hm⟩ : ∃ m, m = tk l e0 n (decide (n < 0)) := ⟨_, rfl⟩
    rw [← hm] at hN ⊢
    clear hm
    obtain ⟨l1, e1, x⟩ := m
    simp only at hN ⊢
    have HN := Lib.hid hN
    clear hN
    go_enter Try.func22, Try.ntmps22
    go_wp2_with fail
    refine (HN.out _).mono ?_
    rintro e w1 ⟨rfl, hb1⟩
    obtain ⟨n1, n2, n3, n4, n5⟩ := five_new w (.cells #[.string (str l), .int .i64 e0] 47) (.cells #[.int .i64 2, .int .i64 wd, .int .i64 n, .string s] 40) (.cells #[.string ⟨#[]⟩, .int .i64 0] 47) (.cells #[.int .i64 0, .int .i64 0, .int .i64 0, .string ⟨#[]⟩] 40) (.cells #[.int .i64 2, .int .i64 wd, .int .i64 0, .string ⟨#[]⟩] 40)
    have bw1 := (five_below w _ _ _ _ _).trans (hb1.mono (by simp; omega))
    have hA := Blk.belowAll n1 hb1
    have hC := Blk.belowAll n3 hb1
    have hD := Blk.belowAll n4 hb1
    have hE := Blk.belowAll n5 hb1
    clear n1 n2 n3 n4 n5 hb1
    obtain ⟨a1, a2, a3, a4, a5⟩ := hA.two
    obtain ⟨⟨b1, b2, b3, b4⟩, ⟨b5, b6, b7, b8⟩, b9⟩ := hE.four
    have hA2 : Blk ((w1.setCell ⟨w.heap.size, 0, none⟩ (.string (str l1))).setCell ⟨w.heap.size, 1, none⟩ (.int .i64 e1)) w.heap.size 47 #[.string (str l1), .int .i64 e1] := (hA.set_ 0 _).set_ 1 _
    have hC2 := (hC.far (p := ⟨w.heap.size, 0, none⟩) (by simp; omega) (.string (str l1))).far (p := ⟨w.heap.size, 1, none⟩) (by simp; omega) (.int .i64 e1)
    have hD2 := (hD.far (p := ⟨w.heap.size, 0, none⟩) (by simp; omega) (.string (str l1))).far (p := ⟨w.heap.size, 1, none⟩) (by simp; omega) (.int .i64 e1)
    have hE2 := (hE.far (p := ⟨w.heap.size, 0, none⟩) (by simp; omega) (.string (str l1))).far (p := ⟨w.heap.size, 1, none⟩) (by simp; omega) (.int .i64 e1)
    have bw2 := (bw1.setCell (p := ⟨w.heap.size, 0, none⟩) (Nat.le_refl _) (.string (str l1))).setCell (p := ⟨w.heap.size, 1, none⟩) (Nat.le_refl _) (.int .i64 e1)
    obtain ⟨⟨c1, c2, c3, c4⟩, ⟨c5, c6, c7, c8⟩, c9⟩ := hE2.four
    have hA3 := hA2
    have hC3 := hC2
    have hD3 := hD2
    have hE3 := hE2
    have bw3 := bw2
    obtain ⟨⟨d1, d2, d3, d4⟩, ⟨d5, d6, d7, d8⟩, d9⟩ := hE3.four
    obtain ⟨⟨f1, f2, f3, f4⟩, ⟨f5, f6, f7, f8⟩, f9⟩ := hD3.four
    obtain ⟨g1, g2, g3, g4, g5⟩ := hA3.two
    obtain ⟨i1, i2, i3, i4, i5⟩ := hC3.two
    have jC : Blk _ (w.heap.size + 1 + 1) 47 #[.string (str l1), .int .i64 e1] := (((((hC3.set_ 0 (.string (str l1))).set_ 1 (.int .i64 e1)).far (p := ⟨w.heap.size + 1 + 1 + 1, 0, none⟩) (by simp) (.int .i64 2)).far (p := ⟨w.heap.size + 1 + 1 + 1, 1, none⟩) (by simp) (.int .i64 wd)).far (p := ⟨w.heap.size + 1 + 1 + 1, 2, none⟩) (by simp) (.int .i64 0)).far (p := ⟨w.heap.size + 1 + 1 + 1, 3, none⟩) (by simp) (.string ⟨#[]⟩)
    have jD : Blk _ (w.heap.size + 1 + 1 + 1) 40 #[.int .i64 2, .int .i64 wd, .int .i64 0, .string ⟨#[]⟩] := ((((((hD3.far (p := ⟨w.heap.size + 1 + 1, 0, none⟩) (by simp) (.string (str l1))).far (p := ⟨w.heap.size + 1 + 1, 1, none⟩) (by simp) (.int .i64 e1)).set_ 0 (.int .i64 2)).set_ 1 (.int .i64 wd)).set_ 2 (.int .i64 0)).set_ 3 (.string ⟨#[]⟩))
    have jw := (((((bw3.setCell (p := ⟨w.heap.size + 1 + 1, 0, none⟩) (by simp; omega) (.string (str l1))).setCell (p := ⟨w.heap.size + 1 + 1, 1, none⟩) (by simp; omega) (.int .i64 e1)).setCell (p := ⟨w.heap.size + 1 + 1 + 1, 0, none⟩) (by simp; omega) (.int .i64 2)).setCell (p := ⟨w.heap.size + 1 + 1 + 1, 1, none⟩) (by simp; omega) (.int .i64 wd)).setCell (p := ⟨w.heap.size + 1 + 1 + 1, 2, none⟩) (by simp; omega) (.int .i64 0)).setCell (p := ⟨w.heap.size + 1 + 1 + 1, 3, none⟩) (by simp; omega) (.string ⟨#[]⟩)
    have JC := Lib.hid jC.drew
    have JD := Lib.hid jD.drew
    clear jC jD
    go_wp2_with fail
    go_region
    go_wp2_with fail
    (try simp only [Exit.inBlock, Exit.then])
    refine bodyPost_ret (results_row_row rfl _ _ _ _ 47 40 _ _ (0, 0) (0, 0) _ _ rfl JC.out Try.underlying47 rfl (rr_info _ _) rfl JD.out Try.underlying40 rfl (part_info _ _ _ _)) rfl ?_
    exact ⟨rfl, jw.drew⟩
  rw [rp_else l e0 wd n h0 h1 h2]
  have h0' : (k == 0) = false := by simpa using h0
  have h1' : (k == 1) = false := by simpa using h1
  have h2' : (k == 2) = false := by simpa using h2
  go_enter Try.func22, Try.ntmps22
  go_wp2_with fail
  go_region
  go_wp2_with fail
  (try simp only [Exit.inBlock, Exit.then])
  refine bodyPost_ret (results_row_row rfl _ _ _ _ 47 40 _ _ (0, 0) (0, 0) _ _ rfl (five_new w _ _ _ _ _).2.2.1 Try.underlying47 rfl (rr_info _ _) rfl (five_new w _ _ _ _ _).2.2.2.1 Try.underlying40 rfl (part_info _ _ _ _)) rfl ?_
  exact ⟨rfl, (five_below w _ _ _ _ _).drew⟩
end Go.Proofs.Ytijogfjihnbmeaa
