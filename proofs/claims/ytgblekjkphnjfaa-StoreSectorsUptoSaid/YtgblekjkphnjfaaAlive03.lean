/- pentimentolaw03.alive: it answers true. No condition. -/
import Derived.Test.YtgblekjkphnjfaaStn
namespace Go.Proofs.Ytgblekjkphnjfaa
open Go.RowKit
set_option linter.unusedSimpArgs false

def la3 : List UInt8 := [97, 0, 0, 0, 0, 0, 0, 0, 0, 0, 0, 0, 0, 0, 0, 0]
def lb3 : List UInt8 := [98, 0, 0, 0, 0, 0, 0, 0, 0, 0, 0, 0, 0, 0, 0, 0]
def lz3 : List UInt8 := List.replicate 32 0
theorem al1 : doW ⟨4, 4, [], 0⟩ 0 la3 = (⟨4, 4, [(0, la3)], 0⟩, 0) := by kernel_rfl
theorem al3 : doW ⟨4, 4, [(0, la3)], 1⟩ 0 lb3 = (⟨4, 4, [(0, la3), (0, lb3)], 1⟩, 0) := by kernel_rfl
theorem al4 : doC ⟨4, 4, [(0, la3), (0, lb3)], 1⟩ [] = ⟨4, 4, [(0, la3)], 1⟩ := by kernel_rfl
theorem al5 : rdS ⟨4, 4, [(0, la3)], 1⟩ 0 1 = (la3, 0) := by kernel_rfl
theorem al6 : (doW ⟨4, 4, [(0, la3)], 1⟩ 3 lz3).2 = 31 := by kernel_rfl
theorem Row.of_blk {w : World} {g : Nat} {t : TypeId} {xs : List Value} (h : Blk w g t xs.toArray) : Row w (some ⟨g, 0, none⟩) xs := .inr ⟨g, 0, rfl, fun j u hu => by rw [Nat.zero_add, h.cell j]; simpa using hu⟩
theorem make32 (u : World) : (Instr.makeSlice 29 (.int .i64 32) (.int .i64 32)).run Try.prog u = .ok (.slice (some ⟨u.heap.size, 0, none⟩) 32 32) (u.alloc (.cells #[.int .u8 0, .int .u8 0, .int .u8 0, .int .u8 0, .int .u8 0, .int .u8 0, .int .u8 0, .int .u8 0, .int .u8 0, .int .u8 0, .int .u8 0, .int .u8 0, .int .u8 0, .int .u8 0, .int .u8 0, .int .u8 0, .int .u8 0, .int .u8 0, .int .u8 0, .int .u8 0, .int .u8 0, .int .u8 0, .int .u8 0, .int .u8 0, .int .u8 0, .int .u8 0, .int .u8 0, .int .u8 0, .int .u8 0, .int .u8 0, .int .u8 0, .int .u8 0] 5)) := by
  obtain ⟨i0, hi0, hz0, hz1, hz2⟩ := info_parts info_u8
  have h := run_makeSlice (P := Try.prog) u 29 5 i0 (.int .u8 0) Try.underlying29 hi0 hz0 .i64 .i64 32 32 (by omega) (by omega) (by rw [hz1]; decide) (by rw [hz2]; decide) (by omega)
  rw [hz1] at h
  have e : madeCells (Value.int .u8 0).cells (Int.toNat 32 * 1) = #[.int .u8 0, .int .u8 0, .int .u8 0, .int .u8 0, .int .u8 0, .int .u8 0, .int .u8 0, .int .u8 0, .int .u8 0, .int .u8 0, .int .u8 0, .int .u8 0, .int .u8 0, .int .u8 0, .int .u8 0, .int .u8 0, .int .u8 0, .int .u8 0, .int .u8 0, .int .u8 0, .int .u8 0, .int .u8 0, .int .u8 0, .int .u8 0, .int .u8 0, .int .u8 0, .int .u8 0, .int .u8 0, .int .u8 0, .int .u8 0, .int .u8 0, .int .u8 0] := by kernel_rfl
  rw [e] at h
  exact h
theorem Away.fresh {w w2 : World} {B : Nat} {f : Fp} {s : St} {g : Nat} {xs : List Value} (h : Row w2 (some ⟨g, 0, none⟩) xs) (hs : Sto w B f s) (hg : w.heap.size ≤ g) : Away w2 (some ⟨g, 0, none⟩) xs (Foot f) :=
  ⟨h, fun _ a ha hf => by
    injection ha with ha
    subst ha
    have h1 := (hs.foot _ hf).2
    simp only at h1
    omega⟩

set_option maxHeartbeats 4000000 in
theorem alive_any (w : World) : Calls Try.prog 12 #[] w fun e w' => e = .returned (.bool true) ∧ Below w.heap.size w w' := by
  go_enter Try.func12, Try.ntmps12
  go_wp2_with fail
  refine (new_yes 4 4 w (by omega)).mono ?_
  rintro e w1 ⟨f, rfl, hs1, hb1⟩
  have hmk := make16
  have hsz1 := hb1.size
  go_wp2_with fail
  refine wp_region_seqS ((fun _ => True)) (.fork 0 (.take 2 .copy (.alone 1 (.take 3 .copy .fin))) 1 (.alone 0 (.take 2 .copy (.take 3 .copy .fin)))) (by kernel_rfl) (by kernel_rfl) (by kernel_rfl) ?_ ?_
  · trivial
  simp only [preS, nxtS, List.getElem?_toArray, List.getElem?_cons_zero, List.getElem?_cons_succ, opAt, ghosts, List.nil_append]
  go_wp2_with fail
  refine next_fork ?_ ?_
  · go_wp2_with fail
    refine nextS trivial ?_
    go_wp2_with fail
    refine nextS trivial ?_
    go_wp2_with fail
    refine ends_normal ?_
    go_upto_region 6 with fail
    have hA0 := ((Blk.new w1 5 #[.int .u8 97, .int .u8 0, .int .u8 0, .int .u8 0, .int .u8 0, .int .u8 0, .int .u8 0, .int .u8 0, .int .u8 0, .int .u8 0, .int .u8 0, .int .u8 0, .int .u8 0, .int .u8 0, .int .u8 0, .int .u8 0]).alloc (.cells #[.int .u8 98, .int .u8 0, .int .u8 0, .int .u8 0, .int .u8 0, .int .u8 0, .int .u8 0, .int .u8 0, .int .u8 0, .int .u8 0, .int .u8 0, .int .u8 0, .int .u8 0, .int .u8 0, .int .u8 0, .int .u8 0] 5)).drew
    have hA1 := (Blk.new (w1.alloc (.cells #[.int .u8 97, .int .u8 0, .int .u8 0, .int .u8 0, .int .u8 0, .int .u8 0, .int .u8 0, .int .u8 0, .int .u8 0, .int .u8 0, .int .u8 0, .int .u8 0, .int .u8 0, .int .u8 0, .int .u8 0, .int .u8 0] 5)) 5 #[.int .u8 98, .int .u8 0, .int .u8 0, .int .u8 0, .int .u8 0, .int .u8 0, .int .u8 0, .int .u8 0, .int .u8 0, .int .u8 0, .int .u8 0, .int .u8 0, .int .u8 0, .int .u8 0, .int .u8 0, .int .u8 0]).drew
    rw [World.size_alloc] at hA1
    have hs2 := ((hs1.alloc (.cells #[.int .u8 97, .int .u8 0, .int .u8 0, .int .u8 0, .int .u8 0, .int .u8 0, .int .u8 0, .int .u8 0, .int .u8 0, .int .u8 0, .int .u8 0, .int .u8 0, .int .u8 0, .int .u8 0, .int .u8 0, .int .u8 0] 5)).alloc (.cells #[.int .u8 98, .int .u8 0, .int .u8 0, .int .u8 0, .int .u8 0, .int .u8 0, .int .u8 0, .int .u8 0, .int .u8 0, .int .u8 0, .int .u8 0, .int .u8 0, .int .u8 0, .int .u8 0, .int .u8 0, .int .u8 0] 5)).drew
    have hb2 := hb1.alloc hb1.size (.cells #[.int .u8 97, .int .u8 0, .int .u8 0, .int .u8 0, .int .u8 0, .int .u8 0, .int .u8 0, .int .u8 0, .int .u8 0, .int .u8 0, .int .u8 0, .int .u8 0, .int .u8 0, .int .u8 0, .int .u8 0, .int .u8 0] 5)
    have hb2 := (hb2.alloc hb2.size (.cells #[.int .u8 98, .int .u8 0, .int .u8 0, .int .u8 0, .int .u8 0, .int .u8 0, .int .u8 0, .int .u8 0, .int .u8 0, .int .u8 0, .int .u8 0, .int .u8 0, .int .u8 0, .int .u8 0, .int .u8 0, .int .u8 0] 5)).drew
    have hwa : Away _ _ (bv la3) (Foot f) := Away.fresh (Row.of_blk (xs := bv la3) hA0) hs1 (by omega)
    have hwb : Away _ _ (bv lb3) (Foot f) := Away.fresh (Row.of_blk (xs := bv lb3) hA1) hs1 (by omega)
    obtain ⟨w2, hw2⟩ : ∃ w2, w2 = ((w1.alloc (.cells #[.int .u8 97, .int .u8 0, .int .u8 0, .int .u8 0, .int .u8 0, .int .u8 0, .int .u8 0, .int .u8 0, .int .u8 0, .int .u8 0, .int .u8 0, .int .u8 0, .int .u8 0, .int .u8 0, .int .u8 0, .int .u8 0] 5)).alloc (.cells #[.int .u8 98, .int .u8 0, .int .u8 0, .int .u8 0, .int .u8 0, .int .u8 0, .int .u8 0, .int .u8 0, .int .u8 0, .int .u8 0, .int .u8 0, .int .u8 0, .int .u8 0, .int .u8 0, .int .u8 0, .int .u8 0] 5)).drew := ⟨_, rfl⟩
    rw [← hw2] at hs2 hb2 hwa hwb ⊢
    clear hw2 hA0 hA1 hs1 hb1
    go_wp2_with fail
    refine (write_any w.heap.size f _ w2 hs2 0 _ 16 16 la3 rfl (Nat.le_refl _) (by omega) hwa (by simp)).mono ?_
    rw [al1]
    rintro e w3 ⟨f3, rfl, hs3, ht3⟩
    have hb3 := hb2.trans (ht3.belowB hs2)
    have hwb3 := hwb.turned ht3
    rw [← ht3.same]
    clear hwa hwb hs2 hb2 ht3 hmk
    go_wp2_with fail
    refine (flush_any w.heap.size f3 _ w3 hs3).mono ?_
    rintro e w4 ⟨f4, rfl, hs4, ht4⟩
    have hs4 : Sto w4 w.heap.size f4 ⟨4, 4, [(0, la3)], 1⟩ := hs4
    have hb4 := hb3.trans (ht4.belowB hs3)
    have hwb4 := hwb3.turned ht4
    rw [← ht4.same]
    clear hwb3 hs3 hb3 ht4
    go_wp2_with fail
    refine (write_any w.heap.size f4 _ w4 hs4 0 _ 16 16 lb3 rfl (Nat.le_refl _) (by omega) hwb4 (by simp)).mono ?_
    rw [al3]
    rintro e w5 ⟨f5, rfl, hs5, ht5⟩
    have hb5 := hb4.trans (ht5.belowB hs4)
    rw [← ht5.same]
    clear hwb4 hs4 hb4 ht5
    go_wp2_with fail
    refine (loose_any w.heap.size f5 _ w5 hs5).mono ?_
    rintro e w6 ⟨rfl, rfl⟩
    go_wp2_with fail
    refine (crash_any w.heap.size f5 _ _ hs5 none 0 0 [] rfl ⟨Row.nil _ _, fun h => absurd rfl h⟩ (by omega)).mono ?_
    rw [al4]
    rintro e w7 ⟨f7, rfl, hs7, ht7⟩
    have hb7 := hb5.trans (ht7.belowB hs5)
    rw [← ht7.same]
    clear hs5 hb5 ht7
    go_wp2_with fail
    refine (read_any w.heap.size f7 _ w7 hs7 0 1 (by omega) (by omega)).mono ?_
    rw [al5]
    rintro e w8 ⟨A8, m8, c8, rfl, hl8, hown8, hb8⟩
    obtain rfl : m8 = 16 := hl8.symm
    have hs8 := hs7.below hb8
    have hb08 := below_all hb7 hb8
    obtain ⟨g8, o8, rfl, hg8, hc8⟩ := hown8.row.bcell (l := la3) (k := 0) (by decide)
    have hc8 : w8.cell? ⟨g8, o8, none⟩ = some (.int .u8 97) := hc8
    have hs9 := hs8.alloc (.cells #[.int .u8 0, .int .u8 0, .int .u8 0, .int .u8 0, .int .u8 0, .int .u8 0, .int .u8 0, .int .u8 0, .int .u8 0, .int .u8 0, .int .u8 0, .int .u8 0, .int .u8 0, .int .u8 0, .int .u8 0, .int .u8 0, .int .u8 0, .int .u8 0, .int .u8 0, .int .u8 0, .int .u8 0, .int .u8 0, .int .u8 0, .int .u8 0, .int .u8 0, .int .u8 0, .int .u8 0, .int .u8 0, .int .u8 0, .int .u8 0, .int .u8 0, .int .u8 0] 5)
    have hb9 := hb08.alloc hb08.size (.cells #[.int .u8 0, .int .u8 0, .int .u8 0, .int .u8 0, .int .u8 0, .int .u8 0, .int .u8 0, .int .u8 0, .int .u8 0, .int .u8 0, .int .u8 0, .int .u8 0, .int .u8 0, .int .u8 0, .int .u8 0, .int .u8 0, .int .u8 0, .int .u8 0, .int .u8 0, .int .u8 0, .int .u8 0, .int .u8 0, .int .u8 0, .int .u8 0, .int .u8 0, .int .u8 0, .int .u8 0, .int .u8 0, .int .u8 0, .int .u8 0, .int .u8 0, .int .u8 0] 5)
    have hwz : Away _ _ (bv lz3) (Foot f7) := Away.fresh (Row.of_blk (xs := bv lz3) (Blk.new w8 5 #[.int .u8 0, .int .u8 0, .int .u8 0, .int .u8 0, .int .u8 0, .int .u8 0, .int .u8 0, .int .u8 0, .int .u8 0, .int .u8 0, .int .u8 0, .int .u8 0, .int .u8 0, .int .u8 0, .int .u8 0, .int .u8 0, .int .u8 0, .int .u8 0, .int .u8 0, .int .u8 0, .int .u8 0, .int .u8 0, .int .u8 0, .int .u8 0, .int .u8 0, .int .u8 0, .int .u8 0, .int .u8 0, .int .u8 0, .int .u8 0, .int .u8 0, .int .u8 0])) hs8 (Nat.le_refl _)
    have hmk2 := make32
    clear hl8 hown8 hs7 hb7 hb8 hs8
    go_wp2_with fail
    refine (write_any w.heap.size f7 _ _ hs9 3 _ 32 32 lz3 rfl (Nat.le_refl _) (by omega) hwz (by simp)).mono ?_
    rintro e w10 ⟨f10, rfl, hs10, ht10⟩
    rw [al6]
    have hb10 := hb9.trans (ht10.belowB hs9)
    clear hwz hs9 hb9 hs10 ht10 hmk2
    go_wp2_with fail
    go_ret
    exact ⟨ret_bool (by simp), hb10⟩
  · go_wp2_with fail
    refine nextS trivial ?_
    go_wp2_with fail
    refine nextS trivial ?_
    go_wp2_with fail
    refine ends_normal ?_
    go_upto_region 6 with fail
    have hA0 := ((Blk.new w1 5 #[.int .u8 98, .int .u8 0, .int .u8 0, .int .u8 0, .int .u8 0, .int .u8 0, .int .u8 0, .int .u8 0, .int .u8 0, .int .u8 0, .int .u8 0, .int .u8 0, .int .u8 0, .int .u8 0, .int .u8 0, .int .u8 0]).alloc (.cells #[.int .u8 97, .int .u8 0, .int .u8 0, .int .u8 0, .int .u8 0, .int .u8 0, .int .u8 0, .int .u8 0, .int .u8 0, .int .u8 0, .int .u8 0, .int .u8 0, .int .u8 0, .int .u8 0, .int .u8 0, .int .u8 0] 5)).drew
    have hA1 := (Blk.new (w1.alloc (.cells #[.int .u8 98, .int .u8 0, .int .u8 0, .int .u8 0, .int .u8 0, .int .u8 0, .int .u8 0, .int .u8 0, .int .u8 0, .int .u8 0, .int .u8 0, .int .u8 0, .int .u8 0, .int .u8 0, .int .u8 0, .int .u8 0] 5)) 5 #[.int .u8 97, .int .u8 0, .int .u8 0, .int .u8 0, .int .u8 0, .int .u8 0, .int .u8 0, .int .u8 0, .int .u8 0, .int .u8 0, .int .u8 0, .int .u8 0, .int .u8 0, .int .u8 0, .int .u8 0, .int .u8 0]).drew
    rw [World.size_alloc] at hA1
    have hs2 := ((hs1.alloc (.cells #[.int .u8 98, .int .u8 0, .int .u8 0, .int .u8 0, .int .u8 0, .int .u8 0, .int .u8 0, .int .u8 0, .int .u8 0, .int .u8 0, .int .u8 0, .int .u8 0, .int .u8 0, .int .u8 0, .int .u8 0, .int .u8 0] 5)).alloc (.cells #[.int .u8 97, .int .u8 0, .int .u8 0, .int .u8 0, .int .u8 0, .int .u8 0, .int .u8 0, .int .u8 0, .int .u8 0, .int .u8 0, .int .u8 0, .int .u8 0, .int .u8 0, .int .u8 0, .int .u8 0, .int .u8 0] 5)).drew
    have hb2 := hb1.alloc hb1.size (.cells #[.int .u8 98, .int .u8 0, .int .u8 0, .int .u8 0, .int .u8 0, .int .u8 0, .int .u8 0, .int .u8 0, .int .u8 0, .int .u8 0, .int .u8 0, .int .u8 0, .int .u8 0, .int .u8 0, .int .u8 0, .int .u8 0] 5)
    have hb2 := (hb2.alloc hb2.size (.cells #[.int .u8 97, .int .u8 0, .int .u8 0, .int .u8 0, .int .u8 0, .int .u8 0, .int .u8 0, .int .u8 0, .int .u8 0, .int .u8 0, .int .u8 0, .int .u8 0, .int .u8 0, .int .u8 0, .int .u8 0, .int .u8 0] 5)).drew
    have hwa : Away _ _ (bv la3) (Foot f) := Away.fresh (Row.of_blk (xs := bv la3) hA1) hs1 (by omega)
    have hwb : Away _ _ (bv lb3) (Foot f) := Away.fresh (Row.of_blk (xs := bv lb3) hA0) hs1 (by omega)
    obtain ⟨w2, hw2⟩ : ∃ w2, w2 = ((w1.alloc (.cells #[.int .u8 98, .int .u8 0, .int .u8 0, .int .u8 0, .int .u8 0, .int .u8 0, .int .u8 0, .int .u8 0, .int .u8 0, .int .u8 0, .int .u8 0, .int .u8 0, .int .u8 0, .int .u8 0, .int .u8 0, .int .u8 0] 5)).alloc (.cells #[.int .u8 97, .int .u8 0, .int .u8 0, .int .u8 0, .int .u8 0, .int .u8 0, .int .u8 0, .int .u8 0, .int .u8 0, .int .u8 0, .int .u8 0, .int .u8 0, .int .u8 0, .int .u8 0, .int .u8 0, .int .u8 0] 5)).drew := ⟨_, rfl⟩
    rw [← hw2] at hs2 hb2 hwa hwb ⊢
    clear hw2 hA0 hA1 hs1 hb1
    go_wp2_with fail
    refine (write_any w.heap.size f _ w2 hs2 0 _ 16 16 la3 rfl (Nat.le_refl _) (by omega) hwa (by simp)).mono ?_
    rw [al1]
    rintro e w3 ⟨f3, rfl, hs3, ht3⟩
    have hb3 := hb2.trans (ht3.belowB hs2)
    have hwb3 := hwb.turned ht3
    rw [← ht3.same]
    clear hwa hwb hs2 hb2 ht3 hmk
    go_wp2_with fail
    refine (flush_any w.heap.size f3 _ w3 hs3).mono ?_
    rintro e w4 ⟨f4, rfl, hs4, ht4⟩
    have hs4 : Sto w4 w.heap.size f4 ⟨4, 4, [(0, la3)], 1⟩ := hs4
    have hb4 := hb3.trans (ht4.belowB hs3)
    have hwb4 := hwb3.turned ht4
    rw [← ht4.same]
    clear hwb3 hs3 hb3 ht4
    go_wp2_with fail
    refine (write_any w.heap.size f4 _ w4 hs4 0 _ 16 16 lb3 rfl (Nat.le_refl _) (by omega) hwb4 (by simp)).mono ?_
    rw [al3]
    rintro e w5 ⟨f5, rfl, hs5, ht5⟩
    have hb5 := hb4.trans (ht5.belowB hs4)
    rw [← ht5.same]
    clear hwb4 hs4 hb4 ht5
    go_wp2_with fail
    refine (loose_any w.heap.size f5 _ w5 hs5).mono ?_
    rintro e w6 ⟨rfl, rfl⟩
    go_wp2_with fail
    refine (crash_any w.heap.size f5 _ _ hs5 none 0 0 [] rfl ⟨Row.nil _ _, fun h => absurd rfl h⟩ (by omega)).mono ?_
    rw [al4]
    rintro e w7 ⟨f7, rfl, hs7, ht7⟩
    have hb7 := hb5.trans (ht7.belowB hs5)
    rw [← ht7.same]
    clear hs5 hb5 ht7
    go_wp2_with fail
    refine (read_any w.heap.size f7 _ w7 hs7 0 1 (by omega) (by omega)).mono ?_
    rw [al5]
    rintro e w8 ⟨A8, m8, c8, rfl, hl8, hown8, hb8⟩
    obtain rfl : m8 = 16 := hl8.symm
    have hs8 := hs7.below hb8
    have hb08 := below_all hb7 hb8
    obtain ⟨g8, o8, rfl, hg8, hc8⟩ := hown8.row.bcell (l := la3) (k := 0) (by decide)
    have hc8 : w8.cell? ⟨g8, o8, none⟩ = some (.int .u8 97) := hc8
    have hs9 := hs8.alloc (.cells #[.int .u8 0, .int .u8 0, .int .u8 0, .int .u8 0, .int .u8 0, .int .u8 0, .int .u8 0, .int .u8 0, .int .u8 0, .int .u8 0, .int .u8 0, .int .u8 0, .int .u8 0, .int .u8 0, .int .u8 0, .int .u8 0, .int .u8 0, .int .u8 0, .int .u8 0, .int .u8 0, .int .u8 0, .int .u8 0, .int .u8 0, .int .u8 0, .int .u8 0, .int .u8 0, .int .u8 0, .int .u8 0, .int .u8 0, .int .u8 0, .int .u8 0, .int .u8 0] 5)
    have hb9 := hb08.alloc hb08.size (.cells #[.int .u8 0, .int .u8 0, .int .u8 0, .int .u8 0, .int .u8 0, .int .u8 0, .int .u8 0, .int .u8 0, .int .u8 0, .int .u8 0, .int .u8 0, .int .u8 0, .int .u8 0, .int .u8 0, .int .u8 0, .int .u8 0, .int .u8 0, .int .u8 0, .int .u8 0, .int .u8 0, .int .u8 0, .int .u8 0, .int .u8 0, .int .u8 0, .int .u8 0, .int .u8 0, .int .u8 0, .int .u8 0, .int .u8 0, .int .u8 0, .int .u8 0, .int .u8 0] 5)
    have hwz : Away _ _ (bv lz3) (Foot f7) := Away.fresh (Row.of_blk (xs := bv lz3) (Blk.new w8 5 #[.int .u8 0, .int .u8 0, .int .u8 0, .int .u8 0, .int .u8 0, .int .u8 0, .int .u8 0, .int .u8 0, .int .u8 0, .int .u8 0, .int .u8 0, .int .u8 0, .int .u8 0, .int .u8 0, .int .u8 0, .int .u8 0, .int .u8 0, .int .u8 0, .int .u8 0, .int .u8 0, .int .u8 0, .int .u8 0, .int .u8 0, .int .u8 0, .int .u8 0, .int .u8 0, .int .u8 0, .int .u8 0, .int .u8 0, .int .u8 0, .int .u8 0, .int .u8 0])) hs8 (Nat.le_refl _)
    have hmk2 := make32
    clear hl8 hown8 hs7 hb7 hb8 hs8
    go_wp2_with fail
    refine (write_any w.heap.size f7 _ _ hs9 3 _ 32 32 lz3 rfl (Nat.le_refl _) (by omega) hwz (by simp)).mono ?_
    rintro e w10 ⟨f10, rfl, hs10, ht10⟩
    rw [al6]
    have hb10 := hb9.trans (ht10.belowB hs9)
    clear hwz hs9 hb9 hs10 ht10 hmk2
    go_wp2_with fail
    go_ret
    exact ⟨ret_bool (by simp), hb10⟩
end Go.Proofs.Ytgblekjkphnjfaa
