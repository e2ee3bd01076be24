/- The law SumTurned. Conditions: the length does not wrap. -/
import Derived.Test.YtdoigdbegijcnaaLaw02c
namespace Go.Proofs.Ytdoigdbegijcnaa
open Go.RowKit

theorem xor_u8 (a b : UInt8) : bits .xor .u8 (a.toNat : Int) (b.toNat : Int) = ((a ^^^ b).toNat : Int) := by
  show IntKind.u8.wrap ((BitVec.ofInt 8 (a.toNat : Int) ^^^ BitVec.ofInt 8 (b.toNat : Int)).toNat : Int) = _
  have h : ∀ x : UInt8, BitVec.ofInt 8 (x.toNat : Int) = x.toBitVec := fun x => by
    rw [BitVec.ofInt_natCast]
    apply BitVec.eq_of_toNat_eq
    rw [BitVec.toNat_ofNat]
    exact Nat.mod_eq_of_lt x.toNat_lt
  rw [h, h, UInt8.toNat_xor]
  have h2 := (a ^^^ b).toNat_lt
  rw [UInt8.toNat_xor] at h2
  rw [BitVec.toNat_xor]
  show IntKind.u8.wrap ((a.toNat ^^^ b.toNat : Nat) : Int) = _
  simp [IntKind.wrap, IntKind.bits, IntKind.signed]
  omega

theorem xor_ne (a b : UInt8) (hb : b ≠ 0) : a ≠ a ^^^ b := by
  intro h
  apply hb
  have h1 : a ^^^ a = a ^^^ (a ^^^ b) := by rw [← h]
  rw [UInt8.xor_self, ← UInt8.xor_assoc, UInt8.xor_self, UInt8.zero_xor] at h1
  exact h1.symm

set_option maxHeartbeats 2000000 in
theorem sumTurned_law (A : Option Addr) (n c : Nat) (l : List UInt8) (pos : Int) (turn : Int) (w : World) (hn : l.length = n) (hr : Row w A (bv l)) (hsz : n ≤ 140737488355328) (ht : 0 ≤ turn ∧ turn ≤ 255) :
    Calls Try.prog 5 #[.slice A n c, .int .i64 pos, .int .u8 turn] w fun e w' => e = .returned (.bool true) ∧ Below w.heap.size w w' := by
  by_cases hb : 20000 < n
  · go_enter Try.func5, Try.ntmps5
    go_wp2_with fail
    refine (alive_any w).mono ?_
    rintro e w1 ⟨rfl, hb1⟩
    go_wp2_with fail
    go_ret
    exact ⟨rfl, hb1⟩
  by_cases hp0 : pos < 0
  · go_enter Try.func5, Try.ntmps5
    go_wp2_with fail
    refine (alive_any w).mono ?_
    rintro e w1 ⟨rfl, hb1⟩
    go_wp2_with fail
    go_ret
    exact ⟨rfl, hb1⟩
  obtain ⟨k, rfl⟩ := Int.eq_ofNat_of_zero_le (show 0 ≤ pos by omega)
  by_cases hpn : n ≤ k
  · have hge : (n : Int) ≤ (k : Int) := by omega
    go_enter Try.func5, Try.ntmps5
    go_wp2_with fail
    refine (alive_any w).mono ?_
    rintro e w1 ⟨rfl, hb1⟩
    go_wp2_with fail
    go_ret
    exact ⟨rfl, hb1⟩
  have hlt : ¬ (n : Int) ≤ (k : Int) := by omega
  by_cases ht0 : turn = 0
  · subst ht0
    go_enter Try.func5, Try.ntmps5
    go_wp2_with fail
    refine (alive_any w).mono ?_
    rintro e w1 ⟨rfl, hb1⟩
    go_wp2_with fail
    go_ret
    exact ⟨rfl, hb1⟩
  have ht1 : (turn == 0) = false := by simpa using ht0
  obtain ⟨i0, hi0, hz0, hz1, hz2⟩ := info_parts info_u8
  obtain ⟨t, rfl⟩ : ∃ t : UInt8, turn = (t.toNat : Int) := ⟨UInt8.ofNat turn.toNat, by rw [toNat_ofNat _ (by omega)]; omega⟩
  have htz : t ≠ 0 := by
    rintro rfl
    exact ht0 rfl
  have hkl : k < l.length := by omega
  have hne := xor_ne l[k] t htz
  obtain ⟨y, hy⟩ : ∃ y, y = l[k] ^^^ t := ⟨_, rfl⟩
  have hx := xor_u8 l[k] t
  rw [← hy] at hne hx
  obtain ⟨l', hl'⟩ : ∃ l', l' = l.set k y := ⟨_, rfl⟩
  have hll' : l'.length = n := by rw [hl', List.length_set, hn]
  have had : adler l' ≠ adler l := by rw [hl']; exact adler_turned l k hkl _ hne
  have hbv : (bv l).set k (.int .u8 (y.toNat : Int)) = bv l' := by rw [hl', bv, bv, List.map_set]
  have HN := Lib.hid hn
  have HNE := Lib.hid had
  have HBV := Lib.hid hbv
  have HLL := Lib.hid hll'
  clear hn hp0 hpn ht0 hne hl' hll' had hbv htz hy
  have hsrc : Src Try.prog (w.alloc (.cells #[] 5)) 22 (.slice A n c) 1 n (bv l) := Src.slice Try.underlying22 (hr.alloc _) (by rw [bv_length, HN.out, Nat.mul_one]) (bv_one l)
  have hc0 : (bv l)[k]? = some (.int .u8 (l[k].toNat : Int)) := bv_at hkl
  have HC0 := Lib.hid hc0
  clear hc0
  obtain ⟨x, hxx⟩ : ∃ x, x = l[k] := ⟨_, rfl⟩
  rw [← hxx] at hx HC0
  clear hxx
  have hki : (0 : Int) ≤ (k : Int) := by omega
  have hkn : (k : Int) < (n : Int) := by omega
  go_enter Try.func5, Try.ntmps5
  go_wp2_with (at_builtin; refine wpList_app _ rfl _ _ 22 22 rfl w.heap.size 5 i0 _ 1 1 Try.underlying22 hi0 hz0 hz1 hz2 rfl _ 0 0 [] rfl (Own.nil _ _ _ _ _) _ n (bv l) rfl hsrc (by simp only [maxLen]; omega) (by omega) (by simp) ?_; intro A3 c3 w3 hown3 hg3 hb3; rw [Nat.zero_add, List.nil_append] at hown3; rw [Nat.zero_add]; obtain ⟨g, rfl, hgB, hgs, hob, hcell, hfz, hown4⟩ := hown3.at_ (show k < n by omega) HC0.out)
  have hown5 := hown4 (.int .u8 (y.toNat : Int))
  rw [HBV.out] at hown5
  have hb5 : Below w.heap.size w (w3.setCell ⟨g, k, none⟩ (.int .u8 (y.toNat : Int))) := (((Below.refl _ _).alloc (Nat.le_refl _) _).grown hg3 (by simp) (fun i hi => by simp [ownB] at hi)).setCell hgB _
  obtain ⟨w5, hw5⟩ : ∃ w5, w5 = w3.setCell ⟨g, k, none⟩ (.int .u8 (y.toNat : Int)) := ⟨_, rfl⟩
  rw [← hw5] at hown5 hb5 ⊢
  clear hown4 hown3 hw5 hcell hfz hx HBV
  have hr5 := hr.below hb5
  refine (seal_any A n c l w5 HN.out hr5 (by omega)).mono ?_
  rintro e w6 ⟨A6, c6, rfl, hown6, hb6⟩
  have hc6 : n + 4 ≤ c6 := hown6.2.1
  have hnc6 : ¬ c6 = n := by omega
  have hn0 : (0 : Int) ≤ (n : Int) := by omega
  have hn4 : (n : Int) ≤ (n : Int) + 4 := by omega
  go_wp2_with fail
  have hrow6 := hown6.row.drop n c6 (by rw [bv_length, sealed_length, HN.out]; omega)
  rw [if_neg hnc6, bv_drop] at hrow6
  have hown7 := hown5.below hb6
  have hsz6 : w.heap.size ≤ w6.heap.size := by have := hb5.size; have := hb6.size; omega
  have hs7 : Src Try.prog (w6.alloc (.cells #[] 5)).drew 22 (.slice (some ⟨g, 0, none⟩) n c3) 1 n (bv l') := Src.slice Try.underlying22 (hown7.row.alloc _).drew (by rw [bv_length, HLL.out, Nat.mul_one]) (bv_one l')
  refine wp_region_seq false (.take 1 .copy (.take 3 .copy (.take 4 .copy (.take 5 (.len 22) (.take 6 .cut (.alone 0 (.alone 2 (.alone 7 (.alone 8 (.take 9 .copy (.take 10 .copy (.take 11 .copy (.take 12 .copy (.take 13 .copy .fin)))))))))))))) (by kernel_rfl) (by kernel_rfl) (by kernel_rfl) ?_
  simp only [pre, nxt, List.getElem?_toArray, List.getElem?_cons_zero, List.getElem?_cons_succ, opAt, ghosts, List.nil_append]
  go_wp2_with fail
  refine next_any ?_
  go_wp2_with (at_builtin; refine wpList_app _ rfl _ _ 22 22 rfl w6.heap.size 5 i0 _ 1 1 Try.underlying22 hi0 hz0 hz1 hz2 rfl _ 0 0 [] rfl (Own.nil _ _ _ _ _) _ n (bv l') rfl hs7 (by simp only [maxLen]; omega) (by omega) (by simp) ?_; intro A8 c8 w8 hown8 hg8 hb8; rw [Nat.zero_add, List.nil_append] at hown8; rw [Nat.zero_add])
  refine next_any ?_
  have hb68 : Below w6.heap.size w6 w8 := ((Below.refl _ _).alloc (Nat.le_refl _) _).drew.grown hg8 (by simp) (fun i hi => by simp [ownB] at hi)
  have hb89 := hb68.size
  have hbv6 : bv l' ++ bv (List.drop n (sealed l)) = bv (l' ++ be 4 (adler l)) := by rw [← bv_append]; unfold sealed; rw [List.drop_left' HN.out]
  go_wp2_with (at_builtin; refine wpList_app _ rfl _ _ 22 22 rfl w6.heap.size 5 i0 _ 1 1 Try.underlying22 hi0 hz0 hz1 hz2 rfl A8 n c8 (bv l') rfl hown8 _ 4 (bv (List.drop n (sealed l))) rfl (Src.slice (c := c6 - n) Try.underlying22 (hrow6.below hb68) (by rw [bv_length, List.length_drop, sealed_length, HN.out]; omega) (bv_one _)) (by simp only [maxLen]; omega) (by omega) (by have := hg8.size; simp at this; omega) ?_; intro A9 c9 w9 hown9 hg9 hb9; rw [hbv6] at hown9)
  have hb69' : Below w6.heap.size w6 w9 := hb68.grown hg9 (by omega) (fun i hi => (hown8.lt i hi).1)
  have hb69 : Below w.heap.size w w9 := below_all hb5 (below_all hb6 hb69')
  have hl9 : (l' ++ be 4 (adler l)).length = n + 4 := by rw [List.length_append, be_length, HLL.out]
  have ho9 : opened (l' ++ be 4 (adler l)) = none := opened_turned l l' HNE.out
  have HL9 := Lib.hid hl9
  have HO9 := Lib.hid ho9
  have hrow9 := hown9.row
  clear hl9 ho9 hbv6
  refine next_any ?_
  go_wp2_with fail
  refine (open_any A9 (n + 4) c9 (l' ++ be 4 (adler l)) w9 HL9.out hown9.2.1 hrow9 (by omega)).mono ?_
  rintro e w10 ⟨A10, m10, c10, rfl, hm10, hmn10, hx10, hb10⟩
  rw [HO9.out]
  have hr10 := (hr.below hb69).below hb10
  have hrc10 := (hown7.below hb69').row.below hb10
  go_wp2_with fail
  refine next_any ?_
  go_wp2_with fail
  refine ends_normal ?_
  go_wp2_with fail
  refine (alive_any _).mono ?_
  rintro e w11 ⟨rfl, hb11⟩
  have hr11 := hr10.below hb11
  have hrc11 := hrc10.below hb11
  go_wp2_with fail
  refine (of_any _ 1 1 [⟨some ⟨g, 0, none⟩, c3, l'⟩] _ rfl (row_piece HLL.out) (pieces_one (hrc11.alloc _)) (by omega) (by intro p hp; rw [List.mem_singleton] at hp; subst hp; show l'.length ≤ _; have := HLL.out; omega)).mono ?_
  rintro e w12 ⟨rfl, hb12⟩
  have he12 : ([⟨some ⟨g, 0, none⟩, c3, l'⟩] : List Piece).flatMap Piece.l = l' := by simp
  rw [he12]
  have hb1112 : Below w11.heap.size w11 w12 := ((Below.refl _ _).alloc (Nat.le_refl _) _).trans (hb12.mono (by simp))
  clear he12 hb12
  have hr12 := hr11.below hb1112
  go_wp2_with fail
  refine (of_any _ 1 1 [⟨A, c, l⟩] _ rfl (row_piece HN.out) (pieces_one (hr12.alloc _)) (by omega) (by intro p hp; rw [List.mem_singleton] at hp; subst hp; show l.length ≤ _; have := HN.out; omega)).mono ?_
  rintro e w13 ⟨rfl, hb13⟩
  have he13 : ([⟨A, c, l⟩] : List Piece).flatMap Piece.l = l := by simp
  rw [he13]
  have hb1213 : Below w12.heap.size w12 w13 := ((Below.refl _ _).alloc (Nat.le_refl _) _).trans (hb13.mono (by simp))
  have hne13 : ((adler l' : Int) != (adler l : Int)) = true := by
    rw [bne_iff_ne]
    intro h
    exact HNE.out (by omega)
  go_wp2_with fail
  go_ret
  exact ⟨rfl, below_all hb69 (below_all hb10 (below_all hb11 (below_all hb1112 hb1213)))⟩
end Go.Proofs.Ytdoigdbegijcnaa
