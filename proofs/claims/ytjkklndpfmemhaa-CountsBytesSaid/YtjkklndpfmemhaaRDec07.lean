/- pentimentoref07: Encode, Decode: what they answer. Conditions: the bytes fit memory. -/
import Derived.Test.YtjkklndpfmemhaaDecP
import Derived.Test.YtjkklndpfmemhaaRefR
import Derived.Test.YtjkklndpfmemhaaRefP
namespace Go.Proofs.Ytjkklndpfmemhaa
open Go.RowKit

set_option maxHeartbeats 1000000 in
theorem rEncode_any (L : Option Addr) (c : Nat) (l : List Int) (w : World) (hL : Row w L (iv l)) (hg : Good l) :
    Calls Try.prog 29 #[.slice L l.length c] w fun e w' => e = .returned (.string (str (encF l))) ∧ Below w.heap.size w w' := by
  have hlong := hg.long
  have hfit : (rt 2 && fitAll 2 l) = true := by rw [hg.fit]; rfl
  have hP := rPut_any 2 L l.length c l w rfl hL (by omega)
  rw [hfit, if_pos rfl] at hP
  have hft : (rt 2 && ft (l.length : Int) 2) = true := by rw [ft_two]; simp [rt]; omega
  have hN := fun u => num_any (l.length : Int) 2 u
  rw [(numB_ok hft).1, Int.toNat_natCast] at hN
  have HN := Lib.hid hN
  have hcat := run_cat (P := Try.prog) (be 2 l.length) (putB 2 l) (by rw [be_length, putB_length]; omega)
  have hen : be 2 l.length ++ putB 2 l = encF l := rfl
  rw [hen] at hcat
  clear hN hft hfit hen
  go_enter Try.func29, Try.ntmps29
  go_wp2_with fail
  refine hP.mono ?_
  rintro e w1 ⟨rfl, hb1⟩
  clear hP
  go_wp2_with fail
  refine (HN.out w1).mono ?_
  rintro e w2 ⟨rfl, hb2⟩
  go_wp2_with fail
  go_ret
  exact ⟨rfl, below_all hb1 hb2⟩

def DecPost (w : World) (b : List UInt8) (e : Ending) (w' : World) : Prop :=
  ((decF b = none ∧ e = .returned (.tuple #[.slice none 0 0, .bool false])) ∨ ∃ y L c, decF b = some y ∧ e = .returned (.tuple #[.slice L y.length c, .bool true]) ∧ Own w' w.heap.size 3 1 L y.length c (iv y)) ∧ Below w.heap.size w w'

set_option maxHeartbeats 4000000 in
theorem rDecode_any (b : List UInt8) (w : World) (hsz : b.length ≤ 9223372036854775807) :
    Calls Try.prog 27 #[.string (str b)] w (DecPost w b) := by
  have hR := fun u => rReadNum_any b 0 2 u hsz
  have hlen1 : (nm b 0 2).1.length ≤ b.length := nm_len b 0 2
  have hdec : decF b = if cntOf b ≤ 512 ∧ endOf (rowOf b).1 (rowOf b).2.1 = 0 then some (rowOf b).2.2 else none := rfl
  have hrow : rowOf b = rk (cntOf b) (nm b 0 2).1 (nm b 0 2).2.1 := rfl
  have hcnt : (nm b 0 2).2.2 = cntOf b := rfl
  rw [hcnt] at hR
  obtain ⟨q, hq⟩ : ∃ q, q = cntOf b := ⟨_, rfl⟩
  obtain ⟨l1, hl1⟩ : ∃ l1, l1 = (nm b 0 2).1 := ⟨_, rfl⟩
  obtain ⟨e1, he1⟩ : ∃ e1, e1 = (nm b 0 2).2.1 := ⟨_, rfl⟩
  rw [← hl1, ← he1] at hrow
  rw [← hl1] at hlen1
  simp only [← hl1, ← he1, ← hq] at hR
  rw [← hq] at hrow hdec
  rw [hrow] at hdec
  have HDEC := Lib.hid hdec
  have HR := Lib.hid hR
  clear hrow hdec hcnt hq hl1 he1 hR
  obtain ⟨i0, hi0, hz0, hz1, hz2⟩ := info_parts info_int
  go_enter Try.func27, Try.ntmps27
  go_wp2_with fail
  refine (HR.out _).mono ?_
  rintro e w1 ⟨rfl, hb1⟩
  go_wp2_with fail
  by_cases hq512 : q ≤ 512
  · go_loopw [6, 7] (fun v i wr => ∃ (k : Nat) (L : Option Addr) (cl : Nat), k ≤ q ∧ i = .int .i64 k ∧ v = .slice L k cl ∧ Blk wr w1.heap.size 67 #[.string (str (rk k l1 e1).1), .int .i64 (rk k l1 e1).2.1] ∧ Own wr w.heap.size 3 1 L k cl (iv (rk k l1 e1).2.2) ∧ Below w.heap.size w wr) (fun _ i _ => q - (intOf i).toNat)
    case atStart => exact ⟨0, none, 0, Nat.zero_le _, rfl, rfl, Blk.new _ _ _, Own.nil _ _ _ _ _, hb1.alloc hb1.size _⟩
    case round =>
      obtain ⟨k, L, cl, hk, rfl, rfl, hB, hown, hb⟩ := hrel
      have hlk : (rk k l1 e1).1.length ≤ 9223372036854775807 := by have := rk_len k l1 e1; omega
      by_cases hlt : k < q
      · have hR := fun (u : World) => rReadNum_any (rk k l1 e1).1 (rk k l1 e1).2.1 2 u hlk
        have hrk : rk (k + 1) l1 e1 = ((nm (rk k l1 e1).1 (rk k l1 e1).2.1 2).1, (nm (rk k l1 e1).1 (rk k l1 e1).2.1 2).2.1, (rk k l1 e1).2.2 ++ [((nm (rk k l1 e1).1 (rk k l1 e1).2.1 2).2.2 : Int)]) := rfl
        obtain ⟨t, ht⟩ : ∃ t, t = rk k l1 e1 := ⟨_, rfl⟩
        rw [← ht] at hB hown hR hrk hlk
        obtain ⟨lk, ek, vs⟩ := t
        obtain ⟨u, hu⟩ : ∃ u, u = nm lk ek 2 := ⟨_, rfl⟩
        simp only [← hu] at hR hrk
        obtain ⟨l2, e2, x⟩ := u
        simp only at hB hown hR hrk hlk
        have HRK := Lib.hid hrk
        have HR2 := Lib.hid hR
        clear ht hu hrk hR
        obtain ⟨q1, q2, q3, q4, q5⟩ := hB.two
        go_wp2_with fail
        refine (HR2.out _).mono ?_
        rintro e w2 ⟨rfl, hb2⟩
        have hB2 := hB.belowAll hb2
        have hown2 := hown.below hb2
        have hb02 := below_all hb hb2
        obtain ⟨r1, r2, r3, r4, r5⟩ := (hB2.alloc (.cells #[.string (str l2), .int .i64 e2] 67)).two
        have hne2 := hown2.blk_ne hB2 (by decide)
        have hown3 := ((hown2.alloc (.cells #[.string (str l2), .int .i64 e2] 67)).setCell (p := ⟨w1.heap.size, 0, none⟩) hne2 (.string (str l2))).setCell (p := ⟨w1.heap.size, 1, none⟩) hne2 (.int .i64 e2)
        have hB3 : Blk _ w1.heap.size 67 #[.string (str l2), .int .i64 e2] := ((hB2.alloc (.cells #[.string (str l2), .int .i64 e2] 67)).set_ 0 (.string (str l2))).set_ 1 (.int .i64 e2)
        have hb3 := ((hb02.alloc hb02.size (.cells #[.string (str l2), .int .i64 e2] 67)).setCell (p := ⟨w1.heap.size, 0, none⟩) hb1.size (.string (str l2))).setCell (p := ⟨w1.heap.size, 1, none⟩) hb1.size (.int .i64 e2)
        have hts : iv vs ++ [.int .i64 (x : Int)] = iv (vs ++ [(x : Int)]) := by rw [iv_append]; rfl
        have HTS := Lib.hid hts
        clear hts
        have hsrc : Src Try.prog ((((w2.alloc (.cells #[.string (str l2), .int .i64 e2] 67)).setCell ⟨w1.heap.size, 0, none⟩ (.string (str l2))).setCell ⟨w1.heap.size, 1, none⟩ (.int .i64 e2)).alloc (.cells #[.int .i64 (x : Int)] 3)) 22 (.slice (some ⟨w2.heap.size + 1, 0, none⟩) 1 1) 1 1 [.int .i64 (x : Int)] := by
          have h := Src.new (P := Try.prog) (w := (((w2.alloc (.cells #[.string (str l2), .int .i64 e2] 67)).setCell ⟨w1.heap.size, 0, none⟩ (.string (str l2))).setCell ⟨w1.heap.size, 1, none⟩ (.int .i64 e2))) (tx := 22) (e := 3) (cs := #[.int .i64 (x : Int)]) (size := 1) (m := 1) (c := 1) Try.underlying22 rfl (by simp [Value.oneCell'])
          rw [World.size_setCell, World.size_setCell, World.size_alloc] at h
          exact h
        go_wp2_with (at_builtin; refine wpList_app _ rfl _ _ 22 22 rfl w.heap.size 3 i0 _ 1 8 Try.underlying22 hi0 hz0 hz1 hz2 rfl L k cl _ rfl (hown3.alloc _) _ 1 _ rfl hsrc (by simp only [maxLen]; omega) (by omega) (Nat.le_trans hb3.size (by simp)) ?_; intro A4 c4 w4 hown4 hg4 hb4; rw [HTS.out] at hown4)
        go_roundw
        case rel =>
          refine ⟨k + 1, A4, c4, by omega, by go_num, rfl, ?_, by rw [HRK.out]; exact hown4, (hb3.alloc hb3.size _).grown hg4 (Nat.le_trans hb3.size (by simp)) (fun i hi => (hown3.lt i hi).1)⟩
          rw [HRK.out]
          exact (hB3.alloc (.cells #[.int .i64 (x : Int)] 3)).grown hg4 (fun e => hne2 _ e rfl)
        case measure => simp [intOf]; omega
      · obtain rfl : k = q := by omega
        have hvl := rk_length k l1 e1
        obtain ⟨t, ht⟩ : ∃ t, t = rk k l1 e1 := ⟨_, rfl⟩
        rw [← ht] at hB hown HDEC hlk hvl
        clear ht
        obtain ⟨l2, e2, vs⟩ := t
        simp only at hB hown HDEC hlk hvl
        obtain ⟨q1, q2, q3, q4, q5⟩ := hB.two
        have HVL := Lib.hid hvl
        clear hvl
        go_wp2_with fail
        refine (rEnd_any l2 e2 wr).mono ?_
        rintro e w4 ⟨rfl, hb4⟩
        by_cases hend : endOf l2 e2 = 0
        · have HE := Lib.hid hend
          rw [hend]
          clear hend
          go_wp2_with fail
          go_ret2
          refine ⟨.inr ⟨vs, L, cl, by rw [HDEC.out, if_pos ⟨hq512, HE.out⟩], by rw [HVL.out]; rfl, ?_⟩, below_all hb hb4⟩
          rw [HVL.out]
          exact hown.below hb4
        · obtain ⟨z, hz⟩ : ∃ z, z = endOf l2 e2 := ⟨_, rfl⟩
          rw [← hz] at hend ⊢
          have HZ := Lib.hid hz
          clear hz
          have hz1 : (z != 0) = true := by simpa using hend
          have HE := Lib.hid hend
          clear hend
          go_wp2_with fail
          go_ret2
          exact ⟨.inl ⟨by rw [HDEC.out, if_neg (fun h => HE.out (HZ.out.trans h.2))], rfl⟩, below_all hb hb4⟩
  · have hdn : decF b = none := by rw [HDEC.out, if_neg (fun h => hq512 h.1)]
    have HDN := Lib.hid hdn
    clear hdn
    have hq513 : ¬ ((q : Int) ≤ 512) := by omega
    have hq514 : (512 : Int) < (q : Int) := by omega
    refine wp_loop_rounds 1 ?_
    rw [rounds_succ]
    go_wp2_with fail
    refine (rEnd_any l1 e1 _).mono ?_
    rintro e w4 ⟨rfl, hb4⟩
    have hb04 : Below w.heap.size w w4 := below_all (hb1.alloc hb1.size (.cells #[.string (str l1), .int .i64 e1] 67)) hb4
    by_cases hend : endOf l1 e1 = 0
    · rw [hend]
      clear hend
      go_wp2_with fail
      go_ret2
      exact ⟨.inl ⟨HDN.out, rfl⟩, hb04⟩
    · obtain ⟨z, hz⟩ : ∃ z, z = endOf l1 e1 := ⟨_, rfl⟩
      rw [← hz] at hend ⊢
      have hz1 : (z != 0) = true := by simpa using hend
      clear hz hend
      go_wp2_with fail
      go_ret2
      exact ⟨.inl ⟨HDN.out, rfl⟩, hb04⟩
end Go.Proofs.Ytjkklndpfmemhaa
