/- pentimentoref05.Decode: what it answers. Conditions: the bytes fit memory. -/
import Derived.Test.YtbljacafmkdlmaaMgG
import Derived.Test.YtbljacafmkdlmaaRe
namespace Go.Proofs.Ytbljacafmkdlmaa
set_option maxRecDepth 100000
open Go.RowKit

/-- What is kept while the document's head is read: its reader, the head, the result's cell. -/
def RS (w0 w : World) (Z g r : Nat) (cs : Array Value) (l : List UInt8) (e : Int) : Prop :=
  Blk w r 121 #[.string (str l), .int .i64 e] ∧ Blk w g 56 cs ∧ Blk w Z 56 #[.int .i64 0, .int .i64 0, .string ⟨#[]⟩, .int .i64 0, .bool false, .slice none 0 0] ∧ Below w0.heap.size w0 w ∧ g ≠ Z ∧ w0.heap.size ≤ g ∧ w0.heap.size ≤ r ∧ w0.heap.size ≤ Z
section
variable {w0 w w' : World} {Z g r : Nat} {cs : Array Value} {l : List UInt8} {e : Int}
theorem RS.ne_ (h : RS w0 w Z g r cs l e) : g ≠ r ∧ Z ≠ r := ⟨h.2.1.ne_ h.1 (by decide), h.2.2.1.ne_ h.1 (by decide)⟩
theorem RS.below (h : RS w0 w Z g r cs l e) (hb : Below w.heap.size w w') : RS w0 w' Z g r cs l e :=
  ⟨h.1.belowAll hb, h.2.1.belowAll hb, h.2.2.1.belowAll hb, below_all h.2.2.2.1 hb, h.2.2.2.2⟩
theorem RS.alloc (h : RS w0 w Z g r cs l e) (o : Obj) : RS w0 (w.alloc o) Z g r cs l e := h.below ((Below.refl _ _).alloc (Nat.le_refl _) o)
theorem RS.rd (h : RS w0 w Z g r cs l e) (l' : List UInt8) (e' : Int) : RS w0 ((w.setCell ⟨r, 0, none⟩ (.string (str l'))).setCell ⟨r, 1, none⟩ (.int .i64 e')) Z g r cs l' e' :=
  ⟨(h.1.set_ 0 _).set_ 1 _, (h.2.1.far (p := ⟨r, 0, none⟩) h.ne_.1 _).far (p := ⟨r, 1, none⟩) h.ne_.1 _, (h.2.2.1.far (p := ⟨r, 0, none⟩) h.ne_.2 _).far (p := ⟨r, 1, none⟩) h.ne_.2 _,
    (h.2.2.2.1.setCell (p := ⟨r, 0, none⟩) h.2.2.2.2.2.2.1 _).setCell (p := ⟨r, 1, none⟩) h.2.2.2.2.2.2.1 _, h.2.2.2.2⟩
theorem RS.fld (h : RS w0 w Z g r cs l e) (i : Nat) (v : Value) : RS w0 (w.setCell ⟨g, i, none⟩ v) Z g r (cs.setIfInBounds i v) l e :=
  ⟨h.1.far (p := ⟨g, i, none⟩) h.ne_.1.symm _, h.2.1.set_ i v, h.2.2.1.far (p := ⟨g, i, none⟩) h.2.2.2.2.1.symm _, h.2.2.2.1.setCell (p := ⟨g, i, none⟩) h.2.2.2.2.2.1 _, h.2.2.2.2⟩
theorem RS.grown {row : Option Nat} (h : RS w0 w Z g r cs l e) (hg : w.grownBy w' row) (hr : ∀ k, row = some k → w0.heap.size ≤ k ∧ ∃ cur lh, w.heap[k]? = some (.cells cur 3 lh)) : RS w0 w' Z g r cs l e := by
  have hne : ∀ {k : Nat} {t : TypeId} {c : Array Value}, Blk w k t c → t ≠ 3 → row ≠ some k := fun {k t c} hb ht hk => by
    obtain ⟨_, cur, lh, hh⟩ := hr k hk
    unfold Blk at hb
    rw [hh] at hb
    injection hb with hb
    injection hb with _ hb
    exact ht hb.symm
  exact ⟨h.1.grown hg (hne h.1 (by decide)), h.2.1.grown hg (hne h.2.1 (by decide)), h.2.2.1.grown hg (hne h.2.2.1 (by decide)), h.2.2.2.1.grown hg h.2.2.2.1.size (fun k hk => (hr k hk).1), h.2.2.2.2⟩
theorem RS.cells (h : RS w0 w Z g r cs l e) : w.cell? ⟨r, 0, none⟩ = some (.string (str l)) ∧ w.cell? ⟨r, 1, none⟩ = some (.int .i64 e) ∧ w.frozen? ⟨r, 0, none⟩ = false ∧ w.frozen? ⟨r, 1, none⟩ = false := ⟨h.1.cell 0, h.1.cell 1, h.1.frozen 0, h.1.frozen 1⟩
end
theorem rhd_info (a b c d e f : Value) : (Try.prog.info? 56).map (·.size) = some (#[a, b, c, d, e, f] : Array Value).size := by
  show _ = some 6
  kernel_rfl
theorem rnumX (l : List UInt8) (e0 width : Int) (l' : List UInt8) (e' : Int) (x : Nat) (w : World) (hx : nm l e0 width = (l', e', x)) (hsz : l.length ≤ 9223372036854775807) :
    Calls Try.prog 70 #[.agg #[.string (str l), .int .i64 e0], .int .i64 width] w fun e w' => e = .returned (.tuple #[.agg #[.string (str l'), .int .i64 e'], .int .i64 (x : Int)]) ∧ Below w.heap.size w w' := by
  have h := rReadNum_any l e0 width w hsz
  rw [hx] at h
  exact h
theorem rtextX (l : List UInt8) (e0 width : Int) (l' : List UInt8) (e' : Int) (x : List UInt8) (w : World) (hx : tx l e0 width = (l', e', x)) (hsz : l.length ≤ 9223372036854775807) :
    Calls Try.prog 64 #[.agg #[.string (str l), .int .i64 e0], .int .i64 width] w fun e w' => e = .returned (.tuple #[.agg #[.string (str l'), .int .i64 e'], .string (str x)]) ∧ Below w.heap.size w w' := by
  have h := rReadText_any l e0 width w hsz
  rw [hx] at h
  exact h
theorem tx_len (l : List UInt8) (e width : Int) : (tx l e width).1.length ≤ l.length := by
  unfold tx
  refine Nat.le_trans ?_ (nm_len l e width)
  unfold tk
  split
  · exact Nat.le_refl _
  split
  · exact Nat.le_refl _
  split
  · exact Nat.le_refl _
  · rw [List.length_drop]; omega

set_option maxHeartbeats 4000000 in
theorem rDecode5_any (b : List UInt8) (w : World) (hsz : b.length ≤ 140737488355300) : Calls Try.prog 65 #[.string (str b)] w (HDecPost w b) := by
  have hz := Blk.new w 56 #[.int .i64 0, .int .i64 0, .string ⟨#[]⟩, .int .i64 0, .bool false, .slice none 0 0]
  have hbz := (Below.refl w.heap.size w).alloc (Nat.le_refl _) (.cells #[.int .i64 0, .int .i64 0, .string ⟨#[]⟩, .int .i64 0, .bool false, .slice none 0 0] 56)
  have hop := fun u => rOpen_any b u (by omega)
  cases ho : opened b with
  | none =>
    have hd : decH b = (noH, 51) := by unfold decH; rw [ho]
    rw [ho] at hop
    have HOP := Lib.hid hop
    have HD := Lib.hid hd
    clear hop hd ho
    go_enter Try.func65, Try.ntmps65
    go_wp2_with fail
    refine (HOP.out _).mono ?_
    rintro e w1 ⟨rfl, hb1⟩
    rw [show (none : Option (List UInt8)).isSome = false from rfl]
    have hz1 := hz.belowAll hb1
    obtain ⟨⟨f1, f2, f3, f4, f5, f6⟩, ⟨g1, g2, g3, g4, g5, g6⟩, hz2, hbe⟩ := hz1.put6 (.int .i64 0) (.int .i64 0) (.string ⟨#[]⟩) (.int .i64 0) (.bool false) (.slice none 0 0)
    go_wp2_with fail
    (try simp only [Exit.inBlock, Exit.then])
    refine bodyPost_ret (results_row_tmp rfl _ _ _ 56 _ (0, 0) _ rfl hz2 Try.underlying56 rfl (rhd_info _ _ _ _ _ _)) rfl ?_
    exact hdec_no HD.out (hbe w _ (below_all hbz hb1) (Nat.le_refl _))
  | some x =>
    have hx : openedB b = x := by unfold openedB; rw [ho]; rfl
    rw [ho, hx] at hop
    have hxl : x.length ≤ 140737488355300 := by
      have h2 := congrArg List.length (opened_some ho)
      rw [sealed_length] at h2
      omega
    have hd : decH b = if endOf (s7 (tk x 0 10 false).1 (tk x 0 10 false).2.1).1 (s7 (tk x 0 10 false).1 (tk x 0 10 false).2.1).2.1 ≠ 0 ∨ (fld (tk x 0 10 false).1 (tk x 0 10 false).2.1).right = false ∨ sealed (fld (tk x 0 10 false).1 (tk x 0 10 false).2.1).text ≠ b then (noH, 50)
    else (fld (tk x 0 10 false).1 (tk x 0 10 false).2.1, 0) := by
      rw [← decR_eq]
      unfold decR
      rw [ho]
    have hS := fun u => rSkip_any x 0 10 u
    rw [show decide ((10 : Int) < 0) = false from rfl] at hS
    have hl0n : (tk x 0 10 false).1.length ≤ x.length := by
      unfold tk
      split
      · exact Nat.le_refl _
      split
      · exact Nat.le_refl _
      split
      · exact Nat.le_refl _
      · rw [List.length_drop]; omega
    obtain ⟨l0, hl0⟩ : ∃ l0, l0 = (tk x 0 10 false).1 := ⟨_, rfl⟩
    obtain ⟨e0, he0⟩ : ∃ e0, e0 = (tk x 0 10 false).2.1 := ⟨_, rfl⟩
    rw [← hl0] at hl0n
    rw [← hl0, ← he0] at hd
    simp only [← hl0, ← he0] at hS
    have HOP := Lib.hid hop
    have HS := Lib.hid hS
    clear hop hS ho hx hl0 he0
    have L0 : l0.length ≤ 9223372036854775807 := by omega
    obtain ⟨l1, e1, x1, hx1⟩ : ∃ l1 e1 x1, nm l0 e0 1 = (l1, e1, x1) := ⟨_, _, _, rfl⟩
    have L1 : l1.length ≤ 9223372036854775807 := by have h := nm_len l0 e0 1; rw [hx1] at h; exact Nat.le_trans h L0
    obtain ⟨l2, e2, x2, hx2⟩ : ∃ l2 e2 x2, nm l1 e1 2 = (l2, e2, x2) := ⟨_, _, _, rfl⟩
    have L2 : l2.length ≤ 9223372036854775807 := by have h := nm_len l1 e1 2; rw [hx2] at h; exact Nat.le_trans h L1
    obtain ⟨l3, e3, x3, hx3⟩ : ∃ l3 e3 x3, tx l2 e2 1 = (l3, e3, x3) := ⟨_, _, _, rfl⟩
    have L3 : l3.length ≤ 9223372036854775807 := by have h := tx_len l2 e2 1; rw [hx3] at h; exact Nat.le_trans h L2
    obtain ⟨l4, e4, x4, hx4⟩ : ∃ l4 e4 x4, nm l3 e3 8 = (l4, e4, x4) := ⟨_, _, _, rfl⟩
    have L4 : l4.length ≤ 9223372036854775807 := by have h := nm_len l3 e3 8; rw [hx4] at h; exact Nat.le_trans h L3
    obtain ⟨l5, e5, x5, hx5⟩ : ∃ l5 e5 x5, nm l4 e4 1 = (l5, e5, x5) := ⟨_, _, _, rfl⟩
    have L5 : l5.length ≤ 9223372036854775807 := by have h := nm_len l4 e4 1; rw [hx5] at h; exact Nat.le_trans h L4
    obtain ⟨l6, e6, x6, hx6⟩ : ∃ l6 e6 x6, nm l5 e5 1 = (l6, e6, x6) := ⟨_, _, _, rfl⟩
    have L6 : l6.length ≤ 9223372036854775807 := by have h := nm_len l5 e5 1; rw [hx6] at h; exact Nat.le_trans h L5
    have k1 : s1 l0 e0 = (l1, e1, x1) := hx1
    have k2 : s2 l0 e0 = (l2, e2, x2) := by unfold s2; rw [k1]; exact hx2
    have k3 : s3 l0 e0 = (l3, e3, x3) := by unfold s3; rw [k2]; exact hx3
    have k4 : s4 l0 e0 = (l4, e4, x4) := by unfold s4; rw [k3]; exact hx4
    have k5 : s5 l0 e0 = (l5, e5, x5) := by unfold s5; rw [k4]; exact hx5
    have k6 : s6 l0 e0 = (l6, e6, x6) := by unfold s6; rw [k5]; exact hx6
    have k7 : s7 l0 e0 = rk x6 l6 e6 := by unfold s7; rw [k6]
    have hx6n : x6 < 256 := by
      have h : x6 = (nm l5 e5 1).2.2 := by rw [hx6]
      rw [h]
      exact nm1_lt l5 e5
    have hx3n : x3.length ≤ 255 := by
      have h : x3 = (tx l2 e2 1).2.2 := by rw [hx3]
      rw [h]
      exact tx1_lt l2 e2
    have hfld : fld l0 e0 = ⟨x1, x2, x3, x4, decide (x5 = 1), (rk x6 l6 e6).2.2⟩ := by unfold fld; rw [k1, k2, k3, k4, k5, k7]
    rw [k7, hfld] at hd
    have HD2 := Lib.hid hd
    clear hd hfld k1 k2 k3 k4 k5 k6 k7
    have HX1 := Lib.hid hx1
    clear hx1
    have HX2 := Lib.hid hx2
    clear hx2
    have HX3 := Lib.hid hx3
    clear hx3
    have HX4 := Lib.hid hx4
    clear hx4
    have HX5 := Lib.hid hx5
    clear hx5
    have HX6 := Lib.hid hx6
    clear hx6
    obtain ⟨i0, hi0, hz0, hz1, hz2⟩ := info_parts info_int
    go_enter Try.func65, Try.ntmps65
    go_wp2_with fail
    refine (HOP.out _).mono ?_
    rintro e w1 ⟨rfl, hb1⟩
    rw [show (some x).isSome = true from rfl]
    have hz1' := hz.belowAll hb1
    have hbb1 := below_all hbz hb1
    go_wp2_with fail
    refine (HS.out _).mono ?_
    rintro e w2 ⟨rfl, hb2⟩
    have R : RS w (w2.alloc (.cells #[.string (str l0), .int .i64 e0] 121)) w.heap.size w1.heap.size w2.heap.size #[.int .i64 0, .int .i64 0, .string ⟨#[]⟩, .int .i64 0, .bool false, .slice none 0 0] l0 e0 := by
      have hg := (Blk.new w1 56 #[.int .i64 0, .int .i64 0, .string ⟨#[]⟩, .int .i64 0, .bool false, .slice none 0 0]).belowAll hb2
      have hzz := (hz1'.alloc (.cells #[.int .i64 0, .int .i64 0, .string ⟨#[]⟩, .int .i64 0, .bool false, .slice none 0 0] 56)).belowAll hb2
      have hbb2 := below_all (hbb1.alloc hbb1.size (.cells #[.int .i64 0, .int .i64 0, .string ⟨#[]⟩, .int .i64 0, .bool false, .slice none 0 0] 56)) hb2
      exact ⟨Blk.new _ _ _, hg.alloc _, hzz.alloc _, hbb2.alloc hbb2.size _, by have := hz1'.lt; omega, hbb1.size, hbb2.size, Nat.le_refl _⟩
    clear hz hbz hz1' hb1 hbb1 hb2
    obtain ⟨q1, q2, q3, q4⟩ := R.cells
    go_wp2_with fail
    refine (rnumX l0 e0 1 l1 e1 x1 _ HX1.out L0).mono ?_
    rintro e v1 ⟨rfl, hv1⟩
    clear q1 q2 q3 q4
    have R := R.below hv1
    obtain ⟨q1, q2, q3, q4⟩ := R.cells
    have R := R.rd l1 e1
    clear hv1
    have qc := R.2.1.cell 0
    have qf := R.2.1.frozen 0
    simp only [List.getElem?_toArray, List.getElem?_cons_zero] at qc
    have R : RS w _ w.heap.size w1.heap.size w2.heap.size #[.int .i64 (x1 : Int), .int .i64 0, .string ⟨#[]⟩, .int .i64 0, .bool false, .slice none 0 0] l1 e1 := R.fld 0 (.int .i64 (x1 : Int))
    obtain ⟨q1, q2, q3, q4⟩ := R.cells
    go_wp2_with fail
    refine (rnumX l1 e1 2 l2 e2 x2 _ HX2.out L1).mono ?_
    rintro e v2 ⟨rfl, hv2⟩
    clear q1 q2 q3 q4
    have R := R.below hv2
    obtain ⟨q1, q2, q3, q4⟩ := R.cells
    have R := R.rd l2 e2
    clear hv2
    have qc := R.2.1.cell 1
    have qf := R.2.1.frozen 1
    simp only [List.getElem?_toArray, List.getElem?_cons_zero, List.getElem?_cons_succ] at qc
    have R : RS w _ w.heap.size w1.heap.size w2.heap.size #[.int .i64 (x1 : Int), .int .i64 (x2 : Int), .string ⟨#[]⟩, .int .i64 0, .bool false, .slice none 0 0] l2 e2 := R.fld 1 (.int .i64 (x2 : Int))
    obtain ⟨q1, q2, q3, q4⟩ := R.cells
    go_wp2_with fail
    refine (rtextX l2 e2 1 l3 e3 x3 _ HX3.out L2).mono ?_
    rintro e v3 ⟨rfl, hv3⟩
    clear q1 q2 q3 q4
    have R := R.below hv3
    obtain ⟨q1, q2, q3, q4⟩ := R.cells
    have R := R.rd l3 e3
    clear hv3
    have qc := R.2.1.cell 2
    have qf := R.2.1.frozen 2
    simp only [List.getElem?_toArray, List.getElem?_cons_zero, List.getElem?_cons_succ] at qc
    have R : RS w _ w.heap.size w1.heap.size w2.heap.size #[.int .i64 (x1 : Int), .int .i64 (x2 : Int), .string (str x3), .int .i64 0, .bool false, .slice none 0 0] l3 e3 := R.fld 2 (.string (str x3))
    obtain ⟨q1, q2, q3, q4⟩ := R.cells
    go_wp2_with fail
    refine (rnumX l3 e3 8 l4 e4 x4 _ HX4.out L3).mono ?_
    rintro e v4 ⟨rfl, hv4⟩
    clear q1 q2 q3 q4
    have R := R.below hv4
    obtain ⟨q1, q2, q3, q4⟩ := R.cells
    have R := R.rd l4 e4
    clear hv4
    have qc := R.2.1.cell 3
    have qf := R.2.1.frozen 3
    simp only [List.getElem?_toArray, List.getElem?_cons_zero, List.getElem?_cons_succ] at qc
    have R : RS w _ w.heap.size w1.heap.size w2.heap.size #[.int .i64 (x1 : Int), .int .i64 (x2 : Int), .string (str x3), .int .i64 (x4 : Int), .bool false, .slice none 0 0] l4 e4 := R.fld 3 (.int .i64 (x4 : Int))
    obtain ⟨q1, q2, q3, q4⟩ := R.cells
    go_wp2_with fail
    refine (rnumX l4 e4 1 l5 e5 x5 _ HX5.out L4).mono ?_
    rintro e v5 ⟨rfl, hv5⟩
    clear q1 q2 q3 q4
    have R := R.below hv5
    obtain ⟨q1, q2, q3, q4⟩ := R.cells
    have R := R.rd l5 e5
    clear hv5
    obtain ⟨cb, hcb, hcd⟩ : ∃ cb, (((x5 : Nat) : Int) == 1) = cb ∧ decide (x5 = 1) = cb := ⟨_, rfl, by rw [Bool.eq_iff_iff]; simp; omega⟩
    have HCD := Lib.hid hcd
    clear hcd
    have qc := R.2.1.cell 4
    have qf := R.2.1.frozen 4
    simp only [List.getElem?_toArray, List.getElem?_cons_zero, List.getElem?_cons_succ] at qc
    have R : RS w _ w.heap.size w1.heap.size w2.heap.size #[.int .i64 (x1 : Int), .int .i64 (x2 : Int), .string (str x3), .int .i64 (x4 : Int), .bool cb, .slice none 0 0] l5 e5 := R.fld 4 (.bool cb)
    obtain ⟨q1, q2, q3, q4⟩ := R.cells
    go_wp2_with fail
    refine (rnumX l5 e5 1 l6 e6 x6 _ HX6.out L5).mono ?_
    rintro e v6 ⟨rfl, hv6⟩
    clear q1 q2 q3 q4
    have R := R.below hv6
    obtain ⟨q1, q2, q3, q4⟩ := R.cells
    have R := R.rd l6 e6
    clear hv6
    go_wp2_with fail
    go_loopw [9] (fun i wr => ∃ (k : Nat) (A2 : Option Addr) (c2 : Nat), k ≤ x6 ∧ i = .int .i64 k ∧ RS w wr w.heap.size w1.heap.size w2.heap.size #[.int .i64 (x1 : Int), .int .i64 (x2 : Int), .string (str x3), .int .i64 (x4 : Int), .bool cb, .slice A2 k c2] (rk k l6 e6).1 (rk k l6 e6).2.1 ∧ Own wr w.heap.size 3 1 A2 k c2 (iv (rk k l6 e6).2.2)) (fun i _ => x6 - (intOf i).toNat)
    case atStart => exact ⟨0, none, 0, Nat.zero_le _, rfl, R, Own.nil _ _ _ _ _⟩
    case round =>
      obtain ⟨k, A2, c2, hk, rfl, R, hown⟩ := hrel
      by_cases hlt : k < x6
      · obtain ⟨t, ht⟩ : ∃ t, t = rk k l6 e6 := ⟨_, rfl⟩
        have hrk : rk (k + 1) l6 e6 = ((nm t.1 t.2.1 2).1, (nm t.1 t.2.1 2).2.1, t.2.2 ++ [((nm t.1 t.2.1 2).2.2 : Int)]) := by rw [ht]; rfl
        have LK : t.1.length ≤ 9223372036854775807 := by rw [ht]; exact Nat.le_trans (rk_len k l6 e6) L6
        rw [← ht] at R hown
        obtain ⟨lk, ek, vs⟩ := t
        obtain ⟨l9, e9, x9, hx9⟩ : ∃ l9 e9 x9, nm lk ek 2 = (l9, e9, x9) := ⟨_, _, _, rfl⟩
        simp only [hx9] at hrk
        simp only at R hown LK
        have HXK := Lib.hid hx9
        have HRK : Hid (rk (k + 1) l6 e6 = (l9, e9, vs ++ [(x9 : Int)])) := Lib.hid hrk
        have hiv : iv (vs ++ [(x9 : Int)]) = iv vs ++ [.int .i64 (x9 : Int)] := by rw [iv_append]; rfl
        have HIV := Lib.hid hiv
        clear ht hrk hx9 hiv
        obtain ⟨q1, q2, q3, q4⟩ := R.cells
        go_wp2_with fail
        refine (rnumX lk ek 2 l9 e9 x9 _ HXK.out LK).mono ?_
        rintro e vk ⟨rfl, hvk⟩
        clear q1 q2 q3 q4
        have R := (R.below hvk).alloc (.cells #[.string (str l9), .int .i64 e9] 121)
        have hown := (hown.below hvk).alloc (.cells #[.string (str l9), .int .i64 e9] 121)
        obtain ⟨q1, q2, q3, q4⟩ := R.cells
        have hne := hown.blk_ne R.1 (by decide)
        have hown := (hown.setCell (p := ⟨w2.heap.size, 0, none⟩) hne (.string (str l9))).setCell (p := ⟨w2.heap.size, 1, none⟩) hne (.int .i64 e9)
        have R := R.rd l9 e9
        have qc := R.2.1.cell 5
        simp only [List.getElem?_toArray, List.getElem?_cons_zero, List.getElem?_cons_succ] at qc
        have R := R.alloc (.cells #[.int .i64 (x9 : Int)] 3)
        have hown := hown.alloc (.cells #[.int .i64 (x9 : Int)] 3)
        have hsrc : Src Try.prog ((((vk.alloc (.cells #[.string (str l9), .int .i64 e9] 121)).setCell ⟨w2.heap.size, 0, none⟩ (.string (str l9))).setCell ⟨w2.heap.size, 1, none⟩ (.int .i64 e9)).alloc (.cells #[.int .i64 (x9 : Int)] 3)) 43 (.slice (some ⟨vk.heap.size + 1, 0, none⟩) 1 1) 1 1 [.int .i64 (x9 : Int)] := by
          have h := Src.new (P := Try.prog) (w := (((vk.alloc (.cells #[.string (str l9), .int .i64 e9] 121)).setCell ⟨w2.heap.size, 0, none⟩ (.string (str l9))).setCell ⟨w2.heap.size, 1, none⟩ (.int .i64 e9))) (tx := 43) (e := 3) (cs := #[.int .i64 (x9 : Int)]) (size := 1) (m := 1) (c := 1) Try.underlying43 rfl (by simp [Value.oneCell'])
          rw [World.size_setCell, World.size_setCell, World.size_alloc] at h
          exact h
        go_wp2_with (at_builtin; refine wpList_app _ rfl _ _ 43 43 rfl w.heap.size 3 i0 _ 1 8 Try.underlying43 hi0 hz0 hz1 hz2 rfl A2 k c2 _ rfl hown _ 1 _ rfl hsrc (by simp only [maxLen]; omega) (by omega) (R.2.2.2.1.size) ?_; intro A3 c3 w3 hown3 hg3 hb3; have R3 := R.grown hg3 (fun k hk => ⟨(hown.lt k hk).1, hown.ty k hk⟩); have qc3 := R3.2.1.cell 5; have qf3 := R3.2.1.frozen 5; simp only [List.getElem?_toArray, List.getElem?_cons_zero, List.getElem?_cons_succ] at qc3)
        go_roundw
        case rel => exact ⟨k + 1, A3, c3, by omega, by go_num, by rw [HRK.out]; exact R3.fld 5 _, by rw [HRK.out]; show Own _ _ _ _ _ _ _ (iv (vs ++ _)); rw [HIV.out]; exact (hown3.setCell (p := ⟨w1.heap.size, 5, none⟩) (hown3.blk_ne R3.2.1 (by decide)) _)⟩
        case measure => simp [intOf]; omega
      · obtain rfl : k = x6 := by omega
        have hvl := rk_length k l6 e6
        have hd := HD2.out
        rw [HCD.out] at hd
        obtain ⟨t, ht⟩ : ∃ t, t = rk k l6 e6 := ⟨_, rfl⟩
        rw [← ht] at R hown hvl hd
        obtain ⟨l7, e7, vs⟩ := t
        simp only at R hown hvl hd
        have HD3 := Lib.hid hd
        have hE := fun u hu => rEncode5_any ⟨(x1 : Int), (x2 : Int), x3, (x4 : Int), cb, vs⟩ A2 c2 u hu (by simp only; omega) (by simp only; omega)
        simp only at hE
        rw [hvl] at hE
        obtain ⟨rt7, hrt7⟩ : ∃ rt7, rt7 = (⟨(x1 : Int), (x2 : Int), x3, (x4 : Int), cb, vs⟩ : Hd).right := ⟨_, rfl⟩
        obtain ⟨tx7, htx7⟩ : ∃ tx7, tx7 = sealed (⟨(x1 : Int), (x2 : Int), x3, (x4 : Int), cb, vs⟩ : Hd).text := ⟨_, rfl⟩
        rw [← hrt7, ← htx7] at HD3
        simp only [← hrt7, ← htx7] at hE
        have HE := Lib.hid hE
        have HVL := Lib.hid hvl
        have hkc : k ≤ c2 := hown.2.1
        clear hd ht hE hvl HD2 HCD hcb hrt7 htx7
        cases rt7
        · have hE2 := HE.out
          simp only [Bool.false_eq_true, if_false] at hE2
          have HE2 := Lib.hid hE2
          clear hE2 HE
          obtain ⟨⟨f1, f2, f3, f4, f5, f6⟩, f7⟩ := R.2.1.six
          go_wp2_with fail
          refine (HE2.out _ hown.row).mono ?_
          rintro e w8 ⟨rfl, hb8⟩
          have R8 := R.below hb8
          have hown8 := hown.below hb8
          clear f1 f2 f3 f4 f5 f6 f7
          obtain ⟨q1, q2, q3, q4⟩ := R8.cells
          go_wp2_with fail
          refine (rEnd_any l7 e7 _).mono ?_
          rintro e w9 ⟨rfl, hb9⟩
          have R9 := R8.below hb9
          have hown9 := hown8.below hb9
          clear q1 q2 q3 q4 R8 hown8 hb8 hb9 R hown
          by_cases hend : endOf l7 e7 = 0
          · rw [hend]
            clear hend
            obtain ⟨⟨f1, f2, f3, f4, f5, f6⟩, ⟨g1, g2, g3, g4, g5, g6⟩, hz2, hbe⟩ := R9.2.2.1.put6 (.int .i64 0) (.int .i64 0) (.string ⟨#[]⟩) (.int .i64 0) (.bool false) (.slice none 0 0)
            go_wp2_with fail
            (try simp only [Exit.inBlock, Exit.then])
            refine bodyPost_ret (results_row_tmp rfl _ _ _ 56 _ (0, 0) _ rfl hz2 Try.underlying56 rfl (rhd_info _ _ _ _ _ _)) rfl ?_
            exact hdec_no (by rw [HD3.out, if_pos (.inr (.inl (by trivial)))]) (hbe w _ R9.2.2.2.1 (Nat.le_refl _))
          · obtain ⟨z, hz⟩ : ∃ z, z = endOf l7 e7 := ⟨_, rfl⟩
            rw [← hz] at hend ⊢
            have HZ := Lib.hid hz
            clear hz
            have hz1 : (z != 0) = true := by simpa using hend
            have HEN := Lib.hid hend
            clear hend
            obtain ⟨⟨f1, f2, f3, f4, f5, f6⟩, ⟨g1, g2, g3, g4, g5, g6⟩, hz2, hbe⟩ := R9.2.2.1.put6 (.int .i64 0) (.int .i64 0) (.string ⟨#[]⟩) (.int .i64 0) (.bool false) (.slice none 0 0)
            go_wp2_with fail
            (try simp only [Exit.inBlock, Exit.then])
            refine bodyPost_ret (results_row_tmp rfl _ _ _ 56 _ (0, 0) _ rfl hz2 Try.underlying56 rfl (rhd_info _ _ _ _ _ _)) rfl ?_
            exact hdec_no (by rw [HD3.out, if_pos (.inl (by rw [← HZ.out]; exact HEN.out))]) (hbe w _ R9.2.2.2.1 (Nat.le_refl _))
        · have hE2 := HE.out
          simp only [if_true] at hE2
          have HE2 := Lib.hid hE2
          clear hE2 HE
          obtain ⟨⟨f1, f2, f3, f4, f5, f6⟩, f7⟩ := R.2.1.six
          go_wp2_with fail
          refine (HE2.out _ hown.row).mono ?_
          rintro e w8 ⟨rfl, hb8⟩
          have R8 := R.below hb8
          have hown8 := hown.below hb8
          clear f1 f2 f3 f4 f5 f6 f7
          obtain ⟨q1, q2, q3, q4⟩ := R8.cells
          go_wp2_with fail
          refine (rEnd_any l7 e7 _).mono ?_
          rintro e w9 ⟨rfl, hb9⟩
          have R9 := R8.below hb9
          have hown9 := hown8.below hb9
          clear q1 q2 q3 q4 R8 hown8 hb8 hb9 R hown
          by_cases hend : endOf l7 e7 = 0
          · have HEN := Lib.hid hend
            rw [hend]
            clear hend
            by_cases htb : tx7 = b
            · have htb1 : (tx7 == b) = true := by rw [beq_iff_eq]; exact htb
              have htb2 : (tx7 != b) = false := by rw [bne, htb1]; rfl
              have hd4 : decH b = (⟨(x1 : Int), (x2 : Int), x3, (x4 : Int), cb, vs⟩, 0) := by
                rw [HD3.out, if_neg]
                rintro (h | h | h)
                · exact h HEN.out
                · cases h
                · exact h htb
              have HD4 := Lib.hid hd4
              clear hd4 htb
              have hz2 := R9.2.2.1.row #[.int .i64 (x1 : Int), .int .i64 (x2 : Int), .string (str x3), .int .i64 (x4 : Int), .bool cb, .slice A2 k c2]
              have hon2 := only_row w9 w.heap.size #[.int .i64 (x1 : Int), .int .i64 (x2 : Int), .string (str x3), .int .i64 (x4 : Int), .bool cb, .slice A2 k c2]
              have hownz := hown9.only hon2 (fun k hk => hown9.blk_ne R9.2.2.1 (by decide) k hk)
              have hrowz := hownz.row
              have HOWNZ := Lib.hid hownz
              clear hownz
              go_upto_region 23 with fail
              refine wp_region_lit ?_
              refine wpList_load_row rfl 56 _ rfl w1.heap.size rfl 56 _ (0, 0) _ R9.2.1 Try.underlying56 rfl (rhd_info _ _ _ _ _ _) ?_
              refine wpList_store_row rfl 56 _ _ rfl w.heap.size #[.int .i64 (x1 : Int), .int .i64 (x2 : Int), .string (str x3), .int .i64 (x4 : Int), .bool cb, .slice A2 k c2] rfl rfl 56 _ R9.2.2.1 (rhd_info _ _ _ _ _ _) rfl (by simp [Value.oneCell']) ?_
              go_wp2_with fail
              (try simp only [Exit.inBlock, Exit.then])
              refine bodyPost_ret (results_row_tmp rfl _ _ _ 56 _ (0, 0) _ rfl hz2 Try.underlying56 rfl (rhd_info _ _ _ _ _ _)) rfl ?_
              refine ⟨A2, c2, ?_, ?_, ?_, R9.2.2.2.1.trans (hon2.belowB (fun k hk => by have : k = w.heap.size := hk; omega) R9.2.2.2.1.size), ?_⟩
              · rw [HD4.out]
                simp only
                rw [HVL.out]
                rfl
              · rw [HD4.out]
                simp only
                rw [HVL.out]
                exact hkc
              · rw [HD4.out]
                exact hrowz
              · rw [HD4.out]
                exact Ity.of_own HOWNZ.out
            · have htb1 : (tx7 == b) = false := by rw [beq_eq_false_iff_ne]; exact htb
              have htb2 : (tx7 != b) = true := by rw [bne, htb1]; rfl
              have HTB := Lib.hid htb
              clear htb
              obtain ⟨⟨f1, f2, f3, f4, f5, f6⟩, ⟨g1, g2, g3, g4, g5, g6⟩, hz2, hbe⟩ := R9.2.2.1.put6 (.int .i64 0) (.int .i64 0) (.string ⟨#[]⟩) (.int .i64 0) (.bool false) (.slice none 0 0)
              go_wp2_with fail
              (try simp only [Exit.inBlock, Exit.then])
              refine bodyPost_ret (results_row_tmp rfl _ _ _ 56 _ (0, 0) _ rfl hz2 Try.underlying56 rfl (rhd_info _ _ _ _ _ _)) rfl ?_
              exact hdec_no (by rw [HD3.out, if_pos (.inr (.inr HTB.out))]) (hbe w _ R9.2.2.2.1 (Nat.le_refl _))
          · obtain ⟨z, hz⟩ : ∃ z, z = endOf l7 e7 := ⟨_, rfl⟩
            rw [← hz] at hend ⊢
            have HZ := Lib.hid hz
            clear hz
            have hz1 : (z != 0) = true := by simpa using hend
            have HEN := Lib.hid hend
            clear hend
            obtain ⟨⟨f1, f2, f3, f4, f5, f6⟩, ⟨g1, g2, g3, g4, g5, g6⟩, hz2, hbe⟩ := R9.2.2.1.put6 (.int .i64 0) (.int .i64 0) (.string ⟨#[]⟩) (.int .i64 0) (.bool false) (.slice none 0 0)
            go_wp2_with fail
            (try simp only [Exit.inBlock, Exit.then])
            refine bodyPost_ret (results_row_tmp rfl _ _ _ 56 _ (0, 0) _ rfl hz2 Try.underlying56 rfl (rhd_info _ _ _ _ _ _)) rfl ?_
            exact hdec_no (by rw [HD3.out, if_pos (.inl (by rw [← HZ.out]; exact HEN.out))]) (hbe w _ R9.2.2.2.1 (Nat.le_refl _))
end Go.Proofs.Ytbljacafmkdlmaa

