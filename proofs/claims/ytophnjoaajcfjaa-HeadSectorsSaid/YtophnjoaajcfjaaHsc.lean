/- Sectors of a head, as the code and as the document count them; Newer. Conditions: the lengths fit memory. -/
import Derived.Test.YtophnjoaajcfjaaRr5
import Derived.Test.YtophnjoaajcfjaaBlk
namespace Go.Proofs.Ytophnjoaajcfjaa
open Go.RowKit

theorem ret_i64 {a b : Int} (h : a = b) : Ending.returned (.int .i64 a) = .returned (.int .i64 b) := by rw [h]
def Hd.sec (h : Hd) : Int := if h.right then h.z * 2 ^ h.b.toNat else 0

set_option maxHeartbeats 1000000 in
theorem newer_any (b1 z1 g1 b2 z2 g2 : Int) (n1 n2 : List UInt8) (c1 c2 : Bool) (S1 S2 : Value) (w : World) :
    Calls Try.prog 16 #[.agg #[.int .i64 b1, .int .i64 z1, .string (str n1), .int .i64 g1, .bool c1, S1], .agg #[.int .i64 b2, .int .i64 z2, .string (str n2), .int .i64 g2, .bool c2, S2]] w
      fun e w' => e = .returned (.bool (decide (g2 < g1))) ∧ Below w.heap.size w w' := by
  have hb : ∀ (x y : Obj), Below w.heap.size w ((w.alloc x).alloc y) := fun x y => ((Below.refl _ _).alloc (Nat.le_refl _) _).alloc (by simp) _
  by_cases h : g2 < g1
  all_goals
    go_enter Try.func16, Try.ntmps16
    go_wp2_with fail
    go_ret
    exact ⟨ret_bool (by simp [h]), hb _ _⟩

set_option maxHeartbeats 2000000 in
theorem hSectors_any (h : Hd) (A : Option Addr) (c : Nat) (w : World) (hr : Row w A (iv h.p)) (hp : h.p.length ≤ 17592186044416) (hnl : h.n.length ≤ 140737488355328) :
    Calls Try.prog 14 #[.agg #[.int .i64 h.b, .int .i64 h.z, .string (str h.n), .int .i64 h.g, .bool h.c, .slice A h.p.length c]] w fun e w' => e = .returned (.int .i64 h.sec) ∧ Below w.heap.size w w' := by
  have hB := Blk.new w 30 #[.int .i64 h.b, .int .i64 h.z, .string (str h.n), .int .i64 h.g, .bool h.c, .slice A h.p.length c]
  have hb := (Below.refl w.heap.size w).alloc (Nat.le_refl _) (.cells #[.int .i64 h.b, .int .i64 h.z, .string (str h.n), .int .i64 h.g, .bool h.c, .slice A h.p.length c] 30)
  have hra := hr.alloc (.cells #[.int .i64 h.b, .int .i64 h.z, .string (str h.n), .int .i64 h.g, .bool h.c, .slice A h.p.length c] 30)
  have hR := fun u (hu : Row u A (iv h.p)) => hRight_any h A c u hu hp hnl
  have hsec : h.sec = if h.right then h.z * 2 ^ h.b.toNat else 0 := rfl
  have HS := Lib.hid hsec
  have HR := Lib.hid hR
  clear hsec hR
  obtain ⟨m, hm⟩ : ∃ m, m = h.p.length := ⟨_, rfl⟩
  rw [← hm] at hB hb hra HR hp ⊢
  clear hm hr
  obtain ⟨⟨f1, f2, f3, f4, f5, f6⟩, f7⟩ := hB.six
  go_enter Try.func14, Try.ntmps14
  go_wp2_with fail
  refine (HR.out _ hra).mono ?_
  rintro e w1 ⟨rfl, hb1⟩
  have hB1 := hB.belowAll hb1
  have hb01 := below_all hb hb1
  clear f1 f2 f3 f4 f5 f6
  obtain ⟨⟨f1, f2, f3, f4, f5, f6⟩, f8⟩ := hB1.six
  cases hright : h.right
  · have HRT := Lib.hid hright
    clear hright
    go_wp2_with fail
    go_ret
    exact ⟨by rw [HS.out, HRT.out]; rfl, hb01⟩
  · have hof := h.right_of hright
    obtain ⟨q1, q2, q3, q4, _⟩ := hof
    have HRT := Lib.hid hright
    clear hright
    obtain ⟨z, hz⟩ : ∃ z, z = h.z := ⟨_, rfl⟩
    obtain ⟨b, hb⟩ : ∃ b, b = h.b := ⟨_, rfl⟩
    rw [← hz] at f2 q3 q4 HS
    rw [← hb] at f1 q1 q2 HS
    have HS2 : Hid (h.sec = z * 2 ^ b.toNat) := Lib.hid (by rw [HS.out, HRT.out]; rfl)
    have hcase : b = 0 ∨ b = 1 ∨ b = 2 ∨ b = 3 := by omega
    clear hz hb HS
    rcases hcase with rfl | rfl | rfl | rfl
    all_goals
      go_wp2_with fail
      go_ret
      refine ⟨?_, hb01⟩
      rw [HS2.out]
      all_goals refine ret_i64 ?_
      all_goals first | rfl | (simp; done) | (simp; omega)

set_option maxHeartbeats 2000000 in
theorem rSectors5_any (h : Hd) (A : Option Addr) (c : Nat) (w : World) (hr : Row w A (iv h.p)) (hp : h.p.length ≤ 17592186044416) (hnl : h.n.length ≤ 140737488355328) :
    Calls Try.prog 15 #[.agg #[.int .i64 h.b, .int .i64 h.z, .string (str h.n), .int .i64 h.g, .bool h.c, .slice A h.p.length c]] w fun e w' => e = .returned (.int .i64 h.sec) ∧ Below w.heap.size w w' := by
  have hB := Blk.new w 24 #[.int .i64 h.b, .int .i64 h.z, .string (str h.n), .int .i64 h.g, .bool h.c, .slice A h.p.length c]
  have hb := (Below.refl w.heap.size w).alloc (Nat.le_refl _) (.cells #[.int .i64 h.b, .int .i64 h.z, .string (str h.n), .int .i64 h.g, .bool h.c, .slice A h.p.length c] 24)
  have hra := hr.alloc (.cells #[.int .i64 h.b, .int .i64 h.z, .string (str h.n), .int .i64 h.g, .bool h.c, .slice A h.p.length c] 24)
  have hR := fun u (hu : Row u A (iv h.p)) => rRight5_any h A c u hu hp hnl
  have hsec : h.sec = if h.right then h.z * 2 ^ h.b.toNat else 0 := rfl
  have HS := Lib.hid hsec
  have HR := Lib.hid hR
  clear hsec hR
  obtain ⟨m, hm⟩ : ∃ m, m = h.p.length := ⟨_, rfl⟩
  rw [← hm] at hB hb hra HR hp ⊢
  clear hm hr
  have hsix := hB.six
  obtain ⟨⟨f1, f2, f3, f4, f5, f6⟩, f7⟩ := hsix
  cases hright : h.right
  · have HRT := Lib.hid hright
    clear hright
    by_cases hb0 : 0 < h.b
    · go_enter Try.func15, Try.ntmps15
      go_wp2_with fail
      go_loopw [3, 4] (fun v i wr => ∃ z0, v = .int .i64 z0 ∧ i = .int .i64 0 ∧ wr = w.alloc (.cells #[.int .i64 h.b, .int .i64 h.z, .string (str h.n), .int .i64 h.g, .bool h.c, .slice A m c] 24)) (fun _ _ _ => 0)
      case atStart => exact ⟨_, rfl, rfl, rfl⟩
      case round =>
        obtain ⟨z0, rfl, rfl, rfl⟩ := hrel
        go_wp2_with fail
        refine (HR.out _ hra).mono ?_
        rintro e w1 ⟨rfl, hb1⟩
        rw [HRT.out]
        obtain ⟨⟨f1, f2, f3, f4, f5, f6⟩, f8⟩ := (hB.belowAll hb1).six
        have hra1 := hra.below hb1
        have hb01 := below_all hb hb1
        go_wp2_with fail
        refine (HR.out _ hra1).mono ?_
        rintro e w2 ⟨rfl, hb2⟩
        rw [HRT.out]
        go_wp2_with fail
        go_ret
        exact ⟨by rw [HS.out, HRT.out]; rfl, below_all hb01 hb2⟩
    · go_enter Try.func15, Try.ntmps15
      go_wp2_with fail
      go_loopw [3, 4] (fun v i wr => ∃ z0, v = .int .i64 z0 ∧ i = .int .i64 0 ∧ wr = w.alloc (.cells #[.int .i64 h.b, .int .i64 h.z, .string (str h.n), .int .i64 h.g, .bool h.c, .slice A m c] 24)) (fun _ _ _ => 0)
      case atStart => exact ⟨_, rfl, rfl, rfl⟩
      case round =>
        obtain ⟨z0, rfl, rfl, rfl⟩ := hrel
        go_wp2_with fail
        refine (HR.out _ hra).mono ?_
        rintro e w2 ⟨rfl, hb2⟩
        rw [HRT.out]
        go_wp2_with fail
        go_ret
        exact ⟨by rw [HS.out, HRT.out]; rfl, below_all hb hb2⟩
  · obtain ⟨q1, q2, q3, q4, _⟩ := h.right_of hright
    have HRT := Lib.hid hright
    have HS2 : Hid (h.sec = h.z * 2 ^ h.b.toNat) := Lib.hid (by rw [HS.out, hright]; rfl)
    clear hright HS
    go_enter Try.func15, Try.ntmps15
    go_wp2_with fail
    go_loopw [3, 4] (fun v i wr => ∃ (k : Nat) (y : Int), (k : Int) ≤ h.b ∧ v = .int .i64 y ∧ 0 ≤ y ∧ y ≤ 256 * 2 ^ k ∧ Hid (y = h.z * 2 ^ k) ∧ i = .int .i64 k ∧ Blk wr w.heap.size 24 #[.int .i64 h.b, .int .i64 h.z, .string (str h.n), .int .i64 h.g, .bool h.c, .slice A m c] ∧ Row wr A (iv h.p) ∧ Below w.heap.size w wr) (fun _ i _ => h.b.toNat - (intOf i).toNat)
    case atStart => exact ⟨0, h.z, q1, rfl, q3, by simpa using q4, Lib.hid (by simp), rfl, hB, hra, hb⟩
    case round =>
      obtain ⟨k, y, hk, rfl, hy0, hy1, HY, rfl, hBr, hrr, hbr⟩ := hrel
      clear f1 f2 f3 f4 f5 f6 f7
      obtain ⟨⟨f1, f2, f3, f4, f5, f6⟩, f7⟩ := hBr.six
      have hk3 : k ≤ 3 := by omega
      have hy2 : y ≤ 2048 := by
        have : (2 : Int) ^ k ≤ 2 ^ 3 := by
          have : (2 : Nat) ^ k ≤ 2 ^ 3 := Nat.pow_le_pow_right (by omega) hk3
          exact_mod_cast this
        omega
      have hy3 : y + y ≤ 256 * 2 ^ (k + 1) := by rw [Int.pow_succ]; omega
      have HY3 := Lib.hid hy3
      clear hy1 hy3
      by_cases hlt : (k : Int) < h.b
      · go_wp2_with fail
        refine (HR.out _ hrr).mono ?_
        rintro e w1 ⟨rfl, hb1⟩
        rw [HRT.out]
        go_wp2_with fail
        go_roundw
        case rel => exact ⟨k + 1, y + y, by omega, rfl, by omega, HY3.out, Lib.hid (by rw [HY.out, Int.pow_succ, ← Int.mul_assoc]; omega), by go_num, hBr.belowAll hb1, hrr.below hb1, below_all hbr hb1⟩
        case measure => simp [intOf]; omega
      · have hkb : h.b.toNat = k := by omega
        have HKB := Lib.hid hkb
        clear hkb
        go_wp2_with fail
        refine (HR.out _ hrr).mono ?_
        rintro e w1 ⟨rfl, hb1⟩
        rw [HRT.out]
        go_wp2_with fail
        go_ret
        exact ⟨by rw [HS2.out, HKB.out, ← HY.out]; rfl, below_all hbr hb1⟩
end Go.Proofs.Ytophnjoaajcfjaa
