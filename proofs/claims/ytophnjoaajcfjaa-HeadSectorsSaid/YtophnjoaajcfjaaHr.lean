/- head.Right, head.Sectors, head.Newer: what they answer. Conditions: the lengths fit memory. -/
import Derived.Test.YtophnjoaajcfjaaFr
import Derived.Test.YtophnjoaajcfjaaBlk
import Derived.Laws.BitsLemmas
namespace Go.Proofs.Ytophnjoaajcfjaa
open Go.RowKit

theorem Blk.six {w : World} {g : Nat} {t : TypeId} {a b c d e f : Value} (h : Blk w g t #[a, b, c, d, e, f]) : (w.cell? ⟨g, 0, none⟩ = some a ∧ w.cell? ⟨g, 1, none⟩ = some b ∧ w.cell? ⟨g, 2, none⟩ = some c ∧ w.cell? ⟨g, 3, none⟩ = some d ∧ w.cell? ⟨g, 4, none⟩ = some e ∧ w.cell? ⟨g, 5, none⟩ = some f) ∧ g < w.heap.size :=
  ⟨⟨h.cell 0, h.cell 1, h.cell 2, h.cell 3, h.cell 4, h.cell 5⟩, h.lt⟩
/-- A head's cells. -/
def Hd.cells (h : Hd) (A : Option Addr) (c : Nat) : Array Value := #[.int .i64 h.b, .int .i64 h.z, .string (str h.n), .int .i64 h.g, .bool h.c, .slice A h.p.length c]
theorem Hd.right_eq (h : Hd) : h.right = (inTo h.b 3 && inTo h.z 256 && (decide (h.n = []) || nameOK h.n) && inTo h.g 1099511627776 && decide (h.p.length ≤ 8) && h.p.all okPart) := rfl

set_option maxHeartbeats 4000000 in
theorem hRight_any (h : Hd) (A : Option Addr) (c : Nat) (w : World) (hr : Row w A (iv h.p)) (hp : h.p.length ≤ 17592186044416) (hnl : h.n.length ≤ 140737488355328) :
    Calls Try.prog 12 #[.agg #[.int .i64 h.b, .int .i64 h.z, .string (str h.n), .int .i64 h.g, .bool h.c, .slice A h.p.length c]] w fun e w' => e = .returned (.bool h.right) ∧ Below w.heap.size w w' := by
  have hB := Blk.new w 30 #[.int .i64 h.b, .int .i64 h.z, .string (str h.n), .int .i64 h.g, .bool h.c, .slice A h.p.length c]
  have hb := (Below.refl w.heap.size w).alloc (Nat.le_refl _) (.cells #[.int .i64 h.b, .int .i64 h.z, .string (str h.n), .int .i64 h.g, .bool h.c, .slice A h.p.length c] 30)
  have hra := hr.alloc (.cells #[.int .i64 h.b, .int .i64 h.z, .string (str h.n), .int .i64 h.g, .bool h.c, .slice A h.p.length c] 30)
  have hre := h.right_eq
  obtain ⟨m, hm⟩ : ∃ m, m = h.p.length := ⟨_, rfl⟩
  rw [← hm] at hB hb hra hp hre ⊢
  obtain ⟨b1, h1⟩ : ∃ b1, b1 = inTo h.b 3 := ⟨_, rfl⟩
  obtain ⟨b2, h2⟩ : ∃ b2, b2 = inTo h.z 256 := ⟨_, rfl⟩
  obtain ⟨b4, h4⟩ : ∃ b4, b4 = inTo h.g 1099511627776 := ⟨_, rfl⟩
  obtain ⟨b6, h6⟩ : ∃ b6, b6 = h.p.all okPart := ⟨_, rfl⟩
  rw [← h1, ← h2, ← h4, ← h6] at hre
  have W1 := fun u => within_any h.b 3 u
  have W2 := fun u => within_any h.z 256 u
  have W4 := fun u => within_any h.g 1099511627776 u
  have W6 := fun u (hu : Row u A (iv h.p)) => contains_any A m c h.p u hm.symm hu hp
  rw [← h1] at W1
  rw [← h2] at W2
  rw [← h4] at W4
  rw [← h6] at W6
  have HRE := Lib.hid hre
  have HM := Lib.hid hm
  have HW1 := Lib.hid W1
  have HW2 := Lib.hid W2
  have HW4 := Lib.hid W4
  have HW6 := Lib.hid W6
  clear hre hm h1 h2 h4 h6 W1 W2 W4 W6 hr
  by_cases hn0 : h.n = []
  · have hnn : (decide (h.n = []) || nameOK h.n) = true := by rw [hn0]; rfl
    rw [hnn] at HRE
    rw [hn0] at hB hb hra ⊢
    clear hnn
    have hfin : (h.right = (b1 && b2 && true && b4 && decide (m ≤ 8) && b6)) := HRE.out
    have HFIN := Lib.hid hfin
    clear hfin HRE hn0
    go_enter Try.func12, Try.ntmps12
    go_wp2_with fail
    refine (HW1.out _).mono ?_
    rintro e w' ⟨rfl, rfl⟩
    cases b1
    · go_wp2_with fail
      go_ret
      exact ⟨ret_bool (by rw [HFIN.out]; simp), hb⟩
    go_wp2_with fail
    refine (HW2.out _).mono ?_
    rintro e w' ⟨rfl, rfl⟩
    cases b2
    · go_wp2_with fail
      go_ret
      exact ⟨ret_bool (by rw [HFIN.out]; simp), hb⟩
    go_wp2_with fail
    refine (HW4.out _).mono ?_
    rintro e w' ⟨rfl, rfl⟩
    cases b4
    · go_wp2_with fail
      go_ret
      exact ⟨ret_bool (by rw [HFIN.out]; simp), hb⟩
    by_cases hm8 : m ≤ 8
    · go_wp2_with fail
      refine (HW6.out _ (hra)).mono ?_
      rintro e w' ⟨rfl, rfl⟩
      go_wp2_with fail
      go_ret
      exact ⟨ret_bool (by rw [HFIN.out, decide_eq_true hm8]; simp), hb⟩
    · go_wp2_with fail
      go_ret
      exact ⟨ret_bool (by rw [HFIN.out, decide_eq_false hm8]; simp), hb⟩
  · obtain ⟨b3, h3⟩ : ∃ b3, b3 = nameOK h.n := ⟨_, rfl⟩
    have hnn : (decide (h.n = []) || nameOK h.n) = b3 := by rw [decide_eq_false hn0, ← h3]; rfl
    rw [hnn] at HRE
    have HFIN : Hid (h.right = (b1 && b2 && b3 && b4 && decide (m ≤ 8) && b6)) := HRE
    have F3 := fun u => fRight_any h.n u hnl
    rw [← h3] at F3
    have HF3 := Lib.hid F3
    have hne : (h.n == []) = false := by rw [beq_eq_false_iff_ne]; exact hn0
    clear hnn HRE F3 h3 hn0
    obtain ⟨nm, hnm⟩ : ∃ nm, nm = h.n := ⟨_, rfl⟩
    rw [← hnm] at hB hb hra HF3 hne ⊢
    clear hnm
    go_enter Try.func12, Try.ntmps12
    go_wp2_with fail
    refine (HF3.out _).mono ?_
    rintro e w2 ⟨rfl, hb2⟩
    obtain ⟨⟨f1, f2, f3, f4, f5, f6⟩, f7⟩ := (hB.belowAll hb2).six
    have hra2 := hra.below hb2
    have hbw := below_all hb hb2
    go_wp2_with fail
    refine (HW1.out _).mono ?_
    rintro e w' ⟨rfl, rfl⟩
    cases b1
    · go_wp2_with fail
      go_ret
      exact ⟨ret_bool (by rw [HFIN.out]; simp), hbw⟩
    go_wp2_with fail
    refine (HW2.out _).mono ?_
    rintro e w' ⟨rfl, rfl⟩
    cases b2
    · go_wp2_with fail
      go_ret
      exact ⟨ret_bool (by rw [HFIN.out]; simp), hbw⟩
    cases b3
    · go_wp2_with fail
      go_ret
      exact ⟨ret_bool (by rw [HFIN.out]; simp), hbw⟩
    go_wp2_with fail
    refine (HW4.out _).mono ?_
    rintro e w' ⟨rfl, rfl⟩
    cases b4
    · go_wp2_with fail
      go_ret
      exact ⟨ret_bool (by rw [HFIN.out]; simp), hbw⟩
    by_cases hm8 : m ≤ 8
    · go_wp2_with fail
      refine (HW6.out _ (hra2)).mono ?_
      rintro e w' ⟨rfl, rfl⟩
      go_wp2_with fail
      go_ret
      exact ⟨ret_bool (by rw [HFIN.out, decide_eq_true hm8]; simp), hbw⟩
    · go_wp2_with fail
      go_ret
      exact ⟨ret_bool (by rw [HFIN.out, decide_eq_false hm8]; simp), hbw⟩
end Go.Proofs.Ytophnjoaajcfjaa
