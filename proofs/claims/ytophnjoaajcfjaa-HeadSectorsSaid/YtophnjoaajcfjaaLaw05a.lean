/- The law HeadReads. Condition: the length of the bytes fits memory. -/
import Derived.Test.YtophnjoaajcfjaaAlive05
import Derived.Test.YtophnjoaajcfjaaRhd
namespace Go.Proofs.Ytophnjoaajcfjaa
open Go.RowKit

def encB (h : Hd) : List UInt8 := if h.right then sealed h.text else []
def encE (h : Hd) : Int := if h.right then 0 else 50
theorem EncPost.uni {w w' : World} {h : Hd} {e : Ending} (hp : EncPost w h e w') : ∃ A m c, e = .returned (.tuple #[.slice A m c, .int .i64 (encE h)]) ∧ (encB h).length = m ∧ m ≤ c ∧ Own w' w.heap.size 5 1 A m c (bv (encB h)) ∧ Below w.heap.size w w' := by
  obtain ⟨⟨h1, rfl⟩ | ⟨h1, A, c, rfl, hown⟩, hb⟩ := hp
  · unfold encB encE
    rw [h1]
    exact ⟨none, 0, 0, rfl, rfl, Nat.le_refl _, Own.nil _ _ _ _ _, hb⟩
  · unfold encB encE
    rw [h1]
    exact ⟨A, _, c, rfl, rfl, hown.2.1, hown, hb⟩
theorem decH_or (b : List UInt8) : (decH b).1 = noH ∨ (decH b).1.right = true := by
  by_cases h : (decH b).2 = 0
  · exact .inr (decH_ok h).1
  · left
    unfold decH at h ⊢
    cases ho : opened b with
    | none => rfl
    | some x =>
      rw [ho] at h
      simp only at h ⊢
      split
      · rfl
      · rename_i h1
        rw [if_neg h1] at h
        split
        · rfl
        · rename_i h2
          rw [if_neg h2] at h
          exact absurd rfl h
theorem decH_small (b : List UInt8) : (decH b).1.p.length ≤ 8 ∧ (decH b).1.n.length ≤ 15 := by
  rcases decH_or b with h | h
  · rw [h]
    exact ⟨by decide, by decide⟩
  · obtain ⟨_, _, _, _, h5, _, _, h8, _⟩ := Hd.right_of h
    exact ⟨h8, h5⟩
theorem dec_U {w w' : World} {b : List UInt8} {e : Ending} {d : Hd} {er : Int} (hd : decH b = (d, er)) (h : HDecPost w b e w') :
    ∃ A m c, e = .returned (.tuple #[.agg #[.int .i64 d.b, .int .i64 d.z, .string (str d.n), .int .i64 d.g, .bool d.c, .slice A m c], .int .i64 er]) ∧ d.p.length = m ∧ m ≤ 8 ∧ Row w' A (iv d.p) ∧ Below w.heap.size w w' := by
  have h8 := (decH_small b).1
  unfold HDecPost at h
  rw [hd] at h h8
  obtain ⟨A, c, h1, h2, h3, h4⟩ := h
  exact ⟨A, _, c, h1, rfl, h8, h3, h4⟩
/-- A head is the same as itself. -/
theorem rSame_self (d : Hd) (m m2 : Nat) (A A2 : Option Addr) (c c2 : Nat) (w : World) (hm : d.p.length = m) (hm2 : d.p.length = m2) (hr : Row w A (iv d.p)) (hr2 : Row w A2 (iv d.p)) (h8 : m ≤ 17592186044416) :
    Calls Try.prog 19 #[.agg #[.int .i64 d.b, .int .i64 d.z, .string (str d.n), .int .i64 d.g, .bool d.c, .slice A m c], .agg #[.int .i64 d.b, .int .i64 d.z, .string (str d.n), .int .i64 d.g, .bool d.c, .slice A2 m2 c2]] w
      fun e w' => e = .returned (.bool true) ∧ Below w.heap.size w w' :=
  (rSame5_any d.b d.z d.g d.b d.z d.g d.n d.n d.c d.c d.p d.p m m2 A A2 c c2 w hm hm2 hr hr2 h8 (by omega)).mono fun e w' h => ⟨by rw [h.1]; exact ret_bool ((Hd.same_iff _ _).2 rfl), h.2⟩

set_option maxHeartbeats 4000000 in
theorem reads_law (A : Option Addr) (n c : Nat) (b : List UInt8) (w : World) (hn : b.length = n) (hnc : n ≤ c) (hr : Row w A (bv b)) :
    Calls Try.prog 4 #[.slice A n c] w fun e w' => e = .returned (.bool true) ∧ Below w.heap.size w w' := by
  have HN := Lib.hid hn
  clear hn
  by_cases h1 : 20000 < n
  · go_enter Try.func4, Try.ntmps4
    go_wp2_with fail
    refine (alive_any w).mono ?_
    rintro e w2 ⟨rfl, hb2⟩
    go_wp2_with fail
    go_ret
    exact ⟨rfl, hb2⟩
  obtain ⟨d, er, hd⟩ : ∃ d er, decH b = (d, er) := ⟨_, _, rfl⟩
  have HD := Lib.hid hd
  clear hd
  go_enter Try.func4, Try.ntmps4
  go_wp2_with fail
  refine (hDecode_any A n c b w HN.out hnc hr (by omega)).mono ?_
  intro e w1 hp1
  obtain ⟨A1, m1, c1, rfl, hm1, h81, hr1, hb1⟩ := dec_U HD.out hp1
  have HM1 := Lib.hid hm1
  have hrb := (hr.below hb1).alloc (.cells #[.int .i64 d.b, .int .i64 d.z, .string (str d.n), .int .i64 d.g, .bool d.c, .slice A1 m1 c1] 30)
  have hr1a := hr1.alloc (.cells #[.int .i64 d.b, .int .i64 d.z, .string (str d.n), .int .i64 d.g, .bool d.c, .slice A1 m1 c1] 30)
  have hG := Blk.new w1 30 #[.int .i64 d.b, .int .i64 d.z, .string (str d.n), .int .i64 d.g, .bool d.c, .slice A1 m1 c1]
  have hb1a := hb1.alloc hb1.size (.cells #[.int .i64 d.b, .int .i64 d.z, .string (str d.n), .int .i64 d.g, .bool d.c, .slice A1 m1 c1] 30)
  have hcv := run_string (P := Try.prog) HN.out 26 9 5 (c := c) Try.underlying26 Try.underlying5 Try.underlying9 hrb
  have hD := fun u => rDecode5_any b u (by have := HN.out; omega)
  have HDR := Lib.hid hD
  clear hD hp1 hm1 hb1 hr1 hrb
  go_wp2_with fail
  refine (HDR.out _).mono ?_
  intro e w2 hp2
  obtain ⟨A2, m2, c2, rfl, hm2, h82, hr2, hb2⟩ := dec_U HD.out hp2
  have HM2 := Lib.hid hm2
  have hr1b := hr1a.below hb2
  have hG2 := hG.belowAll hb2
  have hb02 := below_all hb1a hb2
  have hr1c := hr1b.alloc (.cells #[.int .i64 d.b, .int .i64 d.z, .string (str d.n), .int .i64 d.g, .bool d.c, .slice A2 m2 c2] 24)
  have hr2c := hr2.alloc (.cells #[.int .i64 d.b, .int .i64 d.z, .string (str d.n), .int .i64 d.g, .bool d.c, .slice A2 m2 c2] 24)
  have hG3 := hG2.alloc (.cells #[.int .i64 d.b, .int .i64 d.z, .string (str d.n), .int .i64 d.g, .bool d.c, .slice A2 m2 c2] 24)
  have hJ3 := Blk.new w2 24 #[.int .i64 d.b, .int .i64 d.z, .string (str d.n), .int .i64 d.g, .bool d.c, .slice A2 m2 c2]
  have hb03 := hb02.alloc hb02.size (.cells #[.int .i64 d.b, .int .i64 d.z, .string (str d.n), .int .i64 d.g, .bool d.c, .slice A2 m2 c2] 24)
  clear hp2 hm2 hr1a hG hb1a hcv hr2 hb2 hr1b hG2 hb02
  go_wp2_with fail
  refine (alive_any _).mono ?_
  rintro e w4 ⟨rfl, hb4⟩
  have hr1d := hr1c.below hb4
  have hr2d := hr2c.below hb4
  obtain ⟨⟨g1, g2, g3, g4, g5, g6⟩, _⟩ := (hG3.belowAll hb4).six
  obtain ⟨⟨f1, f2, f3, f4, f5, f6⟩, _⟩ := (hJ3.belowAll hb4).six
  have hb04 := below_all hb03 hb4
  clear hG3 hJ3 hr1c hr2c hb4 hb03
  go_wp2_with fail
  refine (rSame_self d m1 m2 A1 A2 c1 c2 w4 HM1.out HM2.out hr1d hr2d (by omega)).mono ?_
  rintro e w5 ⟨rfl, hb5⟩
  go_wp2_with fail
  go_ret
  exact ⟨ret_bool (by simp), below_all hb04 hb5⟩
end Go.Proofs.Ytophnjoaajcfjaa
