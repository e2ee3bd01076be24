/- head.Decode: what it answers. Conditions: the bytes fit memory. -/
import Derived.Test.YtophnjoaajcfjaaHdD
import Derived.Test.YtophnjoaajcfjaaHr
import Derived.Test.YtophnjoaajcfjaaSeal
import Derived.Test.YtophnjoaajcfjaaRdr
import Derived.Test.YtophnjoaajcfjaaSeqS
import Derived.Test.YtophnjoaajcfjaaRefR
import Derived.Deep.CutBlock
import Derived.Deep.DeepCutAuto
namespace Go.Proofs.Ytophnjoaajcfjaa
open Go.RowKit

theorem Blk.put6 {w : World} {g : Nat} {t : TypeId} {a b c d e f : Value} (h : Blk w g t #[a, b, c, d, e, f]) (a' b' c' d' e' f' : Value) :
    (w.cell? ⟨g, 0, none⟩ = some a ∧ (w.setCell ⟨g, 0, none⟩ a').cell? ⟨g, 1, none⟩ = some b ∧ ((w.setCell ⟨g, 0, none⟩ a').setCell ⟨g, 1, none⟩ b').cell? ⟨g, 2, none⟩ = some c ∧ (((w.setCell ⟨g, 0, none⟩ a').setCell ⟨g, 1, none⟩ b').setCell ⟨g, 2, none⟩ c').cell? ⟨g, 3, none⟩ = some d ∧ ((((w.setCell ⟨g, 0, none⟩ a').setCell ⟨g, 1, none⟩ b').setCell ⟨g, 2, none⟩ c').setCell ⟨g, 3, none⟩ d').cell? ⟨g, 4, none⟩ = some e ∧ (((((w.setCell ⟨g, 0, none⟩ a').setCell ⟨g, 1, none⟩ b').setCell ⟨g, 2, none⟩ c').setCell ⟨g, 3, none⟩ d').setCell ⟨g, 4, none⟩ e').cell? ⟨g, 5, none⟩ = some f) ∧ (w.frozen? ⟨g, 0, none⟩ = false ∧ (w.setCell ⟨g, 0, none⟩ a').frozen? ⟨g, 1, none⟩ = false ∧ ((w.setCell ⟨g, 0, none⟩ a').setCell ⟨g, 1, none⟩ b').frozen? ⟨g, 2, none⟩ = false ∧ (((w.setCell ⟨g, 0, none⟩ a').setCell ⟨g, 1, none⟩ b').setCell ⟨g, 2, none⟩ c').frozen? ⟨g, 3, none⟩ = false ∧ ((((w.setCell ⟨g, 0, none⟩ a').setCell ⟨g, 1, none⟩ b').setCell ⟨g, 2, none⟩ c').setCell ⟨g, 3, none⟩ d').frozen? ⟨g, 4, none⟩ = false ∧ (((((w.setCell ⟨g, 0, none⟩ a').setCell ⟨g, 1, none⟩ b').setCell ⟨g, 2, none⟩ c').setCell ⟨g, 3, none⟩ d').setCell ⟨g, 4, none⟩ e').frozen? ⟨g, 5, none⟩ = false) ∧ Blk ((((((w.setCell ⟨g, 0, none⟩ a').setCell ⟨g, 1, none⟩ b').setCell ⟨g, 2, none⟩ c').setCell ⟨g, 3, none⟩ d').setCell ⟨g, 4, none⟩ e').setCell ⟨g, 5, none⟩ f') g t #[a', b', c', d', e', f'] ∧ ∀ (w0 : World) (B : Nat), Below B w0 w → B ≤ g → Below B w0 ((((((w.setCell ⟨g, 0, none⟩ a').setCell ⟨g, 1, none⟩ b').setCell ⟨g, 2, none⟩ c').setCell ⟨g, 3, none⟩ d').setCell ⟨g, 4, none⟩ e').setCell ⟨g, 5, none⟩ f') := by
  have h1 := h.set_ 0 a'
  have h2 := h1.set_ 1 b'
  have h3 := h2.set_ 2 c'
  have h4 := h3.set_ 3 d'
  have h5 := h4.set_ 4 e'
  have h6 := h5.set_ 5 f'
  exact ⟨⟨h.cell 0, h1.cell 1, h2.cell 2, h3.cell 3, h4.cell 4, h5.cell 5⟩, ⟨h.frozen 0, h1.frozen 1, h2.frozen 2, h3.frozen 3, h4.frozen 4, h5.frozen 5⟩, h6, fun w0 B hb hB => (((((hb.setCell (p := ⟨g, 0, none⟩) hB a').setCell (p := ⟨g, 1, none⟩) hB b').setCell (p := ⟨g, 2, none⟩) hB c').setCell (p := ⟨g, 3, none⟩) hB d').setCell (p := ⟨g, 4, none⟩) hB e').setCell (p := ⟨g, 5, none⟩) hB f'⟩

theorem head_info (a b c d e f : Value) : (Try.prog.info? 30).map (·.size) = some (#[a, b, c, d, e, f] : Array Value).size := by
  show _ = some 6
  kernel_rfl

theorem numC_any (T g : Nat) (l : List UInt8) (e0 width : Int) (l' : List UInt8) (e' : Int) (x : Nat) (w : World) (hx : nm l e0 width = (l', e', x)) (hT : Blk w T 58 #[.pointer (some ⟨g, 0, none⟩)]) (h : Rd w g l e0) :
    Calls Try.prog 34 #[.int .i64 width, .pointer (some ⟨T, 0, none⟩)] w fun e w' => e = .returned (.int .i64 (x : Int)) ∧ Rd w' g l' e' ∧ Only w w' (· = g) := by
  have h1 := hT.cell 0
  simp only [List.getElem?_toArray, List.getElem?_cons_zero] at h1
  have hC := rnum_any g l e0 width w h
  rw [hx] at hC
  have HC := Lib.hid hC
  clear hC
  go_enter Try.func34, Try.ntmps34
  go_wp2_with fail
  refine HC.out.mono ?_
  rintro e w1 ⟨rfl, h1, h2⟩
  go_wp2_with fail
  go_ret
  exact ⟨rfl, h1, h2⟩

theorem textC_any (g : Nat) (l : List UInt8) (e0 : Int) (l' : List UInt8) (e' : Int) (x : List UInt8) (w : World) (hx : tx l e0 1 = (l', e', x)) (h : Rd w g l e0) :
    Calls Try.prog 36 #[.pointer (some ⟨g, 0, none⟩), .int .i64 1] w fun e w' => e = .returned (.string (str x)) ∧ Rd w' g l' e' ∧ Only w w' (· = g) := by
  have hC := rtext_any g l e0 1 w h
  rw [hx] at hC
  exact hC

def HDecPost (w : World) (b : List UInt8) (e : Ending) (w' : World) : Prop :=
  ∃ A c, e = .returned (.tuple #[.agg #[.int .i64 (decH b).1.b, .int .i64 (decH b).1.z, .string (str (decH b).1.n), .int .i64 (decH b).1.g, .bool (decH b).1.c, .slice A (decH b).1.p.length c], .int .i64 (decH b).2]) ∧ (decH b).1.p.length ≤ c ∧ Row w' A (iv (decH b).1.p) ∧ Below w.heap.size w w'

theorem hdec_no {w w' : World} {b : List UInt8} {er : Int} (h : decH b = (noH, er)) (hb : Below w.heap.size w w') : HDecPost w b (.returned (.tuple #[.agg #[.int .i64 0, .int .i64 0, .string ⟨#[]⟩, .int .i64 0, .bool false, .slice none 0 0], .int .i64 er])) w' := by
  unfold HDecPost
  rw [h]
  exact ⟨none, 0, rfl, Nat.le_refl _, Row.nil _ _, hb⟩

set_option maxHeartbeats 2000000 in
theorem hDecode_sum (A : Option Addr) (n c : Nat) (b : List UInt8) (w : World) (hn : b.length = n) (hnc : n ≤ c) (hr : Row w A (bv b)) (hsz : n ≤ 140737488355300) (ho : opened b = none) :
    Calls Try.prog 17 #[.slice A n c] w (HDecPost w b) := by
  have hz := Blk.new w 30 #[.int .i64 0, .int .i64 0, .string ⟨#[]⟩, .int .i64 0, .bool false, .slice none 0 0]
  have hbz := (Below.refl w.heap.size w).alloc (Nat.le_refl _) (.cells #[.int .i64 0, .int .i64 0, .string ⟨#[]⟩, .int .i64 0, .bool false, .slice none 0 0] 30)
  have hra := hr.alloc (.cells #[.int .i64 0, .int .i64 0, .string ⟨#[]⟩, .int .i64 0, .bool false, .slice none 0 0] 30)
  have kfr := fun (o : Nat) => hz.frozen o
  have hop : Calls Try.prog 32 #[.slice A n c] (w.alloc (.cells #[.int .i64 0, .int .i64 0, .string ⟨#[]⟩, .int .i64 0, .bool false, .slice none 0 0] 30)) fun e w' => e = .returned (.tuple #[.slice none 0 0, .bool false]) ∧ Below (w.alloc (.cells #[.int .i64 0, .int .i64 0, .string ⟨#[]⟩, .int .i64 0, .bool false, .slice none 0 0] 30)).heap.size (w.alloc (.cells #[.int .i64 0, .int .i64 0, .string ⟨#[]⟩, .int .i64 0, .bool false, .slice none 0 0] 30)) w' := by
    by_cases h4 : n < 4
    · exact (open_short A n c _ h4).mono fun e w' h => ⟨h.1, by rw [← h.2]; exact Below.refl _ _⟩
    · exact open_no A n c b _ hn hnc hra (by omega) (by omega) ho
  have HOP := Lib.hid hop
  have hd : decH b = (noH, 51) := by unfold decH; rw [ho]
  have HD := Lib.hid hd
  clear hop hn ho hd hr hra
  go_enter Try.func17, Try.ntmps17
  go_wp2_with fail
  refine HOP.out.mono ?_
  rintro e w1 ⟨rfl, hb1⟩
  have hz1 := hz.belowAll hb1
  obtain ⟨⟨f1, f2, f3, f4, f5, f6⟩, ⟨g1, g2, g3, g4, g5, g6⟩, hz2, hbe⟩ := hz1.put6 (.int .i64 0) (.int .i64 0) (.string ⟨#[]⟩) (.int .i64 0) (.bool false) (.slice none 0 0)
  go_wp2_with fail
  (try simp only [Exit.inBlock, Exit.then])
  refine bodyPost_ret (results_row_tmp rfl _ _ _ 30 _ (0, 0) _ rfl hz2 Try.underlying30 rfl (head_info _ _ _ _ _ _)) rfl ?_
  exact hdec_no HD.out (hbe w _ (below_all hbz hb1) (Nat.le_refl _))

end Go.Proofs.Ytophnjoaajcfjaa
