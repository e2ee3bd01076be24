/- Several texts in one: Hd, HdS, HdM, HdE. -/
import Derived.Test.YtbljacafmkdlmaaMgE
import Derived.Test.YtbljacafmkdlmaaMgF
import Derived.Test.YtbljacafmkdlmaaMgC
import Derived.Test.YtbljacafmkdlmaaRdr
import Derived.Test.YtbljacafmkdlmaaSeqS
import Derived.Test.YtbljacafmkdlmaaRefR
import Derived.Deep.CutBlock
import Derived.Deep.DeepCutAuto
/- head.Decode: what it answers. Conditions: the bytes fit memory. -/
namespace Go.Proofs.Ytbljacafmkdlmaa
set_option maxRecDepth 100000
open Go.RowKit

theorem Blk.put6 {w : World} {g : Nat} {t : TypeId} {a b c d e f : Value} (h : Blk w g t #[a, b, c, d, e, f]) (a' b' c' d' e' f' : Value) :
    (w.cell? ⟨g, 0, none⟩ = some a ∧ (w.setCell ⟨g, 0, none⟩ a').cell? ⟨g, 1, none⟩ = some b ∧ ((w.setCell ⟨g, 0, none⟩ a').setCell ⟨g, 1, none⟩ b').cell? ⟨g, 2, none⟩ = some c ∧ (((w.setCell ⟨g, 0, none⟩ a').setCell ⟨g, 1, none⟩ b').setCell ⟨g, 2, none⟩ c').cell? ⟨g, 3, none⟩ = some d ∧ ((((w.setCell ⟨g, 0, none⟩ a').setCell ⟨g, 1, none⟩ b').setCell ⟨g, 2, none⟩ c').setCell ⟨g, 3, none⟩ d').cell? ⟨g, 4, none⟩ = some e ∧ (((((w.setCell ⟨g, 0, none⟩ a').setCell ⟨g, 1, none⟩ b').setCell ⟨g, 2, none⟩ c').setCell ⟨g, 3, none⟩ d').setCell ⟨g, 4, none⟩ e').cell? ⟨g, 5, none⟩ = some f) ∧ (w.frozen? ⟨g, 0, none⟩ = false ∧ (w.setCell ⟨g, 0, none⟩ a').frozen? ⟨g, 1, none⟩ = false ∧ ((w.setCell ⟨g, 0, none⟩ a').setCell ⟨g, 1, none⟩ b').frozen? ⟨g, 2, none⟩ = false ∧ (((w.setCell ⟨g, 0, none⟩ a').setCell ⟨g, 1, none⟩ b').setCell ⟨g, 2, none⟩ c').frozen? ⟨g, 3, none⟩ = false ∧ ((((w.setCell ⟨g, 0, none⟩ a').setCell ⟨g, 1, none⟩ b').setCell ⟨g, 2, none⟩ c').setCell ⟨g, 3, none⟩ d').frozen? ⟨g, 4, none⟩ = false ∧ (((((w.setCell ⟨g, 0, none⟩ a').setCell ⟨g, 1, none⟩ b').setCell ⟨g, 2, none⟩ c').setCell ⟨g, 3, none⟩ d').setCell ⟨g, 4, none⟩ e').frozen? ⟨g, 5, none⟩ = false) ∧ Blk ((((((w.setCell ⟨g, 0, none⟩ a').setCell ⟨g, 1, none⟩ b').setCell ⟨g, 2, none⟩ c').setCell ⟨g, 3, none⟩ d').setCell ⟨g, 4, none⟩ e').setCell ⟨g, 5, none⟩ f') g t #[a', b', c', d', e', f'] ∧ ∀ (w0 : World) (B : Nat), Below B w0 w → B ≤ g → Below B w0 ((((((w.setCell ⟨g, 0, none⟩ a').setCell ⟨g, 1, none⟩ b').setCell ⟨g, 2, none⟩ c').setCell ⟨g, 3, none⟩ d').setCell ⟨g, 4, none⟩ e').setCell ⟨g, 5, none⟩ f') := by
  have h1 := h.set_ 0 a'
  have h2 := h1.set_ 1 b'
  have h3 := h2.set_ 2 c'
  have h4 := h3.set_ 3 d'
  have h5 := h4.set_ 4 e'
  have h6 := h5.set_ 5 f'
  exact ⟨⟨h.cell 0, h1.cell 1, h2.cell 2, h3.cell 3, h4.cell 4, h5.cell 5⟩, ⟨h.frozen 0, h1.frozen 1, h2.frozen 2, h3.frozen 3, h4.frozen 4, h5.frozen 5⟩, h6, fun w0 B hb hB => (((((hb.setCell (p := ⟨g, 0, none⟩) hB a').setCell (p := ⟨g, 1, none⟩) hB b').setCell (p := ⟨g, 2, none⟩) hB c').setCell (p := ⟨g, 3, none⟩) hB d').setCell (p := ⟨g, 4, none⟩) hB e').setCell (p := ⟨g, 5, none⟩) hB f'⟩

theorem head_info (a b c d e f : Value) : (Try.prog.info? 60).map (·.size) = some (#[a, b, c, d, e, f] : Array Value).size := by
  show _ = some 6
  kernel_rfl

theorem numC_any (T g : Nat) (l : List UInt8) (e0 width : Int) (l' : List UInt8) (e' : Int) (x : Nat) (w : World) (hx : nm l e0 width = (l', e', x)) (hT : Blk w T 115 #[.pointer (some ⟨g, 0, none⟩)]) (h : Rd w g l e0) :
    Calls Try.prog 87 #[.int .i64 width, .pointer (some ⟨T, 0, none⟩)] w fun e w' => e = .returned (.int .i64 (x : Int)) ∧ Rd w' g l' e' ∧ Only w w' (· = g) := by
  have h1 := hT.cell 0
  simp only [List.getElem?_toArray, List.getElem?_cons_zero] at h1
  have hC := rnum_any g l e0 width w h
  rw [hx] at hC
  have HC := Lib.hid hC
  clear hC
  go_enter Try.func87, Try.ntmps87
  go_wp2_with fail
  refine HC.out.mono ?_
  rintro e w1 ⟨rfl, h1, h2⟩
  go_wp2_with fail
  go_ret
  exact ⟨rfl, h1, h2⟩

theorem textC_any (g : Nat) (l : List UInt8) (e0 : Int) (l' : List UInt8) (e' : Int) (x : List UInt8) (w : World) (hx : tx l e0 1 = (l', e', x)) (h : Rd w g l e0) :
    Calls Try.prog 60 #[.pointer (some ⟨g, 0, none⟩), .int .i64 1] w fun e w' => e = .returned (.string (str x)) ∧ Rd w' g l' e' ∧ Only w w' (· = g) := by
  have hC := rtext_any g l e0 1 w h
  rw [hx] at hC
  exact hC

/-- A row of numbers lies in a block of numbers. -/
def Ity (w : World) (A : Option Addr) (l : List Int) : Prop := l ≠ [] → ∀ a, A = some a → ∃ cur lh, w.heap[a.block]? = some (.cells cur 3 lh)
theorem Ity.of_own {w : World} {B : Nat} {A : Option Addr} {n c : Nat} {l : List Int} (h : Own w B 3 1 A n c (iv l)) : Ity w A l := by
  intro hx a ha
  obtain ⟨hl, hnc, _, h0 | ⟨g, cur, lo, hi, rfl, _, hh, _⟩⟩ := h
  · subst h0
    rw [iv_length] at hl
    exact absurd (List.eq_nil_of_length_eq_zero (by omega)) hx
  · injection ha with ha
    subst ha
    exact ⟨_, _, hh⟩
def HDecPost (w : World) (b : List UInt8) (e : Ending) (w' : World) : Prop :=
  ∃ A c, e = .returned (.tuple #[.agg #[.int .i64 (decH b).1.b, .int .i64 (decH b).1.z, .string (str (decH b).1.n), .int .i64 (decH b).1.g, .bool (decH b).1.c, .slice A (decH b).1.p.length c], .int .i64 (decH b).2]) ∧ (decH b).1.p.length ≤ c ∧ Row w' A (iv (decH b).1.p) ∧ Below w.heap.size w w' ∧ Ity w' A (decH b).1.p

theorem hdec_no {w w' : World} {b : List UInt8} {er : Int} (h : decH b = (noH, er)) (hb : Below w.heap.size w w') : HDecPost w b (.returned (.tuple #[.agg #[.int .i64 0, .int .i64 0, .string ⟨#[]⟩, .int .i64 0, .bool false, .slice none 0 0], .int .i64 er])) w' := by
  unfold HDecPost
  rw [h]
  exact ⟨none, 0, rfl, Nat.le_refl _, Row.nil _ _, hb, fun h => absurd rfl h⟩

set_option maxHeartbeats 2000000 in
theorem hDecode_sum (A : Option Addr) (n c : Nat) (b : List UInt8) (w : World) (hn : b.length = n) (hnc : n ≤ c) (hr : Row w A (bv b)) (hsz : n ≤ 140737488355300) (ho : opened b = none) :
    Calls Try.prog 62 #[.slice A n c] w (HDecPost w b) := by
  have hz := Blk.new w 60 #[.int .i64 0, .int .i64 0, .string ⟨#[]⟩, .int .i64 0, .bool false, .slice none 0 0]
  have hbz := (Below.refl w.heap.size w).alloc (Nat.le_refl _) (.cells #[.int .i64 0, .int .i64 0, .string ⟨#[]⟩, .int .i64 0, .bool false, .slice none 0 0] 60)
  have hra := hr.alloc (.cells #[.int .i64 0, .int .i64 0, .string ⟨#[]⟩, .int .i64 0, .bool false, .slice none 0 0] 60)
  have kfr := fun (o : Nat) => hz.frozen o
  have hop : Calls Try.prog 86 #[.slice A n c] (w.alloc (.cells #[.int .i64 0, .int .i64 0, .string ⟨#[]⟩, .int .i64 0, .bool false, .slice none 0 0] 60)) fun e w' => e = .returned (.tuple #[.slice none 0 0, .bool false]) ∧ Below (w.alloc (.cells #[.int .i64 0, .int .i64 0, .string ⟨#[]⟩, .int .i64 0, .bool false, .slice none 0 0] 60)).heap.size (w.alloc (.cells #[.int .i64 0, .int .i64 0, .string ⟨#[]⟩, .int .i64 0, .bool false, .slice none 0 0] 60)) w' := by
    by_cases h4 : n < 4
    · exact (open_short A n c _ h4).mono fun e w' h => ⟨h.1, by rw [← h.2]; exact Below.refl _ _⟩
    · exact open_no A n c b _ hn hnc hra (by omega) (by omega) ho
  have HOP := Lib.hid hop
  have hd : decH b = (noH, 51) := by unfold decH; rw [ho]
  have HD := Lib.hid hd
  clear hop hn ho hd hr hra
  go_enter Try.func62, Try.ntmps62
  go_wp2_with fail
  refine HOP.out.mono ?_
  rintro e w1 ⟨rfl, hb1⟩
  have hz1 := hz.belowAll hb1
  obtain ⟨⟨f1, f2, f3, f4, f5, f6⟩, ⟨g1, g2, g3, g4, g5, g6⟩, hz2, hbe⟩ := hz1.put6 (.int .i64 0) (.int .i64 0) (.string ⟨#[]⟩) (.int .i64 0) (.bool false) (.slice none 0 0)
  go_wp2_with fail
  (try simp only [Exit.inBlock, Exit.then])
  refine bodyPost_ret (results_row_tmp rfl _ _ _ 60 _ (0, 0) _ rfl hz2 Try.underlying60 rfl (head_info _ _ _ _ _ _)) rfl ?_
  exact hdec_no HD.out (hbe w _ (below_all hbz hb1) (Nat.le_refl _))

end Go.Proofs.Ytbljacafmkdlmaa

/- head.Decode where there is too little for the sign. Conditions: the bytes fit memory. -/
namespace Go.Proofs.Ytbljacafmkdlmaa
set_option maxRecDepth 100000
open Go.RowKit

set_option maxHeartbeats 400000 in
theorem hDecode_short (A : Option Addr) (n c : Nat) (b : List UInt8) (w : World) (hn : b.length = n) (hnc : n ≤ c) (hr : Row w A (bv b)) (hsz : n ≤ 140737488355300) (x : List UInt8) (ho : opened b = some x) (hl : n - 4 < 10) :
    Calls Try.prog 62 #[.slice A n c] w (HDecPost w b) := by
  have hz := Blk.new w 60 #[.int .i64 0, .int .i64 0, .string ⟨#[]⟩, .int .i64 0, .bool false, .slice none 0 0]
  have hbz := (Below.refl w.heap.size w).alloc (Nat.le_refl _) (.cells #[.int .i64 0, .int .i64 0, .string ⟨#[]⟩, .int .i64 0, .bool false, .slice none 0 0] 60)
  have hra := hr.alloc (.cells #[.int .i64 0, .int .i64 0, .string ⟨#[]⟩, .int .i64 0, .bool false, .slice none 0 0] 60)
  have kfr := fun (o : Nat) => hz.frozen o
  have hop := open_yes A n c b x (w.alloc (.cells #[.int .i64 0, .int .i64 0, .string ⟨#[]⟩, .int .i64 0, .bool false, .slice none 0 0] 60)) hn hnc hra (by omega) ho
  have HOP := Lib.hid hop
  have HO := Lib.hid ho
  clear hop hn ho hr hra
  obtain ⟨N, hN⟩ : ∃ N, N = n - 4 := ⟨_, rfl⟩
  rw [← hN] at HOP hl
  have hl' : (N : Int) < 10 := by omega
  clear hN
  go_enter Try.func62, Try.ntmps62
  go_wp2_with fail
  refine HOP.out.mono ?_
  rintro e w1 ⟨A1, c1, rfl, hxl, h4, hown1, hb1⟩
  have hd : decH b = (noH, 50) := by
    unfold decH
    rw [HO.out]
    simp only
    rw [if_pos (.inl (by omega))]
  have HD := Lib.hid hd
  clear hd hxl
  have hz1 := hz.belowAll hb1
  obtain ⟨⟨f1, f2, f3, f4, f5, f6⟩, ⟨g1, g2, g3, g4, g5, g6⟩, hz2, hbe⟩ := hz1.put6 (.int .i64 0) (.int .i64 0) (.string ⟨#[]⟩) (.int .i64 0) (.bool false) (.slice none 0 0)
  go_wp2_with fail
  (try simp only [Exit.inBlock, Exit.then])
  refine bodyPost_ret (results_row_tmp rfl _ _ _ 60 _ (0, 0) _ rfl hz2 Try.underlying60 rfl (head_info _ _ _ _ _ _)) rfl ?_
  exact hdec_no HD.out (hbe w _ (below_all hbz hb1) (Nat.le_refl _))
end Go.Proofs.Ytbljacafmkdlmaa

/- head.Decode where the sign is another one. Conditions: the bytes fit memory. -/
namespace Go.Proofs.Ytbljacafmkdlmaa
set_option maxRecDepth 100000
open Go.RowKit

set_option maxHeartbeats 400000 in
theorem hDecode_magic (A : Option Addr) (n c : Nat) (b : List UInt8) (w : World) (hn : b.length = n) (hnc : n ≤ c) (hr : Row w A (bv b)) (hsz : n ≤ 140737488355300) (x : List UInt8) (ho : opened b = some x) (hl : ¬ n - 4 < 10) (hm : x.take 10 ≠ magic) :
    Calls Try.prog 62 #[.slice A n c] w (HDecPost w b) := by
  have hz := Blk.new w 60 #[.int .i64 0, .int .i64 0, .string ⟨#[]⟩, .int .i64 0, .bool false, .slice none 0 0]
  have hbz := (Below.refl w.heap.size w).alloc (Nat.le_refl _) (.cells #[.int .i64 0, .int .i64 0, .string ⟨#[]⟩, .int .i64 0, .bool false, .slice none 0 0] 60)
  have hra := hr.alloc (.cells #[.int .i64 0, .int .i64 0, .string ⟨#[]⟩, .int .i64 0, .bool false, .slice none 0 0] 60)
  have hop := open_yes A n c b x (w.alloc (.cells #[.int .i64 0, .int .i64 0, .string ⟨#[]⟩, .int .i64 0, .bool false, .slice none 0 0] 60)) hn hnc hra (by omega) ho
  have hd : decH b = (noH, 50) := by
    unfold decH
    rw [ho]
    simp only
    rw [if_pos (.inr hm)]
  have HOP := Lib.hid hop
  have HM := Lib.hid hm
  have HD := Lib.hid hd
  clear hop hn ho hr hra hm hd
  obtain ⟨N, hN⟩ : ∃ N, N = n - 4 := ⟨_, rfl⟩
  rw [← hN] at HOP hl
  have hl' : ¬ ((N : Int) < 10) := by omega
  clear hN
  go_enter Try.func62, Try.ntmps62
  go_wp2_with fail
  refine HOP.out.mono ?_
  rintro e w1 ⟨A1, c1, rfl, hxl, h4, hown1, hb1⟩
  have hz1 := hz.belowAll hb1
  have hb01 := below_all hbz hb1
  have hrow1 := hown1.row
  have hnc1 : N ≤ c1 := hown1.2.1
  have hlim1 : c1 ≤ maxLen := hown1.2.2.1
  have hc10 : (x.take 10).length = 10 := by rw [List.length_take]; omega
  have hr10 : Row w1 A1 (bv (x.take 10)) := by rw [← bv_take]; exact hrow1.take _
  have hcv := run_string (P := Try.prog) hc10 23 9 5 (c := c1) Try.underlying23 Try.underlying5 Try.underlying9 hr10
  clear hown1 hrow1 hr10 hc10 hxl h4 hz hbz
  have HM2 := HM.out
  obtain ⟨y, hy⟩ : ∃ y, y = x.take 10 := ⟨_, rfl⟩
  rw [← hy] at hcv HM2
  have hym : (y == [112, 101, 110, 116, 105, 109, 101, 110, 116, 111]) = false := by
    rw [beq_eq_false_iff_ne]
    exact HM2
  clear hy HM2
  go_upto_region 5 with fail
  clear hcv hym
  obtain ⟨⟨f1, f2, f3, f4, f5, f6⟩, ⟨g1, g2, g3, g4, g5, g6⟩, hz2, hbe⟩ := hz1.put6 (.int .i64 0) (.int .i64 0) (.string ⟨#[]⟩) (.int .i64 0) (.bool false) (.slice none 0 0)
  go_wp2_with fail
  (try simp only [Exit.inBlock, Exit.then])
  refine bodyPost_ret (results_row_tmp rfl _ _ _ 60 _ (0, 0) _ rfl hz2 Try.underlying60 rfl (head_info _ _ _ _ _ _)) rfl ?_
  exact hdec_no HD.out (hbe w _ hb01 (Nat.le_refl _))
end Go.Proofs.Ytbljacafmkdlmaa

/- What head.Decode keeps while it reads: its reader, the variable that holds it, the result's cell, the head. No condition. -/
namespace Go.Proofs.Ytbljacafmkdlmaa
set_option maxRecDepth 100000
open Go.RowKit

/-- The reader and its variable, the result's cell. -/
def DS (w0 w : World) (T gr Z : Nat) (l : List UInt8) (e : Int) : Prop :=
  Blk w T 115 #[.pointer (some ⟨gr, 0, none⟩)] ∧ Rd w gr l e ∧ Blk w Z 60 #[.int .i64 0, .int .i64 0, .string ⟨#[]⟩, .int .i64 0, .bool false, .slice none 0 0] ∧ Below w0.heap.size w0 w ∧ w0.heap.size ≤ gr ∧ w0.heap.size ≤ Z
/-- The head that is filled. -/
def HB (w0 w : World) (Z g : Nat) (cs : Array Value) : Prop := Blk w g 60 cs ∧ g ≠ Z ∧ w0.heap.size ≤ g

section
variable {w0 w w' : World} {T gr Z g : Nat} {l l' : List UInt8} {e e' : Int} {cs : Array Value}
theorem Rd.ne_ {t : TypeId} (h : Rd w gr l e) (hb : Blk w g t cs) (ht : t ≠ 146) : ¬ g = gr := by
  obtain ⟨A, n, c, h1, _⟩ := h
  exact hb.ne_ h1 ht
theorem DS.call (h : DS w0 w T gr Z l e) (hr : Rd w' gr l' e') (ho : Only w w' (· = gr)) : DS w0 w' T gr Z l' e' :=
  ⟨h.1.only ho (h.2.1.ne_ h.1 (by decide)), hr, h.2.2.1.only ho (h.2.1.ne_ h.2.2.1 (by decide)), h.2.2.2.1.trans (ho.belowB (fun k hk => by have : k = gr := hk; have := h.2.2.2.2.1; omega) h.2.2.2.1.size), h.2.2.2.2⟩
theorem DS.alloc (h : DS w0 w T gr Z l e) (o : Obj) : DS w0 (w.alloc o) T gr Z l e :=
  ⟨h.1.alloc o, h.2.1.alloc o, h.2.2.1.alloc o, h.2.2.2.1.alloc h.2.2.2.1.size o, h.2.2.2.2⟩
theorem DS.drew (h : DS w0 w T gr Z l e) : DS w0 w.drew T gr Z l e := ⟨h.1, h.2.1, h.2.2.1, h.2.2.2.1.drew, h.2.2.2.2⟩
theorem DS.grown {row : Option Nat} (h : DS w0 w T gr Z l e) (hg : w.grownBy w' row) (hr : ∀ k, row = some k → w0.heap.size ≤ k ∧ ∃ cur lh, w.heap[k]? = some (.cells cur 3 lh)) : DS w0 w' T gr Z l e := by
  have hne : ∀ {k : Nat} {t : TypeId} {c : Array Value}, Blk w k t c → t ≠ 3 → row ≠ some k := fun {k t c} hb ht hk => by
    obtain ⟨_, cur, lh, hh⟩ := hr k hk
    unfold Blk at hb
    rw [hh] at hb
    injection hb with hb
    injection hb with _ hb
    exact ht hb.symm
  have hrd := h.2.1
  obtain ⟨A, n, c, hq, _⟩ := h.2.1
  exact ⟨h.1.grown hg (hne h.1 (by decide)), hrd.grown hg (hne hq (by decide)) (fun k hk => by
    obtain ⟨_, cur, lh, hh⟩ := hr k hk
    exact ⟨cur, _, lh, hh, by decide⟩), h.2.2.1.grown hg (hne h.2.2.1 (by decide)), h.2.2.2.1.grown hg h.2.2.2.1.size (fun k hk => (hr k hk).1), h.2.2.2.2⟩
theorem DS.put (h : DS w0 w T gr Z l e) (hb : HB w0 w Z g cs) (ho : Only w w' (· = g)) : DS w0 w' T gr Z l e := by
  have h1 : ¬ T = g := h.1.ne_ hb.1 (by decide)
  have h2 : ¬ gr = g := fun he => h.2.1.ne_ hb.1 (by decide) he.symm
  exact ⟨h.1.only ho h1, h.2.1.away ho h2 (fun k hk => by
      have : k = g := hk
      subst this
      exact ⟨cs, _, _, hb.1, by decide⟩), h.2.2.1.only ho (fun he => hb.2.1 he.symm),
    h.2.2.2.1.trans (ho.belowB (fun k hk => by have : k = g := hk; have := hb.2.2; omega) h.2.2.2.1.size), h.2.2.2.2⟩
theorem HB.new (h : DS w0 w T gr Z l e) : HB w0 (w.alloc (.cells cs 60)) Z w.heap.size cs :=
  ⟨Blk.new w _ cs, fun he => by have := h.2.2.1.lt; omega, h.2.2.2.1.size⟩
theorem HB.call (h : HB w0 w Z g cs) (hd : DS w0 w T gr Z l e) (ho : Only w w' (· = gr)) : HB w0 w' Z g cs := ⟨h.1.only ho (hd.2.1.ne_ h.1 (by decide)), h.2⟩
theorem HB.alloc (h : HB w0 w Z g cs) (o : Obj) : HB w0 (w.alloc o) Z g cs := ⟨h.1.alloc o, h.2⟩
theorem HB.drew (h : HB w0 w Z g cs) : HB w0 w.drew Z g cs := h
theorem HB.grown {row : Option Nat} (h : HB w0 w Z g cs) (hg : w.grownBy w' row) (hr : ∀ k, row = some k → ∃ cur lh, w.heap[k]? = some (.cells cur 3 lh)) : HB w0 w' Z g cs :=
  ⟨h.1.grown hg (fun hk => by
    obtain ⟨cur, lh, hh⟩ := hr g hk
    have hb := h.1
    unfold Blk at hb
    rw [hh] at hb
    injection hb with hb
    injection hb with _ hb
    exact absurd hb (by decide)), h.2⟩
theorem HB.set (h : HB w0 w Z g cs) (i : Nat) (u : Value) : HB w0 (w.setCell ⟨g, i, none⟩ u) Z g (cs.setIfInBounds i u) := ⟨h.1.set_ i u, h.2⟩
theorem only_set (w : World) (g i : Nat) (u : Value) : Only w (w.setCell ⟨g, i, none⟩ u) (· = g) := Only.setCell (F := (· = g)) (Only.refl _ _) (p := ⟨g, i, none⟩) (.inl rfl) u
theorem DS.set (h : DS w0 w T gr Z l e) (hb : HB w0 w Z g cs) (i : Nat) (u : Value) : DS w0 (w.setCell ⟨g, i, none⟩ u) T gr Z l e := h.put hb (only_set w g i u)
theorem DS.put6 {a b c d f k : Value} (h : DS w0 w T gr Z l e) (hb : HB w0 w Z g #[a, b, c, d, f, k]) (a' b' c' d' f' k' : Value) :
    DS w0 ((((((w.setCell ⟨g, 0, none⟩ a').setCell ⟨g, 1, none⟩ b').setCell ⟨g, 2, none⟩ c').setCell ⟨g, 3, none⟩ d').setCell ⟨g, 4, none⟩ f').setCell ⟨g, 5, none⟩ k') T gr Z l e ∧
    HB w0 ((((((w.setCell ⟨g, 0, none⟩ a').setCell ⟨g, 1, none⟩ b').setCell ⟨g, 2, none⟩ c').setCell ⟨g, 3, none⟩ d').setCell ⟨g, 4, none⟩ f').setCell ⟨g, 5, none⟩ k') Z g #[a', b', c', d', f', k'] := by
  have h1 := h.set hb 0 a'
  have b1 := hb.set 0 a'
  have h2 := h1.set b1 1 b'
  have b2 := b1.set 1 b'
  have h3 := h2.set b2 2 c'
  have b3 := b2.set 2 c'
  have h4 := h3.set b3 3 d'
  have b4 := b3.set 3 d'
  have h5 := h4.set b4 4 f'
  have b5 := b4.set 4 f'
  exact ⟨h5.set b5 5 k', b5.set 5 k'⟩
end

theorem only_row (w : World) (g : Nat) (cs' : Array Value) : Only w (w.setRow g cs') (· = g) :=
  ⟨rfl, rfl, rfl, by simp, fun k _ hk => setRow_other w g k _ hk⟩
theorem Blk.row {w : World} {g : Nat} {t : TypeId} {cs : Array Value} (h : Blk w g t cs) (cs' : Array Value) : Blk (w.setRow g cs') g t cs' := setRow_heap w g cs _ t _ h
theorem HB.row {w0 w : World} {Z g : Nat} {cs : Array Value} (h : HB w0 w Z g cs) (cs' : Array Value) : HB w0 (w.setRow g cs') Z g cs' := ⟨h.1.row cs', h.2⟩
theorem DS.row {w0 w : World} {T gr Z g : Nat} {l : List UInt8} {e : Int} {cs : Array Value} (h : DS w0 w T gr Z l e) (hb : HB w0 w Z g cs) (cs' : Array Value) : DS w0 (w.setRow g cs') T gr Z l e := h.put hb (only_row w g cs')

theorem own_ne {w : World} {B : Nat} {A : Option Addr} {n c : Nat} {xs : List Value} (hown : Own w B 3 1 A n c xs) {g : Nat} {cs : Array Value} (hb : Blk w g 60 cs) : ∀ k, ownB A c = some k → k ≠ g := hown.blk_ne hb (by decide)
theorem DS.ownI {w0 w : World} {T gr Z B : Nat} {l : List UInt8} {e : Int} {A : Option Addr} {n c : Nat} {xs : List Value} (h : DS w0 w T gr Z l e) (hown : Own w B 3 1 A n c xs) : ∀ k, ownB A c = some k → ¬ k = gr := by
  obtain ⟨A1, n1, c1, hb, _⟩ := h.2.1
  exact hown.blk_ne hb (by decide)

theorem nm1_lt (l : List UInt8) (e : Int) : (nm l e 1).2.2 < 256 := by
  unfold nm
  simp only
  split
  · show (0 : Nat) < 256; decide
  · have h1 := un_lt (tk l e 1 (!rt 1)).2.2
    have h2 := tk_len l e 1 (!rt 1)
    have h3 : (256 : Nat) ^ (tk l e 1 (!rt 1)).2.2.length ≤ 256 ^ 1 := Nat.pow_le_pow_right (by omega) h2
    exact Nat.lt_of_lt_of_le h1 h3
theorem tx1_lt (l : List UInt8) (e : Int) : (tx l e 1).2.2.length ≤ 255 := by
  unfold tx
  refine Nat.le_trans (tk_len _ _ _ _) ?_
  have := nm1_lt l e
  rw [Int.toNat_natCast]
  omega
end Go.Proofs.Ytbljacafmkdlmaa
