/- pentimentolaw01.read and pentimentoref01.Read. Conditions: the reader's block is known; the text is an int's length. -/
import Derived.Test.YtijogfjihnbmeaaRefR
namespace Go.Proofs.Ytijogfjihnbmeaa
open Go.RowKit

theorem Blk.four {w : World} {g : Nat} {t : TypeId} {a b c d : Value} (h : Blk w g t #[a, b, c, d]) : (w.cell? ⟨g, 0, none⟩ = some a ∧ w.cell? ⟨g, 1, none⟩ = some b ∧ w.cell? ⟨g, 2, none⟩ = some c ∧ w.cell? ⟨g, 3, none⟩ = some d) ∧
    (w.frozen? ⟨g, 0, none⟩ = false ∧ w.frozen? ⟨g, 1, none⟩ = false ∧ w.frozen? ⟨g, 2, none⟩ = false ∧ w.frozen? ⟨g, 3, none⟩ = false) ∧ g < w.heap.size :=
  ⟨⟨h.cell 0, h.cell 1, h.cell 2, h.cell 3⟩, ⟨h.frozen 0, h.frozen 1, h.frozen 2, h.frozen 3⟩, h.lt⟩
theorem part_info (a b c d : Value) : (Try.prog.info? 40).map (·.size) = some (#[a, b, c, d] : Array Value).size := by
  show _ = some 4
  kernel_rfl

/-- A part that is read: what is left, the error, the number, the text. -/
def rp (l : List UInt8) (e k wd n : Int) : List UInt8 × Int × Nat × List UInt8 :=
  if k = 0 then ((nm l e wd).1, (nm l e wd).2.1, (nm l e wd).2.2, []) else if k = 1 then ((tx l e wd).1, (tx l e wd).2.1, 0, (tx l e wd).2.2)
  else if k = 2 then ((tk l e n (decide (n < 0))).1, (tk l e n (decide (n < 0))).2.1, 0, []) else (l, e, 0, [])
theorem rp_num (l : List UInt8) (e wd n : Int) : rp l e 0 wd n = ((nm l e wd).1, (nm l e wd).2.1, (nm l e wd).2.2, []) := rfl
theorem rp_text (l : List UInt8) (e wd n : Int) : rp l e 1 wd n = ((tx l e wd).1, (tx l e wd).2.1, 0, (tx l e wd).2.2) := rfl
theorem rp_skip (l : List UInt8) (e wd n : Int) : rp l e 2 wd n = ((tk l e n (decide (n < 0))).1, (tk l e n (decide (n < 0))).2.1, 0, []) := rfl
theorem rp_else (l : List UInt8) (e wd n : Int) {k : Int} (h0 : k ≠ 0) (h1 : k ≠ 1) (h2 : k ≠ 2) : rp l e k wd n = (l, e, 0, []) := by unfold rp; rw [if_neg h0, if_neg h1, if_neg h2]

def noU8 : Value → Bool
  | .int .u8 _ => false
  | _ => true
theorem Row.apart {w : World} {A : Option Addr} {l : List UInt8} {X : Nat} {t : TypeId} {cs : Array Value} (h : Row w A (bv l)) (hb : Blk w X t cs) (hno : cs.toList.all noU8 = true) : Apt A X l := by
  by_cases hl : l = []
  · exact .inl hl
  · have hp : 0 < l.length := List.length_pos_iff.2 hl
    obtain ⟨g, o, rfl, hg, hc⟩ := h.bcell (k := 0) hp
    refine .inr fun a ha hX => ?_
    injection ha with ha
    subst ha
    simp only at hX
    subst hX
    rw [hb.cell] at hc
    have hm : (Value.int IntKind.u8 (l[0].toNat : Int)) ∈ cs.toList := by
      have := Array.mem_of_getElem? hc
      simpa using this
    have := List.all_eq_true.1 hno _ hm
    cases this
theorem Rd.apart {w : World} {g : Nat} {l : List UInt8} {e : Int} (h : Rd w g l e) {X : Nat} {t : TypeId} {cs : Array Value} (hb : Blk w X t cs) (hno : cs.toList.all noU8 = true) (hX : g ≠ X) (i : Nat) (u : Value) : Rd (w.setCell ⟨X, i, none⟩ u) g l e := by
  obtain ⟨A, n, c, h1, h2, h3, h4, h5⟩ := h
  refine ⟨A, n, c, h1.far hX u, h2, h3, ?_, h5.1, h5.2.away (F := (· = X)) (h4.apart hb hno) (Only.setCell (F := (· = X)) (Only.refl _ _) (p := ⟨X, i, none⟩) (.inl rfl) u)⟩
  exact h4.away (h4.apart hb hno) (Only.setCell (F := (· = X)) (Only.refl _ _) (p := ⟨X, i, none⟩) (.inl rfl) u)
theorem three_new (w : World) (A B C : Obj) : (((w.alloc A).alloc B).alloc C).heap[w.heap.size + 1]? = some B ∧ (((w.alloc A).alloc B).alloc C).heap[w.heap.size + 1 + 1]? = some C ∧ (((w.alloc A).alloc B).alloc C).heap[w.heap.size]? = some A := by
  refine ⟨?_, ?_, ?_⟩
  · rw [heap_alloc_old _ _ (by simp)]
    exact heap_alloc2_new w A B
  · have := heap_alloc2_new (w.alloc A) B C
    rwa [World.size_alloc] at this
  · rw [heap_alloc_old _ _ (by simp; omega)]
    exact heap_alloc2_old w A B
theorem three_only (w : World) (A B C : Obj) (F : Nat → Prop) : Only w (((w.alloc A).alloc B).alloc C) F := (((Only.refl _ _).alloc _).alloc _).alloc _

set_option maxHeartbeats 2000000 in
theorem read_any (g : Nat) (l : List UInt8) (e0 k wd n : Int) (s : ByteArray) (w : World) (h : Rd w g l e0) :
    Calls Try.prog 19 #[.pointer (some ⟨g, 0, none⟩), .agg #[.int .i64 k, .int .i64 wd, .int .i64 n, .string s]] w fun e w' =>
      e = .returned (.agg #[.int .i64 k, .int .i64 wd, .int .i64 ((rp l e0 k wd n).2.2.1 : Int), .string (str (rp l e0 k wd n).2.2.2)]) ∧ Rd w' g (rp l e0 k wd n).1 (rp l e0 k wd n).2.1 ∧ Only w w' (· = g) := by
  have hg : g < w.heap.size := by obtain ⟨_, _, _, hb, _⟩ := h; exact hb.lt
  by_cases h0 : k = 0
  · subst h0
    rw [rp_num]
    go_enter Try.func19, Try.ntmps19
    go_wp2_with fail
    refine (rnum_any g l e0 wd _ (((h.alloc _).alloc _).alloc _)).mono ?_
    rintro e w1 ⟨rfl, hrd1, hon1⟩
    obtain ⟨n1, n2, _⟩ := three_new w (.cells #[.int .i64 0, .int .i64 wd, .int .i64 n, .string s] 40) (.cells #[.int .i64 0, .int .i64 0, .int .i64 0, .string ⟨#[]⟩] 40) (.cells #[.int .i64 0, .int .i64 wd, .int .i64 0, .string ⟨#[]⟩] 40)
    have hA1 : Blk w1 (w.heap.size + 1) 40 #[.int .i64 0, .int .i64 0, .int .i64 0, .string ⟨#[]⟩] := Blk.only n1 hon1 (by omega)
    have hC1 : Blk w1 (w.heap.size + 1 + 1) 40 #[.int .i64 0, .int .i64 wd, .int .i64 0, .string ⟨#[]⟩] := Blk.only n2 hon1 (by omega)
    have ho1 : Only w w1 (· = g) := (three_only w _ _ _ _).trans hon1 (fun _ _ h => h)
    clear n1 n2 hon1
    obtain ⟨⟨a1, a2, a3, a4⟩, ⟨a5, a6, a7, a8⟩, a9⟩ := hA1.four
    obtain ⟨⟨b1, b2, b3, b4⟩, ⟨b5, b6, b7, b8⟩, b9⟩ := hC1.four
    have hA2 := hA1.far (p := ⟨w.heap.size + 1 + 1, 2, none⟩) (by simp) (.int .i64 ((nm l e0 wd).2.2 : Int))
    have hC2 : Blk (w1.setCell ⟨w.heap.size + 1 + 1, 2, none⟩ (.int .i64 ((nm l e0 wd).2.2 : Int))) (w.heap.size + 1 + 1) 40 #[.int .i64 0, .int .i64 wd, .int .i64 ((nm l e0 wd).2.2 : Int), .string ⟨#[]⟩] := hC1.set_ 2 _
    have hr2 := hrd1.apart hC1 rfl (by omega) 2 (.int .i64 ((nm l e0 wd).2.2 : Int))
    have ho2 := ho1.setCell (p := ⟨w.heap.size + 1 + 1, 2, none⟩) (.inr (by simp; omega)) (.int .i64 ((nm l e0 wd).2.2 : Int))
    obtain ⟨⟨c1, c2, c3, c4⟩, ⟨c5, c6, c7, c8⟩, c9⟩ := hA2.four
    obtain ⟨⟨d1, d2, d3, d4⟩, ⟨d5, d6, d7, d8⟩, d9⟩ := hC2.four
    have e1 : Blk _ (w.heap.size + 1) 40 #[.int .i64 0, .int .i64 0, .int .i64 0, .string ⟨#[]⟩] := hA2.set_ 0 (.int .i64 0)
    have e2 : Blk _ (w.heap.size + 1) 40 #[.int .i64 0, .int .i64 wd, .int .i64 0, .string ⟨#[]⟩] := e1.set_ 1 (.int .i64 wd)
    have e3 : Blk _ (w.heap.size + 1) 40 #[.int .i64 0, .int .i64 wd, .int .i64 ((nm l e0 wd).2.2 : Int), .string ⟨#[]⟩] := e2.set_ 2 (.int .i64 ((nm l e0 wd).2.2 : Int))
    have e4 : Blk _ (w.heap.size + 1) 40 #[.int .i64 0, .int .i64 wd, .int .i64 ((nm l e0 wd).2.2 : Int), .string ⟨#[]⟩] := e3.set_ 3 (.string ⟨#[]⟩)
    have f1 := hr2.apart hA2 rfl (by omega) 0 (.int .i64 0)
    have f2 := f1.apart e1 rfl (by omega) 1 (.int .i64 wd)
    have f3 := f2.apart e2 rfl (by omega) 2 (.int .i64 ((nm l e0 wd).2.2 : Int))
    have f4 := f3.apart e3 rfl (by omega) 3 (.string ⟨#[]⟩)
    have g4 := (((ho2.setCell (p := ⟨w.heap.size + 1, 0, none⟩) (.inr (by simp)) (.int .i64 0)).setCell (p := ⟨w.heap.size + 1, 1, none⟩) (.inr (by simp)) (.int .i64 wd)).setCell (p := ⟨w.heap.size + 1, 2, none⟩) (.inr (by simp)) (.int .i64 ((nm l e0 wd).2.2 : Int))).setCell (p := ⟨w.heap.size + 1, 3, none⟩) (.inr (by simp)) (.string ⟨#[]⟩)
    have E4 := Lib.hid e4
    clear e1 e2 e3 e4 f1 f2 f3
    go_wp2_with fail
    (try simp only [Exit.inBlock, Exit.then])
    refine bodyPost_ret (results_cell_row rfl _ _ _ 40 _ (0, 0) _ rfl E4.out Try.underlying40 rfl (part_info _ _ _ _)) rfl ?_
    exact ⟨rfl, f4, g4⟩
  by_cases h1 : k = 1
  · subst h1
    rw [rp_text]
    go_enter Try.func19, Try.ntmps19
    go_wp2_with fail
    refine (rtext_any g l e0 wd _ (((h.alloc _).alloc _).alloc _)).mono ?_
    rintro e w1 ⟨rfl, hrd1, hon1⟩
    obtain ⟨n1, n2, _⟩ := three_new w (.cells #[.int .i64 1, .int .i64 wd, .int .i64 n, .string s] 40) (.cells #[.int .i64 0, .int .i64 0, .int .i64 0, .string ⟨#[]⟩] 40) (.cells #[.int .i64 1, .int .i64 wd, .int .i64 0, .string ⟨#[]⟩] 40)
    have hA1 : Blk w1 (w.heap.size + 1) 40 #[.int .i64 0, .int .i64 0, .int .i64 0, .string ⟨#[]⟩] := Blk.only n1 hon1 (by omega)
    have hC1 : Blk w1 (w.heap.size + 1 + 1) 40 #[.int .i64 1, .int .i64 wd, .int .i64 0, .string ⟨#[]⟩] := Blk.only n2 hon1 (by omega)
    have ho1 : Only w w1 (· = g) := (three_only w _ _ _ _).trans hon1 (fun _ _ h => h)
    clear n1 n2 hon1
    obtain ⟨⟨a1, a2, a3, a4⟩, ⟨a5, a6, a7, a8⟩, a9⟩ := hA1.four
    obtain ⟨⟨b1, b2, b3, b4⟩, ⟨b5, b6, b7, b8⟩, b9⟩ := hC1.four
    have hA2 := hA1.far (p := ⟨w.heap.size + 1 + 1, 3, none⟩) (by simp) (.string (str (tx l e0 wd).2.2))
    have hC2 : Blk (w1.setCell ⟨w.heap.size + 1 + 1, 3, none⟩ (.string (str (tx l e0 wd).2.2))) (w.heap.size + 1 + 1) 40 #[.int .i64 1, .int .i64 wd, .int .i64 0, .string (str (tx l e0 wd).2.2)] := hC1.set_ 3 _
    have hr2 := hrd1.apart hC1 rfl (by omega) 3 (.string (str (tx l e0 wd).2.2))
    have ho2 := ho1.setCell (p := ⟨w.heap.size + 1 + 1, 3, none⟩) (.inr (by simp; omega)) (.string (str (tx l e0 wd).2.2))
    obtain ⟨⟨c1, c2, c3, c4⟩, ⟨c5, c6, c7, c8⟩, c9⟩ := hA2.four
    obtain ⟨⟨d1, d2, d3, d4⟩, ⟨d5, d6, d7, d8⟩, d9⟩ := hC2.four
    have e1 : Blk _ (w.heap.size + 1) 40 #[.int .i64 1, .int .i64 0, .int .i64 0, .string ⟨#[]⟩] := hA2.set_ 0 (.int .i64 1)
    have e2 : Blk _ (w.heap.size + 1) 40 #[.int .i64 1, .int .i64 wd, .int .i64 0, .string ⟨#[]⟩] := e1.set_ 1 (.int .i64 wd)
    have e3 : Blk _ (w.heap.size + 1) 40 #[.int .i64 1, .int .i64 wd, .int .i64 0, .string ⟨#[]⟩] := e2.set_ 2 (.int .i64 0)
    have e4 : Blk _ (w.heap.size + 1) 40 #[.int .i64 1, .int .i64 wd, .int .i64 0, .string (str (tx l e0 wd).2.2)] := e3.set_ 3 (.string (str (tx l e0 wd).2.2))
    have f1 := hr2.apart hA2 rfl (by omega) 0 (.int .i64 1)
    have f2 := f1.apart e1 rfl (by omega) 1 (.int .i64 wd)
    have f3 := f2.apart e2 rfl (by omega) 2 (.int .i64 0)
    have f4 := f3.apart e3 rfl (by omega) 3 (.string (str (tx l e0 wd).2.2))
    have g4 := (((ho2.setCell (p := ⟨w.heap.size + 1, 0, none⟩) (.inr (by simp)) (.int .i64 1)).setCell (p := ⟨w.heap.size + 1, 1, none⟩) (.inr (by simp)) (.int .i64 wd)).setCell (p := ⟨w.heap.size + 1, 2, none⟩) (.inr (by simp)) (.int .i64 0)).setCell (p := ⟨w.heap.size + 1, 3, none⟩) (.inr (by simp)) (.string (str (tx l e0 wd).2.2))
    have E4 := Lib.hid e4
    clear e1 e2 e3 e4 f1 f2 f3
    go_wp2_with fail
    (try simp only [Exit.inBlock, Exit.then])
    refine bodyPost_ret (results_cell_row rfl _ _ _ 40 _ (0, 0) _ rfl E4.out Try.underlying40 rfl (part_info _ _ _ _)) rfl ?_
    exact ⟨rfl, f4, g4⟩
  by_cases h2 : k = 2
  · subst h2
    rw [rp_skip]
    go_enter Try.func19, Try.ntmps19
    go_wp2_with fail
    refine (skip_any g l e0 n _ (((h.alloc _).alloc _).alloc _)).mono ?_
    rintro e w1 ⟨rfl, hrd1, hon1⟩
    obtain ⟨n1, n2, _⟩ := three_new w (.cells #[.int .i64 2, .int .i64 wd, .int .i64 n, .string s] 40) (.cells #[.int .i64 0, .int .i64 0, .int .i64 0, .string ⟨#[]⟩] 40) (.cells #[.int .i64 2, .int .i64 wd, .int .i64 0, .string ⟨#[]⟩] 40)
    have hA1 : Blk w1 (w.heap.size + 1) 40 #[.int .i64 0, .int .i64 0, .int .i64 0, .string ⟨#[]⟩] := Blk.only n1 hon1 (by omega)
    have hC1 : Blk w1 (w.heap.size + 1 + 1) 40 #[.int .i64 2, .int .i64 wd, .int .i64 0, .string ⟨#[]⟩] := Blk.only n2 hon1 (by omega)
    have ho1 : Only w w1 (· = g) := (three_only w _ _ _ _).trans hon1 (fun _ _ h => h)
    clear n1 n2 hon1
    obtain ⟨⟨a1, a2, a3, a4⟩, ⟨a5, a6, a7, a8⟩, a9⟩ := hA1.four
    obtain ⟨⟨b1, b2, b3, b4⟩, ⟨b5, b6, b7, b8⟩, b9⟩ := hC1.four
    have e1 : Blk _ (w.heap.size + 1) 40 #[.int .i64 2, .int .i64 0, .int .i64 0, .string ⟨#[]⟩] := hA1.set_ 0 (.int .i64 2)
    have e2 : Blk _ (w.heap.size + 1) 40 #[.int .i64 2, .int .i64 wd, .int .i64 0, .string ⟨#[]⟩] := e1.set_ 1 (.int .i64 wd)
    have e3 : Blk _ (w.heap.size + 1) 40 #[.int .i64 2, .int .i64 wd, .int .i64 0, .string ⟨#[]⟩] := e2.set_ 2 (.int .i64 0)
    have e4 : Blk _ (w.heap.size + 1) 40 #[.int .i64 2, .int .i64 wd, .int .i64 0, .string ⟨#[]⟩] := e3.set_ 3 (.string ⟨#[]⟩)
    have f1 := hrd1.apart hA1 rfl (by omega) 0 (.int .i64 2)
    have f2 := f1.apart e1 rfl (by omega) 1 (.int .i64 wd)
    have f3 := f2.apart e2 rfl (by omega) 2 (.int .i64 0)
    have f4 := f3.apart e3 rfl (by omega) 3 (.string ⟨#[]⟩)
    have g4 := (((ho1.setCell (p := ⟨w.heap.size + 1, 0, none⟩) (.inr (by simp)) (.int .i64 2)).setCell (p := ⟨w.heap.size + 1, 1, none⟩) (.inr (by simp)) (.int .i64 wd)).setCell (p := ⟨w.heap.size + 1, 2, none⟩) (.inr (by simp)) (.int .i64 0)).setCell (p := ⟨w.heap.size + 1, 3, none⟩) (.inr (by simp)) (.string ⟨#[]⟩)
    have E4 := Lib.hid e4
    clear e1 e2 e3 e4 f1 f2 f3
    go_wp2_with fail
    (try simp only [Exit.inBlock, Exit.then])
    refine bodyPost_ret (results_cell_row rfl _ _ _ 40 _ (0, 0) _ rfl E4.out Try.underlying40 rfl (part_info _ _ _ _)) rfl ?_
    exact ⟨rfl, f4, g4⟩
  rw [rp_else l e0 wd n h0 h1 h2]
  have h0' : (k == 0) = false := by simpa using h0
  have h1' : (k == 1) = false := by simpa using h1
  have h2' : (k == 2) = false := by simpa using h2
  go_enter Try.func19, Try.ntmps19
  go_wp2_with fail
  (try simp only [Exit.inBlock, Exit.then])
  refine bodyPost_ret (results_cell_row rfl _ _ _ 40 _ (0, 0) _ rfl (three_new w _ _ _).1 Try.underlying40 rfl (part_info _ _ _ _)) rfl ?_
  exact ⟨rfl, ((h.alloc _).alloc _).alloc _, three_only _ _ _ _ _⟩
end Go.Proofs.Ytijogfjihnbmeaa
