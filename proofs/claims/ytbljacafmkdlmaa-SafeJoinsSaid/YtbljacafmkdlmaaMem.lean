/- Words for memory, over any program: a row of cells that a slice reads, a row that is the call's own, what of the memory may have turned; one law for append. No condition. -/
import Derived.WalkKit
import Derived.WalkSpells
import Derived.WalkLawsBesides
import Derived.Lib.Hide
import Derived.Deep.Draws
import Derived.Laws.IdiomStrings
import Derived.Deep.AppendLies
namespace Go.Proofs.Ytbljacafmkdlmaa
open Go.RowKit

theorem addr_add (g o j : Nat) : (⟨g, o, none⟩ : Addr).add j = ⟨g, o + j, none⟩ := by unfold Addr.add; split <;> simp_all

/-! ## What may have turned -/
/-- Outside the blocks F nothing that was there has turned. -/
structure Only (w w' : World) (F : Nat → Prop) : Prop where
  os : w'.os = w.os
  tape : w'.tape = w.tape
  output : w'.output = w.output
  size : w.heap.size ≤ w'.heap.size
  block : ∀ k, k < w.heap.size → ¬ F k → w'.heap[k]? = w.heap[k]?

def NoB : Nat → Prop := fun _ => False

section
variable {w w' w1 w2 : World} {F G : Nat → Prop}
theorem Only.refl (w : World) (F : Nat → Prop) : Only w w F := ⟨rfl, rfl, rfl, Nat.le_refl _, fun _ _ _ => rfl⟩
theorem Only.mono (h : Only w w' F) (hF : ∀ k, k < w.heap.size → F k → G k) : Only w w' G := ⟨h.os, h.tape, h.output, h.size, fun k hk hn => h.block k hk fun hf => hn (hF k hk hf)⟩
theorem Only.trans (h : Only w w1 F) (k : Only w1 w2 G) (hG : ∀ i, i < w.heap.size → G i → F i) : Only w w2 F :=
  ⟨k.os.trans h.os, k.tape.trans h.tape, k.output.trans h.output, Nat.le_trans h.size k.size,
    fun i hi hn => (k.block i (Nat.lt_of_lt_of_le hi h.size) fun hg => hn (hG i hi hg)).trans (h.block i hi hn)⟩
theorem Only.drew (h : Only w w' F) : Only w w'.drew F := ⟨h.os, h.tape, h.output, h.size, h.block⟩
theorem Only.drewN (h : Only w w' F) (n : Nat) : Only w (w'.drewN n) F := ⟨h.os, h.tape, h.output, h.size, h.block⟩
theorem Only.alloc (h : Only w w' F) (o : Obj) : Only w (w'.alloc o) F :=
  ⟨h.os, h.tape, h.output, Nat.le_trans h.size (by simp), fun i hi hne => (Below.heap_alloc w' o i (Nat.lt_of_lt_of_le hi h.size)).trans (h.block i hi hne)⟩
theorem Only.setCell (h : Only w w' F) {p : Addr} (hp : F p.block ∨ w.heap.size ≤ p.block) (u : Value) : Only w (w'.setCell p u) F :=
  ⟨h.os, h.tape, h.output, by simpa using h.size, fun i hi hne => (Below.heap_setCell w' p u i (by
    rintro rfl
    rcases hp with hp | hp
    · exact hne hp
    · omega)).trans (h.block i hi hne)⟩
theorem Only.grown {row : Option Nat} (h : Only w w1 F) (hg : w1.grownBy w2 row) (hr : ∀ k, row = some k → F k ∨ w.heap.size ≤ k) : Only w w2 F :=
  ⟨hg.os.trans h.os, hg.tape.trans h.tape, hg.output.trans h.output, Nat.le_trans h.size hg.size, fun k hk hn =>
    (hg.block k (Nat.lt_of_lt_of_le hk h.size) fun e => by
      rcases hr k e.symm with hf | hf
      · exact hn hf
      · omega).trans (h.block k hk hn)⟩
theorem Only.below (h : Only w w' F) (hF : ∀ k, k < w.heap.size → ¬ F k) : Below w.heap.size w w' := ⟨h.os, h.tape, h.output, h.size, fun k hk => h.block k hk (hF k hk)⟩
theorem Only.of_below (h : Below w.heap.size w w') (F : Nat → Prop) : Only w w' F := ⟨h.os, h.tape, h.output, h.size, fun k hk _ => h.block k hk⟩
theorem Only.of_belowB {B : Nat} (h : Below B w w') : Only w w' (B ≤ ·) := ⟨h.os, h.tape, h.output, h.size, fun k _ hn => h.block k (by omega)⟩
theorem Only.belowB {B : Nat} (h : Only w w' F) (hF : ∀ k, F k → B ≤ k) (hB : B ≤ w.heap.size) : Below B w w' := ⟨h.os, h.tape, h.output, h.size, fun k hk => h.block k (by omega) fun hf => by have := hF k hf; omega⟩
theorem Only.cell (h : Only w w' F) {p : Addr} {v : Value} (hc : w.cell? p = some v) (hp : ¬ F p.block) : w'.cell? p = some v :=
  (World.cell?_of_block (h.block p.block (World.block_lt_of_cell? w p hc) hp)).trans hc
theorem Only.frozen (h : Only w w' F) {p : Addr} (hl : p.block < w.heap.size) (hp : ¬ F p.block) : w'.frozen? p = w.frozen? p :=
  World.frozen?_of_block (h.block p.block hl hp)
theorem below_drewN {B : Nat} {a w : World} (h : Below B a w) (n : Nat) : Below B a (w.drewN n) := ⟨h.os, h.tape, h.output, h.size, h.block⟩
theorem below_all {w w1 w2 : World} (h : Below w.heap.size w w1) (k : Below w1.heap.size w1 w2) : Below w.heap.size w w2 := h.trans (k.mono h.size)
theorem below_cells {w w1 : World} (h : Below w.heap.size w w1) : ∀ p v, w.cell? p = some v → w1.cell? p = some v := fun p _ hc => (h.cell (World.block_lt_of_cell? w p hc)).trans hc
end

/-! ## A row of cells that is read -/
def Row (w : World) (A : Option Addr) (xs : List Value) : Prop :=
  xs = [] ∨ ∃ g o, A = some ⟨g, o, none⟩ ∧ ∀ j u, xs[j]? = some u → w.cell? ⟨g, o + j, none⟩ = some u

section
variable {w w' : World} {A : Option Addr} {xs : List Value}
theorem Row.nil (w : World) (A : Option Addr) : Row w A [] := .inl rfl
theorem Row.at_ (h : Row w A xs) (hk : 0 < xs.length) : ∃ g o, A = some ⟨g, o, none⟩ ∧ g < w.heap.size ∧ ∀ j u, xs[j]? = some u → w.cell? ⟨g, o + j, none⟩ = some u := by
  rcases h with rfl | ⟨g, o, hA, hc⟩
  · simp at hk
  · exact ⟨g, o, hA, World.block_lt_of_cell? w _ (hc 0 _ (List.getElem?_eq_getElem hk)), hc⟩
theorem Row.cells_ (h : Row w A xs) (hc : ∀ p v, w.cell? p = some v → w'.cell? p = some v) : Row w' A xs := by
  rcases h with rfl | ⟨g, o, hA, hx⟩
  · exact .inl rfl
  · exact .inr ⟨g, o, hA, fun j u hu => hc _ _ (hx j u hu)⟩
theorem Row.below (h : Row w A xs) (hb : Below w.heap.size w w') : Row w' A xs := h.cells_ (below_cells hb)
theorem Row.drew (h : Row w A xs) : Row w.drew A xs := h
theorem Row.drewN (h : Row w A xs) (n : Nat) : Row (w.drewN n) A xs := h
theorem Row.alloc (h : Row w A xs) (o : Obj) : Row (w.alloc o) A xs := h.below ((Below.refl _ _).alloc (Nat.le_refl _) o)
theorem Row.only (h : Row w A xs) {F : Nat → Prop} (hb : Only w w' F) (hA : ∀ a, A = some a → ¬ F a.block) : Row w' A xs := by
  rcases h with rfl | ⟨g, o, rfl, hx⟩
  · exact .inl rfl
  · exact .inr ⟨g, o, rfl, fun j u hu => hb.cell (hx j u hu) (hA ⟨g, o, none⟩ rfl)⟩
theorem Row.drop (h : Row w A xs) (l c : Nat) (hc : xs.length ≤ c) : Row w (if c = l then A else A.map (·.add l)) (xs.drop l) := by
  by_cases hl : xs.length ≤ l
  · exact .inl (List.drop_eq_nil_of_le hl)
  · rcases h with rfl | ⟨g, o, rfl, hx⟩
    · exact .inl (by simp)
    · rw [if_neg (by omega)]
      refine .inr ⟨g, o + l, by simp [addr_add], fun j u hu => ?_⟩
      rw [List.getElem?_drop] at hu
      rw [Nat.add_assoc]
      exact hx _ _ hu
theorem Row.take (h : Row w A xs) (n : Nat) : Row w A (xs.take n) := by
  rcases h with rfl | ⟨g, o, rfl, hx⟩
  · exact .inl (by simp)
  · refine .inr ⟨g, o, rfl, fun j u hu => hx j u ?_⟩
    rw [List.getElem?_take] at hu
    split at hu
    · exact hu
    · cases hu
theorem Row.firstCells {P : Program} (h : Row w A xs) (size n l c : Nat) (hl : xs.length = n * size) : (Builtin.firstCells size n (.slice A l c)).run P w = .ok xs.toArray w := by
  rcases h with rfl | ⟨g, o, rfl, hx⟩
  · cases A with
    | none => simp [Builtin.firstCells]
    | some a =>
      have hz : n * size = 0 := by simpa using hl.symm
      simp [Builtin.firstCells, hz, loadCells, loadCellsFrom]
  · exact run_firstCells_some w size n _ l c xs hl (fun j v hv => by rw [addr_add]; exact hx j v hv)
end

/-! ## A row of the call's own -/
def ownB (A : Option Addr) (c : Nat) : Option Nat := if c = 0 then none else A.map (·.block)

def Own (w : World) (B : Nat) (e : TypeId) (size : Nat) (A : Option Addr) (n c : Nat) (xs : List Value) : Prop :=
  xs.length = n * size ∧ n ≤ c ∧ c ≤ maxLen ∧
  (c = 0 ∨ ∃ g cur lo hi, A = some ⟨g, 0, none⟩ ∧ B ≤ g ∧ w.heap[g]? = some (.cells cur e (lo, hi)) ∧ (cur.size ≤ lo ∨ hi ≤ lo) ∧ cur.size = c * size ∧ cur.toList.take (n * size) = xs)

section
variable {w w' : World} {B : Nat} {e : TypeId} {size : Nat} {A : Option Addr} {n c : Nat} {xs : List Value}
theorem Own.nil (w : World) (B : Nat) (e : TypeId) (size : Nat) (A : Option Addr) : Own w B e size A 0 0 [] := ⟨by simp, Nat.le_refl _, Nat.zero_le _, .inl rfl⟩
theorem ownB_zero (A : Option Addr) : ownB A 0 = none := rfl
theorem ownB_some {c : Nat} (hc : 0 < c) (g o : Nat) : ownB (some ⟨g, o, none⟩) c = some g := by unfold ownB; rw [if_neg (by omega)]; rfl
theorem Own.lt (h : Own w B e size A n c xs) : ∀ k, ownB A c = some k → B ≤ k ∧ k < w.heap.size := by
  intro k hk
  unfold ownB at hk
  by_cases hc : c = 0
  · simp [hc] at hk
  · rcases h.2.2.2 with h0 | ⟨g, cur, lo, hi, rfl, hb, hg, _⟩
    · exact absurd h0 hc
    · simp [hc] at hk
      subst hk
      exact ⟨hb, (Array.getElem?_eq_some_iff.1 hg).1⟩
theorem Own.row (h : Own w B e size A n c xs) : Row w A xs := by
  obtain ⟨hl, hn, _, h | ⟨g, cur, lo, hi, rfl, hb, hg, _, hs, ht⟩⟩ := h
  · subst h
    have : n = 0 := by omega
    subst this
    exact .inl (List.eq_nil_of_length_eq_zero (by simpa using hl))
  · refine .inr ⟨g, 0, rfl, fun j u hu => ?_⟩
    rw [cell_of_row w g _ cur e (lo, hi) hg]
    rw [← ht, List.getElem?_take] at hu
    split at hu
    · simpa using hu
    · cases hu
theorem Own.heap_ (h : Own w B e size A n c xs) (hh : ∀ k, ownB A c = some k → w'.heap[k]? = w.heap[k]?) : Own w' B e size A n c xs := by
  obtain ⟨hl, hn, hm, h | ⟨g, cur, lo, hi, rfl, hb, hg, r⟩⟩ := h
  · exact ⟨hl, hn, hm, .inl h⟩
  · by_cases hc : c = 0
    · exact ⟨hl, hn, hm, .inl hc⟩
    · exact ⟨hl, hn, hm, .inr ⟨g, cur, lo, hi, rfl, hb, (hh g (ownB_some (by omega) g 0)).trans hg, r⟩⟩
theorem Own.only (h : Own w B e size A n c xs) {F : Nat → Prop} (hb : Only w w' F) (hF : ∀ k, ownB A c = some k → ¬ F k) : Own w' B e size A n c xs :=
  h.heap_ fun k hk => hb.block k (h.lt k hk).2 (hF k hk)
theorem Own.below (h : Own w B e size A n c xs) (hb : Below w.heap.size w w') : Own w' B e size A n c xs := h.heap_ fun k hk => hb.block k (h.lt k hk).2
theorem Own.grown (h : Own w B e size A n c xs) {row : Option Nat} (hb : w.grownBy w' row) (hF : ∀ k, ownB A c = some k → row ≠ some k) : Own w' B e size A n c xs :=
  h.heap_ fun k hk => hb.block k (h.lt k hk).2 fun e => hF k hk e.symm
theorem Own.drew (h : Own w B e size A n c xs) : Own w.drew B e size A n c xs := h
theorem Own.drewN (h : Own w B e size A n c xs) (k : Nat) : Own (w.drewN k) B e size A n c xs := h
theorem Own.alloc (h : Own w B e size A n c xs) (o : Obj) : Own (w.alloc o) B e size A n c xs := h.below ((Below.refl _ _).alloc (Nat.le_refl _) o)
theorem Own.setCell (h : Own w B e size A n c xs) {p : Addr} (hp : ∀ k, ownB A c = some k → k ≠ p.block) (u : Value) : Own (w.setCell p u) B e size A n c xs :=
  h.heap_ fun k hk => Below.heap_setCell w p u k (hp k hk)
theorem Own.less (h : Own w B e size A n c xs) {B' : Nat} (hB : B' ≤ B) : Own w B' e size A n c xs := by
  obtain ⟨hl, hn, hm, h | ⟨g, cur, lo, hi, rfl, hb, r⟩⟩ := h
  · exact ⟨hl, hn, hm, .inl h⟩
  · exact ⟨hl, hn, hm, .inr ⟨g, cur, lo, hi, rfl, Nat.le_trans hB hb, r⟩⟩
theorem Own.head (h : Own w B e size A n c xs) {m : Nat} (hm : m ≤ n) : Own w B e size A m c (xs.take (m * size)) := by
  have hms : m * size ≤ n * size := Nat.mul_le_mul_right _ hm
  obtain ⟨hl, hn, hmx, h | ⟨g, cur, lo, hi, rfl, hb, hg, hf, hs, ht⟩⟩ := h
  · exact ⟨by rw [List.length_take, hl]; omega, by omega, hmx, .inl h⟩
  · refine ⟨by rw [List.length_take, hl]; omega, by omega, hmx, .inr ⟨g, cur, lo, hi, rfl, hb, hg, hf, hs, ?_⟩⟩
    rw [← ht, List.take_take, Nat.min_eq_left hms]
/-- A new block that holds just these cells, then more. -/
theorem Own.fresh (w : World) (cur : Array Value) (e : TypeId) (size n c lo hi : Nat) (xs : List Value) (hm : c ≤ maxLen) (hn : n ≤ c) (hs : cur.size = c * size) (hl : xs.length = n * size) (ht : cur.toList.take (n * size) = xs) (hf : cur.size ≤ lo ∨ hi ≤ lo) :
    Own (w.alloc (.cells cur e (lo, hi))) w.heap.size e size (some ⟨w.heap.size, 0, none⟩) n c xs :=
  ⟨hl, hn, hm, .inr ⟨w.heap.size, cur, lo, hi, rfl, Nat.le_refl _, heap_alloc_new w _, hf, hs, ht⟩⟩
/-- A store into a row of one-cell elements. -/
theorem Own.store (h : Own w B e 1 A n c xs) {i : Nat} (hi : i < n) (u : Value) : ∃ g, A = some ⟨g, 0, none⟩ ∧ B ≤ g ∧ g < w.heap.size ∧ ownB A c = some g ∧ (∃ v, w.cell? ⟨g, i, none⟩ = some v) ∧ w.frozen? ⟨g, i, none⟩ = false ∧
    Own (w.setCell ⟨g, i, none⟩ u) B e 1 A n c (xs.set i u) := by
  obtain ⟨hl, hn, hm, h | ⟨g, cur, lo, hi', rfl, hb, hg, hf, hs, ht⟩⟩ := h
  · omega
  · have hi2 : i < cur.size := by omega
    refine ⟨g, rfl, hb, (Array.getElem?_eq_some_iff.1 hg).1, ownB_some (by omega) g 0, ⟨cur[i], by rw [cell_of_row w g _ cur e (lo, hi') hg]; exact Array.getElem?_eq_getElem hi2⟩, ?_, ?_⟩
    · simp only [World.frozen?, hg]
      rw [Bool.and_eq_false_iff, decide_eq_false_iff_not, decide_eq_false_iff_not]
      omega
    · refine ⟨by simpa using hl, hn, hm, .inr ⟨g, cur.setIfInBounds i u, lo, hi', rfl, hb, ?_, by simpa using hf, by simpa using hs, ?_⟩⟩
      · rw [setCell_eq_setRow w g i cur e (lo, hi') u hg]
        exact setRow_heap w g cur _ e _ hg
      · rw [← ht]
        simp only [Array.toList_setIfInBounds]
        apply List.ext_getElem?
        intro j
        simp only [List.getElem?_take, List.getElem?_set, List.length_take, Array.length_toList]
        by_cases hij : i = j
        · subst hij
          rw [if_pos (by omega), if_pos rfl, if_pos rfl, if_pos (by omega), if_pos (by omega)]
        · rw [if_neg hij, if_neg hij]
end

/-! ## storing a run of cells into a row whose marks are elsewhere -/
theorem run_storeCells_row (P : Program) (g o : Nat) (t : TypeId) (lo hi : Nat) : ∀ (vs : List Value) (i : Nat) (cur : Array Value) (w : World), w.heap[g]? = some (.cells cur t (lo, hi)) → (cur.size ≤ lo ∨ hi ≤ lo) → o + i + vs.length ≤ cur.size → (∀ v ∈ vs, v.oneCell' = true) →
    (storeCells ⟨g, o, none⟩ vs i).run P w = .ok () (w.setRow g (cur.toList.take (o + i) ++ vs ++ cur.toList.drop (o + i + vs.length)).toArray)
  | [], i, cur, w, hg, _, _, _ => by
    simp only [storeCells, List.append_nil, List.length_nil, Nat.add_zero, List.take_append_drop, Array.toArray_toList]
    rw [setRow_self w g cur t (lo, hi) hg]
    rfl
  | v :: rest, i, cur, w, hg, hf, hl, h1 => by
    have hi2 : o + i < cur.size := by simp at hl; omega
    have hcell : w.cell? ⟨g, o + i, none⟩ = some cur[o + i] := by simp [World.cell?, hg, hi2]
    have hfro : w.frozen? ⟨g, o + i, none⟩ = false := by
      simp only [World.frozen?, hg]
      rw [Bool.and_eq_false_iff, decide_eq_false_iff_not, decide_eq_false_iff_not]
      omega
    have hst : (store ((⟨g, o, none⟩ : Addr).add i) v).run P w = .ok () (w.setRow g (cur.setIfInBounds (o + i) v)) := by
      rw [addr_add, run_store P w _ v _ (h1 v (by simp)), hcell]
      simp [hfro, setCell_eq_setRow w g (o + i) cur t (lo, hi) v hg]
    have ih := run_storeCells_row P g o t lo hi rest (i + 1) (cur.setIfInBounds (o + i) v) (w.setRow g (cur.setIfInBounds (o + i) v)) (setRow_heap w g cur _ t _ hg) (by simpa using hf) (by simp at hl ⊢; omega) (fun x hx => h1 x (by simp [hx]))
    simp only [storeCells, Sem.run_bind, hst, Result.andThen_ok, ih, setRow_setRow]
    congr 3
    have e := list_seg_step cur.toList (o + i) v rest (by simp at hl ⊢; omega)
    simpa [Array.toList_setIfInBounds, Nat.add_assoc] using e

/-! ## append -/
/-- What is appended: a slice or a string whose cells are these. -/
def Src (P : Program) (w : World) (tx : TypeId) (x : Value) (size m : Nat) (news : List Value) : Prop :=
  ((∃ e, P.underlying tx = some (.slice e)) ∨ P.underlying tx = some .string) ∧ (∀ w1 : World, (Builtin.lenOf x).run P w1 = .ok m w1) ∧ news.length = m * size ∧
  (∀ w1 : World, w1.heap = w.heap → (Builtin.firstCells size m x).run P w1 = .ok news.toArray w1) ∧ (∀ u ∈ news, u.oneCell' = true)

theorem Src.slice {P : Program} {w : World} {tx e : TypeId} {A : Option Addr} {size m c : Nat} {news : List Value} (ht : P.underlying tx = some (.slice e)) (hr : Row w A news) (hl : news.length = m * size) (h1 : ∀ u ∈ news, u.oneCell' = true) :
    Src P w tx (.slice A m c) size m news :=
  ⟨.inl ⟨_, ht⟩, fun _ => rfl, hl, fun w1 hw => (hr.cells_ (w' := w1) (fun p v hp => by simpa [World.cell?, hw] using hp)).firstCells size m m c hl, h1⟩

theorem Src.string {P : Program} {w : World} {tx : TypeId} {s : ByteArray} (ht : P.underlying tx = some .string) :
    Src P w tx (.string s) 1 s.size (s.data.toList.map fun b => Value.int .u8 (b.toNat : Int)) := by
  refine ⟨.inr ht, fun _ => rfl, by simp, fun w1 _ => ?_, ?_⟩
  · simp only [Builtin.firstCells, Sem.run_pure]
    congr 1
    apply Array.ext'
    simp
  · intro u hu
    obtain ⟨b, _, rfl⟩ := List.mem_map.1 hu
    rfl

theorem Src.new {P : Program} {w : World} {tx e : TypeId} {cs : Array Value} {size m c : Nat} (ht : P.underlying tx = some (.slice e)) (hl : cs.size = m * size) (h1 : ∀ u ∈ cs.toList, u.oneCell' = true) :
    Src P (w.alloc (.cells cs e)) tx (.slice (some ⟨w.heap.size, 0, none⟩) m c) size m cs.toList :=
  Src.slice ht (.inr ⟨_, 0, rfl, fun j u hu => by rw [World.cell?_alloc_new]; simpa using hu⟩) (by simpa using hl) h1

theorem run_app {P : Program} (w : World) (B : Nat) (t tx ty e : TypeId) (i : TypeInfo) (z : Value) (size bytes : Nat) (ht : P.underlying t = some (.slice e)) (hi : P.info? e = some i) (hz : i.zero = some z)
    (hsize : i.size = size) (hby : i.bytes = bytes) (hzs : z.cells.size = size)
    (A : Option Addr) (n c : Nat) (xs : List Value) (hown : Own w B e size A n c xs)
    (x : Value) (m : Nat) (news : List Value) (hsrc : Src P w tx x size m news)
    (h63 : n + m ≤ maxLen) (hbytes : (n + m) * bytes ≤ 140737488355328) (hbase : B ≤ w.heap.size) :
    ∃ A' c' w', (Builtin.append_ #[t, tx] ty #[.slice A n c, x]).run P w = .ok (.slice A' (n + m) c') w' ∧ Own w' B e size A' (n + m) c' (xs ++ news) ∧ w.grownBy w' (ownB A c) ∧
      (ownB A' c' = ownB A c ∨ ownB A' c' = some w.heap.size) := by
  subst hsize
  subst hby
  obtain ⟨hd, hlen, hnl, hfirst, h1⟩ := hsrc
  have hlen2 : (xs ++ news).length = (n + m) * i.size := by rw [List.length_append, hown.1, hnl, Nat.add_mul]
  by_cases hroom : n + m ≤ c
  · rcases hown.2.2.2 with hc0 | ⟨g, cur, lo, hi', rfl, hbg, hg, hf, hcs, htake⟩
    · -- nothing is appended to a slice without room
      have hn0 : n = 0 := by omega
      have hm0 : m = 0 := by omega
      subst hn0 hm0 hc0
      have hnn : news = [] := List.eq_nil_of_length_eq_zero (by simpa using hnl)
      have hxx : xs = [] := List.eq_nil_of_length_eq_zero (by simpa using hown.1)
      subst hnn hxx
      refine ⟨A, 0, w, ?_, by simpa using Own.nil w B e i.size A, World.grownBy.refl w _, .inl rfl⟩
      have hfw := hfirst w rfl
      cases A with
      | none => rcases hd with ⟨_, hd⟩ | hd <;> simp [Builtin.append_, run_underlying ht, run_underlying hd, sizeOf, typeInfo, hi, hlen, hfw]
      | some a => rcases hd with ⟨_, hd⟩ | hd <;> simp [Builtin.append_, run_underlying ht, run_underlying hd, sizeOf, typeInfo, hi, hlen, hfw, storeCells]
    · have hfit : n * i.size + news.length ≤ cur.size := by rw [hnl, hcs, ← Nat.add_mul]; exact Nat.mul_le_mul_right _ hroom
      have hst := run_storeCells_row P g (n * i.size) e lo hi' news 0 cur w hg hf (by simpa using hfit) h1
      simp only [Nat.add_zero] at hst
      have hfw := hfirst w rfl
      by_cases hc : c = 0
      · subst hc
        have hn0 : n = 0 := by omega
        have hm0 : m = 0 := by omega
        subst hn0 hm0
        have hnn : news = [] := List.eq_nil_of_length_eq_zero (by simpa using hnl)
        have hxx : xs = [] := List.eq_nil_of_length_eq_zero (by simpa using hown.1)
        subst hnn hxx
        refine ⟨_, 0, w, ?_, by simpa using Own.nil w B e i.size _, World.grownBy.refl w _, .inl rfl⟩
        rcases hd with ⟨_, hd⟩ | hd <;> simp [Builtin.append_, run_underlying ht, run_underlying hd, sizeOf, typeInfo, hi, hlen, hfw, storeCells]
      refine ⟨some ⟨g, 0, none⟩, c, w.setRow g (cur.toList.take (n * i.size) ++ news ++ cur.toList.drop (n * i.size + news.length)).toArray, ?_, ?_, ?_, .inl rfl⟩
      · rcases hd with ⟨_, hd⟩ | hd <;> simp [Builtin.append_, run_underlying ht, run_underlying hd, sizeOf, typeInfo, hi, hlen, hroom, hfw, addr_add, hst]
      · have hsz : (cur.toList.take (n * i.size) ++ news ++ cur.toList.drop (n * i.size + news.length)).length = cur.size := by
          simp only [List.length_append, List.length_take, List.length_drop, Array.length_toList]
          omega
        refine ⟨hlen2, hroom, hown.2.2.1, .inr ⟨g, _, lo, hi', rfl, hbg, setRow_heap w g cur _ e _ hg, ?_, ?_, ?_⟩⟩
        · simp only [List.size_toArray, hsz]; exact hf
        · simp only [List.size_toArray, hsz]; exact hcs
        · simp only []
          rw [htake, ← hlen2]
          exact List.take_left
      · rw [ownB_some (by omega)]
        exact ⟨rfl, rfl, rfl, by simp, fun k _ hk => setRow_other w g k _ (fun e => hk (by rw [e]))⟩
  · have hm63 : ¬ (9223372036854775807 < ((n : Int) + (m : Int))) := by simp only [maxLen] at h63; omega
    have h48 : ¬ (281474976710656 < Builtin.nextslicecap (n + m) c * i.bytes) := by
      have := growslice_fits (need := n + m) (old := c) (bytes := i.bytes) (by omega) hbytes
      omega
    have hfo := (hown.row.drew).firstCells (P := P) i.size n n c hown.1
    have hfn := hfirst w.drew rfl
    have hge := grownCap_ge w (n + m) c e
    have hcm := grownCap_le_maxLen w (n + m) c e h63
    refine ⟨some ⟨w.heap.size, 0, none⟩, grownCap w (n + m) c e, w.drew.alloc (.cells (xs.toArray ++ news.toArray ++ Builtin.zeroCells z.cells (grownCap w (n + m) c e - (n + m))) e), ?_, ?_, ?_, ?_⟩
    · rcases hd with ⟨_, hd⟩ | hd <;> simp [Builtin.append_, run_underlying ht, run_underlying hd, sizeOf, typeInfo, zeroValue, hi, hz, hlen, hroom, hm63, h48, Question.forced, hfo, hfn, newRow, grownCap]
      all_goals
        congr 2
        apply Array.ext'
        simp [List.append_assoc]
    · refine (Own.fresh w.drew _ e i.size (n + m) (grownCap w (n + m) c e) 0 0 (xs ++ news) hcm hge ?_ hlen2 ?_ (.inr (Nat.le_refl _))).less hbase
      · simp only [Array.size_append, List.size_toArray, size_zeroCells, hzs, hown.1, hnl, ← Nat.add_mul]
        congr 1
        omega
      · simp only [Array.toList_append, List.append_assoc]
        rw [← List.append_assoc, ← hlen2]
        exact List.take_left
    · exact ⟨rfl, rfl, rfl, by simp, fun k hk _ => Below.heap_alloc w.drew _ k hk⟩
    · right
      exact ownB_some (by omega) _ _

theorem wpList_app {P : Program} (w : World) {ops : Array Oper} {rest : List Oper} {o : Oper} {a : Act} {Q : Exit → Act → World → Prop} (hgd : o.guard = none) (s x : Operand) (t tx : TypeId)
    (ho : o.op = .call { callee := .builtin .append, args := #[s, x], argTypes := #[t, tx] })
    (B : Nat) (e : TypeId) (i : TypeInfo) (z : Value) (size bytes : Nat) (ht : P.underlying t = some (.slice e)) (hi : P.info? e = some i) (hz : i.zero = some z)
    (hsize : i.size = size) (hby : i.bytes = bytes) (hzs : z.cells.size = size)
    (A : Option Addr) (n c : Nat) (xs : List Value) (hs : a.eval s = .slice A n c) (hown : Own w B e size A n c xs)
    (v : Value) (m : Nat) (news : List Value) (hx : a.eval x = v) (hsrc : Src P w tx v size m news)
    (h63 : n + m ≤ maxLen) (hbytes : (n + m) * bytes ≤ 140737488355328) (hbase : B ≤ w.heap.size)
    (h : ∀ A' c' w', Own w' B e size A' (n + m) c' (xs ++ news) → w.grownBy w' (ownB A c) → (ownB A' c' = ownB A c ∨ ownB A' c' = some w.heap.size) → wpList P ops Q rest (a.put o.dst (.slice A' (n + m) c')) w') :
    wpList P ops Q (o :: rest) a w :=
  wpList_plain hgd fun K hK => by
    obtain ⟨A', c', w', hr, h2, h3, h4⟩ := run_app (P := P) w B t tx o.type e i z size bytes ht hi hz hsize hby hzs A n c xs hown v m news hsrc h63 hbytes hbase
    unfold Oper.wp execOp
    simp only [ho, resolve, invoke, builtin, Sem.run_bind, Sem.run_pure, Result.andThen_ok, List.map_toArray, List.map_cons, List.map_nil, hs, hx, hr]
    exact hK _ _ (h A' c' w' h2 h3 h4)

theorem step_app {P : Program} (w : World) {ops : Array Oper} {o : Oper} {a : Act} {K : Act → World → Prop} {Q : Exit → Act → World → Prop} {E : Prop} (hgd : o.guard = none) (s x : Operand) (t tx : TypeId)
    (ho : o.op = .call { callee := .builtin .append, args := #[s, x], argTypes := #[t, tx] })
    (B : Nat) (e : TypeId) (i : TypeInfo) (z : Value) (size bytes : Nat) (ht : P.underlying t = some (.slice e)) (hi : P.info? e = some i) (hz : i.zero = some z)
    (hsize : i.size = size) (hby : i.bytes = bytes) (hzs : z.cells.size = size)
    (A : Option Addr) (n c : Nat) (xs : List Value) (hs : a.eval s = .slice A n c) (hown : Own w B e size A n c xs)
    (v : Value) (m : Nat) (news : List Value) (hx : a.eval x = v) (hsrc : Src P w tx v size m news)
    (h63 : n + m ≤ maxLen) (hbytes : (n + m) * bytes ≤ 140737488355328) (hbase : B ≤ w.heap.size)
    (h : ∀ A' c' w', Own w' B e size A' (n + m) c' (xs ++ news) → w.grownBy w' (ownB A c) → (ownB A' c' = ownB A c ∨ ownB A' c' = some w.heap.size) → K (a.put o.dst (.slice A' (n + m) c')) w') :
    if Region.wanted o (yielded ops a.tmps) = true then Oper.wp P o a w K Q else E := by
  have hw : Region.wanted o (yielded ops a.tmps) = true := by simp [Region.wanted, hgd]
  rw [if_pos hw]
  obtain ⟨A', c', w', hr, h2, h3, h4⟩ := run_app (P := P) w B t tx o.type e i z size bytes ht hi hz hsize hby hzs A n c xs hown v m news hsrc h63 hbytes hbase
  unfold Oper.wp execOp
  simp only [ho, resolve, invoke, builtin, Sem.run_bind, Sem.run_pure, Result.andThen_ok, List.map_toArray, List.map_cons, List.map_nil, hs, hx, hr]
  exact h A' c' w' h2 h3 h4

end Go.Proofs.Ytbljacafmkdlmaa
