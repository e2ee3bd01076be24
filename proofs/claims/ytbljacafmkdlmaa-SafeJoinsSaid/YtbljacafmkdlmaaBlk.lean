/- A block that is known whole; slices of byte slices. Over any program. No condition. -/
import Derived.Test.YtbljacafmkdlmaaStr
namespace Go.Proofs.Ytbljacafmkdlmaa
open Go.RowKit

/-! ## a block that is known whole -/
def Blk (w : World) (g : Nat) (t : TypeId) (cs : Array Value) : Prop := w.heap[g]? = some (.cells cs t (0, 0))
section
variable {w w' : World} {g : Nat} {t : TypeId} {cs : Array Value}
theorem Blk.lt (h : Blk w g t cs) : g < w.heap.size := (Array.getElem?_eq_some_iff.1 h).1
theorem Blk.cell (h : Blk w g t cs) (i : Nat) : w.cell? ⟨g, i, none⟩ = cs[i]? := cell_of_row w g i cs t (0, 0) h
theorem Blk.frozen (h : Blk w g t cs) (i : Nat) : w.frozen? ⟨g, i, none⟩ = false := frozen_of_row w g i cs t h
theorem Blk.new (w : World) (t : TypeId) (cs : Array Value) : Blk (w.alloc (.cells cs t)) w.heap.size t cs := heap_alloc_new w _
theorem Blk.drew (h : Blk w g t cs) : Blk w.drew g t cs := h
theorem Blk.drewN (h : Blk w g t cs) (n : Nat) : Blk (w.drewN n) g t cs := h
theorem Blk.alloc (h : Blk w g t cs) (o : Obj) : Blk (w.alloc o) g t cs := (Below.heap_alloc w o g h.lt).trans h
theorem Blk.set_ (h : Blk w g t cs) (i : Nat) (u : Value) : Blk (w.setCell ⟨g, i, none⟩ u) g t (cs.setIfInBounds i u) := heap_setCell_same w g i cs t u h
theorem Blk.far (h : Blk w g t cs) {p : Addr} (hp : g ≠ p.block) (u : Value) : Blk (w.setCell p u) g t cs := (Below.heap_setCell w p u g hp).trans h
theorem Blk.below {B : Nat} (h : Blk w g t cs) (hb : Below B w w') (hg : g < B) : Blk w' g t cs := (hb.block g hg).trans h
theorem Blk.belowAll (h : Blk w g t cs) (hb : Below w.heap.size w w') : Blk w' g t cs := (hb.block g h.lt).trans h
theorem Blk.only {F : Nat → Prop} (h : Blk w g t cs) (hb : Only w w' F) (hg : ¬ F g) : Blk w' g t cs := (hb.block g h.lt hg).trans h
theorem Blk.grown {row : Option Nat} (h : Blk w g t cs) (hb : w.grownBy w' row) (hg : row ≠ some g) : Blk w' g t cs := (hb.block g h.lt fun e => hg e.symm).trans h
theorem Blk.ne_ {g' : Nat} {t' : TypeId} {cs' : Array Value} (h : Blk w g t cs) (h' : Blk w g' t' cs') (hne : t ≠ t') : g ≠ g' := by
  rintro rfl
  unfold Blk at h h'
  rw [h] at h'
  injection h' with h'
  injection h' with _ ht
  exact hne ht
theorem Own.blk_ne {B : Nat} {e : TypeId} {size : Nat} {A : Option Addr} {n c : Nat} {xs : List Value} (h : Own w B e size A n c xs) (hb : Blk w g t cs) (hne : e ≠ t) : ∀ k, ownB A c = some k → k ≠ g := by
  intro k hk hkg
  subst hkg
  obtain ⟨_, _, _, h | ⟨g', cur, lo, hi, rfl, _, hh, _⟩⟩ := h
  · subst h; simp [ownB] at hk
  · by_cases hc : c = 0
    · subst hc; simp [ownB] at hk
    · rw [ownB_some (by omega)] at hk
      injection hk with hk
      subst hk
      unfold Blk at hb
      rw [hh] at hb
      injection hb with hb
      injection hb with _ ht
      exact hne ht
end

theorem Own.at_ {w : World} {B : Nat} {e : TypeId} {A : Option Addr} {n c : Nat} {xs : List Value} (h : Own w B e 1 A n c xs) {i : Nat} (hi : i < n) {v : Value} (hv : xs[i]? = some v) :
    ∃ g, A = some ⟨g, 0, none⟩ ∧ B ≤ g ∧ g < w.heap.size ∧ ownB A c = some g ∧ w.cell? ⟨g, i, none⟩ = some v ∧ w.frozen? ⟨g, i, none⟩ = false ∧ ∀ u, Own (w.setCell ⟨g, i, none⟩ u) B e 1 A n c (xs.set i u) := by
  obtain ⟨g, rfl, h1, h2, h3, _, h4, _⟩ := h.store hi v
  refine ⟨g, rfl, h1, h2, h3, ?_, h4, fun u => ?_⟩
  · rcases h.row with h0 | ⟨g', o', e1, hc⟩
    · rw [h0] at hv; cases hv
    · injection e1 with e1
      injection e1 with e1 e2
      subst e1 e2
      have := hc i _ hv
      rwa [Nat.zero_add] at this
  · obtain ⟨g2, e2, _, _, _, _, _, h5⟩ := h.store hi u
    injection e2 with e2
    injection e2 with e2
    subst e2
    exact h5

/-! ## slices of byte slices -/
structure Piece where
  A : Option Addr
  c : Nat
  l : List UInt8
def Piece.val (p : Piece) : Value := .slice p.A p.l.length p.c
def pv (ps : List Piece) : List Value := ps.map Piece.val
def Pieces (w : World) (ps : List Piece) : Prop := ∀ p, p ∈ ps → Row w p.A (bv p.l)
theorem pv_length (ps : List Piece) : (pv ps).length = ps.length := by simp [pv]
theorem pv_at {ps : List Piece} {k : Nat} (h : k < ps.length) : (pv ps)[k]? = some (.slice ps[k].A ps[k].l.length ps[k].c) := by simp [pv, h, Piece.val]
theorem pv_one (ps : List Piece) : ∀ u ∈ pv ps, u.oneCell' = true := by
  intro u hu
  obtain ⟨_, _, rfl⟩ := List.mem_map.1 hu
  rfl
theorem Pieces.below {w w' : World} {ps : List Piece} (h : Pieces w ps) (hb : Below w.heap.size w w') : Pieces w' ps := fun p hp => (h p hp).below hb
end Go.Proofs.Ytbljacafmkdlmaa
