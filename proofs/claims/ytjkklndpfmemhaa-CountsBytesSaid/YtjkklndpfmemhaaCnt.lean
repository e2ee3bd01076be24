/- Counts in memory: what of the memory they are; how they stand behind a change. No condition. -/
import Derived.Test.YtjkklndpfmemhaaChecked
import Derived.Test.YtjkklndpfmemhaaBlk
import Derived.Test.YtjkklndpfmemhaaOct2
import Derived.Test.YtjkklndpfmemhaaCntP
namespace Go.Proofs.Ytjkklndpfmemhaa
open Go.RowKit

/-- The blocks that counts are. -/
def Foot (g : Nat) (A : Option Addr) (c : Nat) : Nat → Prop := fun k => k = g ∨ ownB A c = some k

structure Cnt (w : World) (B g : Nat) (A : Option Addr) (c : Nat) (l : List Int) : Prop where
  blk : Blk w g 57 #[.slice A l.length c]
  own : Own w B 3 1 A l.length c (iv l)
  low : B ≤ g

/-- Behind a change: the counts' own blocks alone, and new ones. -/
structure Turned (w w' : World) (g : Nat) (A : Option Addr) (c : Nat) (A' : Option Addr) (c' : Nat) : Prop where
  only : Only w w' (Foot g A c)
  grows : ∀ k, Foot g A' c' k → Foot g A c k ∨ w.heap.size ≤ k

section
variable {w w' w1 w2 : World} {B g c c' c2 : Nat} {A A' A2 : Option Addr} {l : List Int} {F : Nat → Prop} {L : Option Addr} {xs : List Value}
theorem Cnt.foot (h : Cnt w B g A c l) : ∀ k, Foot g A c k → B ≤ k ∧ k < w.heap.size := fun k hk => by
  rcases hk with rfl | hk
  · exact ⟨h.low, h.blk.lt⟩
  · exact h.own.lt k hk
theorem Cnt.apart (h : Cnt w B g A c l) : ∀ k, ownB A c = some k → k ≠ g := h.own.blk_ne h.blk (by decide)
theorem Cnt.only (h : Cnt w B g A c l) (hb : Only w w' F) (hF : ∀ k, Foot g A c k → ¬ F k) : Cnt w' B g A c l :=
  ⟨h.blk.only hb (hF g (.inl rfl)), h.own.only hb (fun k hk => hF k (.inr hk)), h.low⟩
theorem Cnt.below (h : Cnt w B g A c l) (hb : Below w.heap.size w w') : Cnt w' B g A c l := ⟨h.blk.belowAll hb, h.own.below hb, h.low⟩
theorem Cnt.alloc (h : Cnt w B g A c l) (o : Obj) : Cnt (w.alloc o) B g A c l := ⟨h.blk.alloc o, h.own.alloc o, h.low⟩
theorem Cnt.drew (h : Cnt w B g A c l) : Cnt w.drew B g A c l := ⟨h.blk.drew, h.own.drew, h.low⟩
theorem Turned.refl (w : World) (g : Nat) (A : Option Addr) (c : Nat) : Turned w w g A c A c := ⟨Only.refl _ _, fun _ hk => .inl hk⟩
theorem Turned.trans (h : Turned w w1 g A c A' c') (k : Turned w1 w2 g A' c' A2 c2) : Turned w w2 g A c A2 c2 :=
  ⟨h.only.trans k.only (fun i hi hf => by
    rcases h.grows i hf with hf | hf
    · exact hf
    · omega), fun i hi => by
    rcases k.grows i hi with hf | hf
    · exact h.grows i hf
    · exact .inr (Nat.le_trans h.only.size hf)⟩
theorem Turned.below (h : Turned w w1 g A c A' c') (hb : Below w1.heap.size w1 w2) : Turned w w2 g A c A' c' :=
  ⟨h.only.trans (Only.of_below hb (fun _ => False)) (fun _ _ hf => hf.elim), h.grows⟩
theorem Turned.after (hb : Below w.heap.size w w1) (h : Turned w1 w2 g A c A' c') : Turned w w2 g A c A' c' :=
  ⟨(Only.of_below hb (Foot g A c)).trans h.only (fun _ _ hf => hf), fun k hk => (h.grows k hk).imp id (fun h1 => Nat.le_trans hb.size h1)⟩
/-- What is below all of the counts stands. -/
theorem Turned.belowB (h : Turned w w' g A c A' c') (hc : Cnt w B g A c l) (hB : B ≤ w.heap.size) : Below B w w' := h.only.belowB (fun k hk => (hc.foot k hk).1) hB
theorem Cnt.size (h : Cnt w B g A c l) : B ≤ w.heap.size := by have := h.blk.lt; have := h.low; omega

/-- A row that is none of the counts' blocks. -/
def Away (w : World) (L : Option Addr) (xs : List Value) (F : Nat → Prop) : Prop := Row w L xs ∧ (xs ≠ [] → ∀ a, L = some a → ¬ F a.block)
theorem Row.lt (h : Row w L xs) (hx : xs ≠ []) : ∀ a, L = some a → a.block < w.heap.size := by
  intro a ha
  obtain ⟨g, o, hA, hg, _⟩ := h.at_ (List.length_pos_iff.2 hx)
  rw [ha] at hA
  injection hA with hA
  subst hA
  exact hg
theorem Away.row (h : Away w L xs F) : Row w L xs := h.1
theorem Away.only (h : Away w L xs F) (hb : Only w w' F) : Row w' L xs := by
  by_cases hx : xs = []
  · exact .inl hx
  · exact h.1.only hb (h.2 hx)
theorem Away.turned (h : Away w L xs (Foot g A c)) (ht : Turned w w' g A c A' c') : Away w' L xs (Foot g A' c') :=
  ⟨h.only ht.only, fun hx a ha hf => by
    rcases ht.grows _ hf with hf | hf
    · exact h.2 hx a ha hf
    · have := h.1.lt hx a ha
      omega⟩
theorem Away.below (h : Away w L xs F) (hb : Below w.heap.size w w') : Away w' L xs F := ⟨h.1.below hb, h.2⟩
/-- A row laid behind the counts. -/
theorem Away.new (h : Row w' L xs) (hc : Cnt w B g A c l) (hL : xs ≠ [] → ∀ a, L = some a → w.heap.size ≤ a.block) : Away w' L xs (Foot g A c) :=
  ⟨h, fun hx a ha hf => by
    have := hL hx a ha
    have := (hc.foot _ hf).2
    omega⟩
/-- An argument's row, counts laid behind it. -/
theorem Away.arg (h : Row w L xs) (h' : Row w' L xs) (hc : Cnt w' B g A c l) (hB : w.heap.size ≤ B) : Away w' L xs (Foot g A c) :=
  ⟨h', fun hx a ha hf => by
    have := h.lt hx a ha
    have := (hc.foot _ hf).1
    omega⟩
end
end Go.Proofs.Ytjkklndpfmemhaa
