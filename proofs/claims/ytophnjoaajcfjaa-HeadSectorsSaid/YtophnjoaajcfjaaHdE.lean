/- What head.Decode keeps while it reads: its reader, the variable that holds it, the result's cell, the head. No condition. -/
import Derived.Test.YtophnjoaajcfjaaHd
namespace Go.Proofs.Ytophnjoaajcfjaa
open Go.RowKit

/-- The reader and its variable, the result's cell. -/
def DS (w0 w : World) (T gr Z : Nat) (l : List UInt8) (e : Int) : Prop :=
  Blk w T 58 #[.pointer (some ⟨gr, 0, none⟩)] ∧ Rd w gr l e ∧ Blk w Z 30 #[.int .i64 0, .int .i64 0, .string ⟨#[]⟩, .int .i64 0, .bool false, .slice none 0 0] ∧ Below w0.heap.size w0 w ∧ w0.heap.size ≤ gr ∧ w0.heap.size ≤ Z
/-- The head that is filled. -/
def HB (w0 w : World) (Z g : Nat) (cs : Array Value) : Prop := Blk w g 30 cs ∧ g ≠ Z ∧ w0.heap.size ≤ g

section
variable {w0 w w' : World} {T gr Z g : Nat} {l l' : List UInt8} {e e' : Int} {cs : Array Value}
theorem Rd.ne_ {t : TypeId} (h : Rd w gr l e) (hb : Blk w g t cs) (ht : t ≠ 82) : ¬ g = gr := by
  obtain ⟨A, n, c, h1, _⟩ := h
  exact hb.ne_ h1 ht
theorem DS.call (h : DS w0 w T gr Z l e) (hr : Rd w' gr l' e') (ho : Only w w' (· = gr)) : DS w0 w' T gr Z l' e' :=
  ⟨h.1.only ho (h.2.1.ne_ h.1 (by decide)), hr, h.2.2.1.only ho (h.2.1.ne_ h.2.2.1 (by decide)), h.2.2.2.1.trans (ho.belowB (fun k hk => by have : k = gr := hk; have := h.2.2.2.2.1; omega) h.2.2.2.1.size), h.2.2.2.2⟩
theorem DS.alloc (h : DS w0 w T gr Z l e) (o : Obj) : DS w0 (w.alloc o) T gr Z l e :=
  ⟨h.1.alloc o, h.2.1.alloc o, h.2.2.1.alloc o, h.2.2.2.1.alloc h.2.2.2.1.size o, h.2.2.2.2⟩
theorem DS.drew (h : DS w0 w T gr Z l e) : DS w0 w.drew T gr Z l e := ⟨h.1, h.2.1, h.2.2.1, h.2.2.2.1.drew, h.2.2.2.2⟩
theorem DS.grown {row : Option Nat} (h : DS w0 w T gr Z l e) (hg : w.grownBy w' row) (hr : ∀ k, row = some k → w0.heap.size ≤ k ∧ ∃ cur lh, w.heap[k]? = some (.cells cur 3 lh)) : DS w0 w' T gr Z l e := by
  have hne : ∀ {k : Nat} {t : TypeId} {c : Array Value}, Blk w k t c → t ≠ 3 → row ≠ some k := fun {k t c} hb ht hk => by
    obtain ⟨_, cur, lh, hh⟩ := hr k hk
    unfold Blk at hb
    rw [hh] at hb
    injection hb with hb
    injection hb with _ hb
    exact ht hb.symm
  have hrd := h.2.1
  obtain ⟨A, n, c, hq, _⟩ := h.2.1
  exact ⟨h.1.grown hg (hne h.1 (by decide)), hrd.grown hg (hne hq (by decide)) (fun k hk => by
    obtain ⟨_, cur, lh, hh⟩ := hr k hk
    exact ⟨cur, _, lh, hh, by decide⟩), h.2.2.1.grown hg (hne h.2.2.1 (by decide)), h.2.2.2.1.grown hg h.2.2.2.1.size (fun k hk => (hr k hk).1), h.2.2.2.2⟩
theorem DS.put (h : DS w0 w T gr Z l e) (hb : HB w0 w Z g cs) (ho : Only w w' (· = g)) : DS w0 w' T gr Z l e := by
  have h1 : ¬ T = g := h.1.ne_ hb.1 (by decide)
  have h2 : ¬ gr = g := fun he => h.2.1.ne_ hb.1 (by decide) he.symm
  exact ⟨h.1.only ho h1, h.2.1.away ho h2 (fun k hk => by
      have : k = g := hk
      subst this
      exact ⟨cs, _, _, hb.1, by decide⟩), h.2.2.1.only ho (fun he => hb.2.1 he.symm),
    h.2.2.2.1.trans (ho.belowB (fun k hk => by have : k = g := hk; have := hb.2.2; omega) h.2.2.2.1.size), h.2.2.2.2⟩
theorem HB.new (h : DS w0 w T gr Z l e) : HB w0 (w.alloc (.cells cs 30)) Z w.heap.size cs :=
  ⟨Blk.new w _ cs, fun he => by have := h.2.2.1.lt; omega, h.2.2.2.1.size⟩
theorem HB.call (h : HB w0 w Z g cs) (hd : DS w0 w T gr Z l e) (ho : Only w w' (· = gr)) : HB w0 w' Z g cs := ⟨h.1.only ho (hd.2.1.ne_ h.1 (by decide)), h.2⟩
theorem HB.alloc (h : HB w0 w Z g cs) (o : Obj) : HB w0 (w.alloc o) Z g cs := ⟨h.1.alloc o, h.2⟩
theorem HB.drew (h : HB w0 w Z g cs) : HB w0 w.drew Z g cs := h
theorem HB.grown {row : Option Nat} (h : HB w0 w Z g cs) (hg : w.grownBy w' row) (hr : ∀ k, row = some k → ∃ cur lh, w.heap[k]? = some (.cells cur 3 lh)) : HB w0 w' Z g cs :=
  ⟨h.1.grown hg (fun hk => by
    obtain ⟨cur, lh, hh⟩ := hr g hk
    have hb := h.1
    unfold Blk at hb
    rw [hh] at hb
    injection hb with hb
    injection hb with _ hb
    exact absurd hb (by decide)), h.2⟩
theorem HB.set (h : HB w0 w Z g cs) (i : Nat) (u : Value) : HB w0 (w.setCell ⟨g, i, none⟩ u) Z g (cs.setIfInBounds i u) := ⟨h.1.set_ i u, h.2⟩
theorem only_set (w : World) (g i : Nat) (u : Value) : Only w (w.setCell ⟨g, i, none⟩ u) (· = g) := Only.setCell (F := (· = g)) (Only.refl _ _) (p := ⟨g, i, none⟩) (.inl rfl) u
theorem DS.set (h : DS w0 w T gr Z l e) (hb : HB w0 w Z g cs) (i : Nat) (u : Value) : DS w0 (w.setCell ⟨g, i, none⟩ u) T gr Z l e := h.put hb (only_set w g i u)
theorem DS.put6 {a b c d f k : Value} (h : DS w0 w T gr Z l e) (hb : HB w0 w Z g #[a, b, c, d, f, k]) (a' b' c' d' f' k' : Value) :
    DS w0 ((((((w.setCell ⟨g, 0, none⟩ a').setCell ⟨g, 1, none⟩ b').setCell ⟨g, 2, none⟩ c').setCell ⟨g, 3, none⟩ d').setCell ⟨g, 4, none⟩ f').setCell ⟨g, 5, none⟩ k') T gr Z l e ∧
    HB w0 ((((((w.setCell ⟨g, 0, none⟩ a').setCell ⟨g, 1, none⟩ b').setCell ⟨g, 2, none⟩ c').setCell ⟨g, 3, none⟩ d').setCell ⟨g, 4, none⟩ f').setCell ⟨g, 5, none⟩ k') Z g #[a', b', c', d', f', k'] := by
  have h1 := h.set hb 0 a'
  have b1 := hb.set 0 a'
  have h2 := h1.set b1 1 b'
  have b2 := b1.set 1 b'
  have h3 := h2.set b2 2 c'
  have b3 := b2.set 2 c'
  have h4 := h3.set b3 3 d'
  have b4 := b3.set 3 d'
  have h5 := h4.set b4 4 f'
  have b5 := b4.set 4 f'
  exact ⟨h5.set b5 5 k', b5.set 5 k'⟩
end

theorem only_row (w : World) (g : Nat) (cs' : Array Value) : Only w (w.setRow g cs') (· = g) :=
  ⟨rfl, rfl, rfl, by simp, fun k _ hk => setRow_other w g k _ hk⟩
theorem Blk.row {w : World} {g : Nat} {t : TypeId} {cs : Array Value} (h : Blk w g t cs) (cs' : Array Value) : Blk (w.setRow g cs') g t cs' := setRow_heap w g cs _ t _ h
theorem HB.row {w0 w : World} {Z g : Nat} {cs : Array Value} (h : HB w0 w Z g cs) (cs' : Array Value) : HB w0 (w.setRow g cs') Z g cs' := ⟨h.1.row cs', h.2⟩
theorem DS.row {w0 w : World} {T gr Z g : Nat} {l : List UInt8} {e : Int} {cs : Array Value} (h : DS w0 w T gr Z l e) (hb : HB w0 w Z g cs) (cs' : Array Value) : DS w0 (w.setRow g cs') T gr Z l e := h.put hb (only_row w g cs')

theorem own_ne {w : World} {B : Nat} {A : Option Addr} {n c : Nat} {xs : List Value} (hown : Own w B 3 1 A n c xs) {g : Nat} {cs : Array Value} (hb : Blk w g 30 cs) : ∀ k, ownB A c = some k → k ≠ g := hown.blk_ne hb (by decide)
theorem DS.ownI {w0 w : World} {T gr Z B : Nat} {l : List UInt8} {e : Int} {A : Option Addr} {n c : Nat} {xs : List Value} (h : DS w0 w T gr Z l e) (hown : Own w B 3 1 A n c xs) : ∀ k, ownB A c = some k → ¬ k = gr := by
  obtain ⟨A1, n1, c1, hb, _⟩ := h.2.1
  exact hown.blk_ne hb (by decide)

theorem nm1_lt (l : List UInt8) (e : Int) : (nm l e 1).2.2 < 256 := by
  unfold nm
  simp only
  split
  · show (0 : Nat) < 256; decide
  · have h1 := un_lt (tk l e 1 (!rt 1)).2.2
    have h2 := tk_len l e 1 (!rt 1)
    have h3 : (256 : Nat) ^ (tk l e 1 (!rt 1)).2.2.length ≤ 256 ^ 1 := Nat.pow_le_pow_right (by omega) h2
    exact Nat.lt_of_lt_of_le h1 h3
theorem tx1_lt (l : List UInt8) (e : Int) : (tx l e 1).2.2.length ≤ 255 := by
  unfold tx
  refine Nat.le_trans (tk_len _ _ _ _) ?_
  have := nm1_lt l e
  rw [Int.toNat_natCast]
  omega
end Go.Proofs.Ytophnjoaajcfjaa
