/- Stores in memory: what of the memory one is; how it stands behind a change. No condition. -/
import Derived.Test.YtbljacafmkdlmaaChecked
import Derived.Test.YtbljacafmkdlmaaBlk
import Derived.Test.YtbljacafmkdlmaaStD
namespace Go.Proofs.Ytbljacafmkdlmaa
open Go.RowKit
set_option linter.unusedSimpArgs false

/-- Where a store lies. -/
structure Fp where
  g : Nat
  b1 : Nat
  b2 : Nat
  A : Option Addr
  c : Nat
def Foot (f : Fp) : Nat → Prop := fun k => k = f.g ∨ k = f.b1 ∨ k = f.b2 ∨ ownB f.A f.c = some k

def Mp (w : World) (b : Nat) (D : DataW Unit) : Prop := w.ownsMap Try.prog 3 secR b 4096 D
def Wrt.cells (x : Wrt) : List Value := .int .i64 x.1 :: bv x.2
def wcells (l : List Wrt) : List Value := l.flatMap Wrt.cells
theorem wcells_nil : wcells [] = [] := rfl
theorem wcells_snoc (l : List Wrt) (x : Wrt) : wcells (l ++ [x]) = wcells l ++ x.cells := by simp [wcells]
theorem wcells_append (a b : List Wrt) : wcells (a ++ b) = wcells a ++ wcells b := by simp [wcells]
theorem wcells_one (l : List Wrt) : ∀ u ∈ wcells l, u.oneCell' = true := by
  intro u hu
  obtain ⟨p, _, hp⟩ := List.mem_flatMap.1 hu
  rcases List.mem_cons.1 hp with rfl | hp
  · rfl
  · obtain ⟨_, _, rfl⟩ := List.mem_map.1 hp
    rfl
theorem wcells_length (l : List Wrt) (h : ∀ x ∈ l, x.2.length = 16) : (wcells l).length = l.length * 17 := by
  unfold wcells
  induction l with
  | nil => rfl
  | cons p l ih =>
    rw [List.flatMap_cons, List.length_append, ih (fun x hx => h x (by simp [hx])), List.length_cons, Wrt.cells, List.length_cons, bv_length, h p (by simp)]
    omega

theorem Mp.lt {w : World} {b : Nat} {D : DataW Unit} (h : Mp w b D) : b < w.heap.size := World.ownsMap.lt h
theorem Mp.only {w w' : World} {b : Nat} {D : DataW Unit} {F : Nat → Prop} (h : Mp w b D) (ho : Only w w' F) (hb : ¬ F b) : Mp w' b D := by
  have hlt := h.lt
  obtain ⟨es, clock, h1, r⟩ := h
  exact ⟨es, clock, (ho.block b hlt hb).trans h1, r⟩
theorem Mp.below {w w' : World} {b : Nat} {D : DataW Unit} (h : Mp w b D) (hb : Below w.heap.size w w') : Mp w' b D := h.only (Only.of_below hb (fun _ => False)) (fun h => h)
theorem Mp.alloc {w : World} {b : Nat} {D : DataW Unit} (h : Mp w b D) (o : Obj) : Mp (w.alloc o) b D := h.below ((Below.refl _ _).alloc (Nat.le_refl _) o)
theorem Mp.drew {w : World} {b : Nat} {D : DataW Unit} (h : Mp w b D) : Mp w.drew b D := h
theorem Mp.turned {w w' : World} {b : Nat} (h : w.mapTurned w' b) : Only w w' (fun k => k = b) := by
  have hg := h.grown
  exact ⟨hg.os, hg.tape, hg.output, hg.size, fun k hk hn => hg.block k hk (fun e => hn (by injection e))⟩
theorem Blk.ne_map {w : World} {g b : Nat} {t : TypeId} {cs : Array Value} {D : DataW Unit} (h : Blk w g t cs) (h' : Mp w b D) : g ≠ b := by
  rintro rfl
  obtain ⟨es, clock, h1, _⟩ := h'
  unfold Blk at h
  rw [h1] at h
  cases h
theorem Own.ne_map {w : World} {B b : Nat} {e : TypeId} {size : Nat} {A : Option Addr} {n c : Nat} {xs : List Value} {D : DataW Unit} (h : Own w B e size A n c xs) (h' : Mp w b D) : ∀ k, ownB A c = some k → k ≠ b := by
  rintro k hk rfl
  obtain ⟨_, _, _, h | ⟨g', cur, lo, hi, rfl, _, hh, _⟩⟩ := h
  · subst h; simp [ownB] at hk
  · by_cases hc : c = 0
    · subst hc; simp [ownB] at hk
    · rw [ownB_some (by omega)] at hk
      injection hk with hk
      subst hk
      obtain ⟨es, clock, h1, _⟩ := h'
      rw [hh] at h1
      cases h1

structure Sto (w : World) (B : Nat) (f : Fp) (s : St) : Prop where
  blk : Blk w f.g 108 #[.int .i64 s.n, .int .i64 s.room, .map (some f.b1), .map (some f.b2), .slice f.A (s.l.length - s.k) f.c]
  safe : Mp w f.b1 (Dof (s.l.take s.k))
  seen : Mp w f.b2 (Dof s.l)
  own : Own w B 135 17 f.A (s.l.length - s.k) f.c (wcells (s.l.drop s.k))
  ok : s.OK
  low : B ≤ f.g ∧ B ≤ f.b1 ∧ B ≤ f.b2
  ne : f.b1 ≠ f.b2

structure Turned (w w' : World) (f f' : Fp) : Prop where
  only : Only w w' (Foot f)
  grows : ∀ k, Foot f' k → Foot f k ∨ w.heap.size ≤ k
  same : f'.g = f.g

section
variable {w w' w1 w2 : World} {B : Nat} {f f' f2 : Fp} {s : St} {F : Nat → Prop} {L : Option Addr} {xs : List Value}
theorem Sto.foot (h : Sto w B f s) : ∀ k, Foot f k → B ≤ k ∧ k < w.heap.size := fun k hk => by
  rcases hk with rfl | rfl | rfl | hk
  · exact ⟨h.low.1, h.blk.lt⟩
  · exact ⟨h.low.2.1, h.safe.lt⟩
  · exact ⟨h.low.2.2, h.seen.lt⟩
  · exact h.own.lt k hk
theorem Sto.only (h : Sto w B f s) (hb : Only w w' F) (hF : ∀ k, Foot f k → ¬ F k) : Sto w' B f s :=
  ⟨h.blk.only hb (hF _ (.inl rfl)), h.safe.only hb (hF _ (.inr (.inl rfl))), h.seen.only hb (hF _ (.inr (.inr (.inl rfl)))), h.own.only hb (fun k hk => hF k (.inr (.inr (.inr hk)))), h.ok, h.low, h.ne⟩
theorem Sto.below (h : Sto w B f s) (hb : Below w.heap.size w w') : Sto w' B f s := h.only (Only.of_below hb (fun _ => False)) (fun _ _ h => h)
theorem Sto.alloc (h : Sto w B f s) (o : Obj) : Sto (w.alloc o) B f s := h.below ((Below.refl _ _).alloc (Nat.le_refl _) o)
theorem Sto.drew (h : Sto w B f s) : Sto w.drew B f s := ⟨h.blk.drew, h.safe.drew, h.seen.drew, h.own.drew, h.ok, h.low, h.ne⟩
theorem Sto.size (h : Sto w B f s) : B ≤ w.heap.size := by have := h.blk.lt; have := h.low.1; omega
theorem Sto.less (h : Sto w B f s) {B' : Nat} (hB : B' ≤ B) : Sto w B' f s := ⟨h.blk, h.safe, h.seen, h.own.less hB, h.ok, ⟨by have := h.low; omega, by have := h.low; omega, by have := h.low; omega⟩, h.ne⟩
theorem Turned.refl (w : World) (f : Fp) : Turned w w f f := ⟨Only.refl _ _, fun _ hk => .inl hk, rfl⟩
theorem Turned.trans (h : Turned w w1 f f') (k : Turned w1 w2 f' f2) : Turned w w2 f f2 :=
  ⟨h.only.trans k.only (fun i hi hf => by
    rcases h.grows i hf with hf | hf
    · exact hf
    · omega), fun i hi => by
    rcases k.grows i hi with hf | hf
    · exact h.grows i hf
    · exact .inr (Nat.le_trans h.only.size hf), k.same.trans h.same⟩
theorem Turned.below (h : Turned w w1 f f') (hb : Below w1.heap.size w1 w2) : Turned w w2 f f' :=
  ⟨h.only.trans (Only.of_below hb (fun _ => False)) (fun _ _ hf => hf.elim), h.grows, h.same⟩
theorem Turned.after (hb : Below w.heap.size w w1) (h : Turned w1 w2 f f') : Turned w w2 f f' :=
  ⟨(Only.of_below hb (Foot f)).trans h.only (fun _ _ hf => hf), fun k hk => (h.grows k hk).imp id (fun h1 => Nat.le_trans hb.size h1), h.same⟩
theorem Turned.belowB (h : Turned w w' f f') (hc : Sto w B f s) : Below B w w' := h.only.belowB (fun k hk => (hc.foot k hk).1) hc.size
/-- Another store stands, and stays another one. -/
theorem Turned.other {B2 : Nat} {f3 : Fp} {s3 : St} (h : Turned w w' f f') (h3 : Sto w B2 f3 s3) (hne : ∀ k, Foot f3 k → ¬ Foot f k) : Sto w' B2 f3 s3 ∧ ∀ k, Foot f3 k → ¬ Foot f' k :=
  ⟨h3.only h.only hne, fun k hk hf => by
    rcases h.grows k hf with hf | hf
    · exact hne k hk hf
    · have := (h3.foot k hk).2
      omega⟩

/-- A row that is none of the store's blocks. -/
def Away (w : World) (L : Option Addr) (xs : List Value) (F : Nat → Prop) : Prop := Row w L xs ∧ (xs ≠ [] → ∀ a, L = some a → ¬ F a.block)
theorem Row.lt (h : Row w L xs) (hx : xs ≠ []) : ∀ a, L = some a → a.block < w.heap.size := by
  intro a ha
  obtain ⟨g, o, hA, hg, _⟩ := h.at_ (List.length_pos_iff.2 hx)
  rw [ha] at hA
  injection hA with hA
  subst hA
  exact hg
theorem Away.row (h : Away w L xs F) : Row w L xs := h.1
theorem Away.only (h : Away w L xs F) (hb : Only w w' F) : Row w' L xs := by
  by_cases hx : xs = []
  · exact .inl hx
  · exact h.1.only hb (h.2 hx)
theorem Away.turned (h : Away w L xs (Foot f)) (ht : Turned w w' f f') : Away w' L xs (Foot f') :=
  ⟨h.only ht.only, fun hx a ha hf => by
    rcases ht.grows _ hf with hf | hf
    · exact h.2 hx a ha hf
    · have := h.1.lt hx a ha
      omega⟩
theorem Away.below (h : Away w L xs F) (hb : Below w.heap.size w w') : Away w' L xs F := ⟨h.1.below hb, h.2⟩
/-- An argument's row, a store laid behind it. -/
theorem Away.arg (h : Row w L xs) (h' : Row w' L xs) (hc : Sto w' B f s) (hB : w.heap.size ≤ B) : Away w' L xs (Foot f) :=
  ⟨h', fun hx a ha hf => by
    have := h.lt hx a ha
    have := (hc.foot _ hf).1
    omega⟩
theorem Away.of (h : Row w L xs) (hc : Sto w' B f s) (hB : w.heap.size ≤ B) (hb : Below w.heap.size w w') : Away w' L xs (Foot f) := Away.arg h (h.below hb) hc hB
theorem Row.belowB (h : Row w L xs) (hb : Below B w w') (hL : xs ≠ [] → ∀ a, L = some a → a.block < B) : Row w' L xs := by
  by_cases hx : xs = []
  · exact .inl hx
  · exact h.only (Only.of_belowB hb) (fun a ha => by have := hL hx a ha; omega)
theorem Sto.five (h : Sto w B f s) : (w.cell? ⟨f.g, 0, none⟩ = some (.int .i64 s.n) ∧ w.cell? ⟨f.g, 1, none⟩ = some (.int .i64 s.room) ∧ w.cell? ⟨f.g, 2, none⟩ = some (.map (some f.b1)) ∧ w.cell? ⟨f.g, 3, none⟩ = some (.map (some f.b2)) ∧ w.cell? ⟨f.g, 4, none⟩ = some (.slice f.A (s.l.length - s.k) f.c)) ∧
    (w.frozen? ⟨f.g, 0, none⟩ = false ∧ w.frozen? ⟨f.g, 1, none⟩ = false ∧ w.frozen? ⟨f.g, 2, none⟩ = false ∧ w.frozen? ⟨f.g, 3, none⟩ = false ∧ w.frozen? ⟨f.g, 4, none⟩ = false) :=
  ⟨⟨h.blk.cell 0, h.blk.cell 1, h.blk.cell 2, h.blk.cell 3, h.blk.cell 4⟩, h.blk.frozen 0, h.blk.frozen 1, h.blk.frozen 2, h.blk.frozen 3, h.blk.frozen 4⟩
theorem Mp.len (h : Mp w f.b2 (Dof s.l)) (ty : TypeId) : (Builtin.len_ #[105] ty #[.map (some f.b2)]).run Try.prog w = .ok (.int .i64 (Maps.size (Dof s.l))) w := World.ownsMap.len h Try.underlying105 ty
theorem Sto.sizes (h : Sto w B f s) : Maps.size (Dof s.l) = s.used := size_Dof s.l s.n.toNat (fun x hx => by have := h.ok.w x hx; have := h.ok.n0; omega)
end

set_option maxHeartbeats 1000000 in
theorem sright_any (n : Int) (w : World) : Calls Try.prog 66 #[.int .i64 n] w fun e w' => e = .returned (.bool (decide (0 ≤ n) && decide (n ≤ 4096))) ∧ w' = w := by
  by_cases h1 : 0 ≤ n
  · by_cases h2 : n ≤ 4096
    · go_enter Try.func66, Try.ntmps66
      go_wp2_with fail
      go_ret
      exact ⟨ret_bool (by rw [Bool.eq_iff_iff]; simp <;> omega), rfl⟩
    · go_enter Try.func66, Try.ntmps66
      go_wp2_with fail
      go_ret
      exact ⟨ret_bool (by rw [Bool.eq_iff_iff]; simp <;> omega), rfl⟩
  · go_enter Try.func66, Try.ntmps66
    go_wp2_with fail
    go_ret
    exact ⟨ret_bool (by rw [Bool.eq_iff_iff]; simp <;> omega), rfl⟩

set_option maxHeartbeats 1000000 in
theorem len_any (B : Nat) (f : Fp) (s : St) (w : World) (h : Sto w B f s) : Calls Try.prog 37 #[.pointer (some ⟨f.g, 0, none⟩)] w fun e w' => e = .returned (.int .i64 s.n) ∧ w' = w := by
  obtain ⟨⟨c0, c1, c2, c3, c4⟩, _⟩ := h.five
  clear h
  go_enter Try.func37, Try.ntmps37
  go_wp2_with fail
  go_ret
  exact ⟨rfl, rfl⟩
set_option maxHeartbeats 1000000 in
theorem used_any (B : Nat) (f : Fp) (s : St) (w : World) (h : Sto w B f s) : Calls Try.prog 72 #[.pointer (some ⟨f.g, 0, none⟩)] w fun e w' => e = .returned (.int .i64 s.used) ∧ w' = w := by
  obtain ⟨⟨c0, c1, c2, c3, c4⟩, _⟩ := h.five
  have hl := h.seen.len
  rw [h.sizes] at hl
  clear h
  go_enter Try.func72, Try.ntmps72
  go_wp2_with fail
  go_ret
  exact ⟨rfl, rfl⟩
set_option maxHeartbeats 1000000 in
theorem loose_any (B : Nat) (f : Fp) (s : St) (w : World) (h : Sto w B f s) : Calls Try.prog 22 #[.pointer (some ⟨f.g, 0, none⟩)] w fun e w' => e = .returned (.int .i64 ((s.l.length - s.k : Nat) : Int)) ∧ w' = w := by
  obtain ⟨⟨c0, c1, c2, c3, c4⟩, _⟩ := h.five
  clear h
  go_enter Try.func22, Try.ntmps22
  go_wp2_with fail
  go_ret
  exact ⟨rfl, rfl⟩

set_option maxHeartbeats 1000000 in
theorem inside_any (B : Nat) (f : Fp) (s : St) (w : World) (h : Sto w B f s) (at_ long : Int) (hl : 0 ≤ long) : Calls Try.prog 52 #[.pointer (some ⟨f.g, 0, none⟩), .int .i64 at_, .int .i64 long] w
    fun e w' => e = .returned (.bool (insideB s.n at_ long)) ∧ w' = w := by
  obtain ⟨⟨c0, c1, c2, c3, c4⟩, _⟩ := h.five
  have hn0 := h.ok.n0
  have hn1 := h.ok.n1
  clear h
  obtain ⟨n, hn⟩ : ∃ n, n = s.n := ⟨_, rfl⟩
  rw [← hn] at c0 hn0 hn1 ⊢
  clear hn c1 c2 c3 c4
  unfold insideB
  by_cases h1 : 0 ≤ at_
  · by_cases h2 : long ≤ n
    · by_cases h3 : at_ ≤ n - long
      · go_enter Try.func52, Try.ntmps52
        go_wp2_with fail
        go_ret
        exact ⟨ret_bool (by rw [Bool.eq_iff_iff]; simp <;> omega), rfl⟩
      · go_enter Try.func52, Try.ntmps52
        go_wp2_with fail
        go_ret
        exact ⟨ret_bool (by rw [Bool.eq_iff_iff]; simp <;> omega), rfl⟩
    · go_enter Try.func52, Try.ntmps52
      go_wp2_with fail
      go_ret
      exact ⟨ret_bool (by rw [Bool.eq_iff_iff]; simp <;> omega), rfl⟩
  · go_enter Try.func52, Try.ntmps52
    go_wp2_with fail
    go_ret
    exact ⟨ret_bool (by rw [Bool.eq_iff_iff]; simp <;> omega), rfl⟩

set_option maxHeartbeats 1000000 in
theorem room_any (B : Nat) (f : Fp) (s : St) (w : World) (h : Sto w B f s) (n : Int) : Calls Try.prog 30 #[.pointer (some ⟨f.g, 0, none⟩), .int .i64 n] w
    fun e w' => e = .returned (.tuple #[]) ∧ Sto w' B f (doR s n) ∧ Turned w w' f f := by
  obtain ⟨⟨c0, c1, c2, c3, c4⟩, z0, z1, z2, z3, z4⟩ := h.five
  have key : ∀ x : Int, x = (if n < 0 then 0 else n) → Sto (w.setCell ⟨f.g, 1, none⟩ (.int .i64 x)) B f (doR s n) ∧ Turned w (w.setCell ⟨f.g, 1, none⟩ (.int .i64 x)) f f := fun x hx => by
    have ho : Only w (w.setCell ⟨f.g, 1, none⟩ (.int .i64 x)) (fun k => k = f.g) := Only.setCell (F := fun k => k = f.g) (Only.refl _ _) (.inl rfl) _
    refine ⟨⟨?_, h.safe.only ho (fun e => h.blk.ne_map h.safe e.symm), h.seen.only ho (fun e => h.blk.ne_map h.seen e.symm), h.own.only ho (h.own.blk_ne h.blk (by decide)), h.ok.roomed n, h.low, h.ne⟩, ⟨ho.mono (fun k _ hk => .inl hk), fun k hk => .inl hk, rfl⟩⟩
    have h1 := h.blk.set_ 1 (.int .i64 x)
    rw [hx] at h1 ⊢
    exact h1
  have HK := Lib.hid key
  clear key h
  by_cases hn : n < 0
  · go_enter Try.func30, Try.ntmps30
    go_wp2_with fail
    all_goals
      go_end0
      exact ⟨rfl, HK.out _ (by split <;> omega)⟩
  · go_enter Try.func30, Try.ntmps30
    go_wp2_with fail
    all_goals
      go_end0
      exact ⟨rfl, HK.out _ (by split <;> omega)⟩
end Go.Proofs.Ytbljacafmkdlmaa
