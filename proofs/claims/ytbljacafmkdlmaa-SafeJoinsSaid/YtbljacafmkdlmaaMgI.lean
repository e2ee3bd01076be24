/- Several texts in one: Sto, StR, StF. -/
import Derived.Test.YtbljacafmkdlmaaChecked
import Derived.Test.YtbljacafmkdlmaaBlk
import Derived.Test.YtbljacafmkdlmaaMgH
import Derived.Deep.WholeRow
import Derived.Shelf.SlMaps.Clone
/- Stores in memory: what of the memory one is; how it stands behind a change. No condition. -/
namespace Go.Proofs.Ytbljacafmkdlmaa
open Go.RowKit
set_option linter.unusedSimpArgs false

/-- Where a store lies. -/
structure Fp where
  g : Nat
  b1 : Nat
  b2 : Nat
  A : Option Addr
  c : Nat
def Foot (f : Fp) : Nat → Prop := fun k => k = f.g ∨ k = f.b1 ∨ k = f.b2 ∨ ownB f.A f.c = some k

def Mp (w : World) (b : Nat) (D : DataW Unit) : Prop := w.ownsMap Try.prog 3 secR b 4096 D
def Wrt.cells (x : Wrt) : List Value := .int .i64 x.1 :: bv x.2
def wcells (l : List Wrt) : List Value := l.flatMap Wrt.cells
theorem wcells_nil : wcells [] = [] := rfl
theorem wcells_snoc (l : List Wrt) (x : Wrt) : wcells (l ++ [x]) = wcells l ++ x.cells := by simp [wcells]
theorem wcells_append (a b : List Wrt) : wcells (a ++ b) = wcells a ++ wcells b := by simp [wcells]
theorem wcells_one (l : List Wrt) : ∀ u ∈ wcells l, u.oneCell' = true := by
  intro u hu
  obtain ⟨p, _, hp⟩ := List.mem_flatMap.1 hu
  rcases List.mem_cons.1 hp with rfl | hp
  · rfl
  · obtain ⟨_, _, rfl⟩ := List.mem_map.1 hp
    rfl
theorem wcells_length (l : List Wrt) (h : ∀ x ∈ l, x.2.length = 16) : (wcells l).length = l.length * 17 := by
  unfold wcells
  induction l with
  | nil => rfl
  | cons p l ih =>
    rw [List.flatMap_cons, List.length_append, ih (fun x hx => h x (by simp [hx])), List.length_cons, Wrt.cells, List.length_cons, bv_length, h p (by simp)]
    omega

theorem Mp.lt {w : World} {b : Nat} {D : DataW Unit} (h : Mp w b D) : b < w.heap.size := World.ownsMap.lt h
theorem Mp.only {w w' : World} {b : Nat} {D : DataW Unit} {F : Nat → Prop} (h : Mp w b D) (ho : Only w w' F) (hb : ¬ F b) : Mp w' b D := by
  have hlt := h.lt
  obtain ⟨es, clock, h1, r⟩ := h
  exact ⟨es, clock, (ho.block b hlt hb).trans h1, r⟩
theorem Mp.below {w w' : World} {b : Nat} {D : DataW Unit} (h : Mp w b D) (hb : Below w.heap.size w w') : Mp w' b D := h.only (Only.of_below hb (fun _ => False)) (fun h => h)
theorem Mp.alloc {w : World} {b : Nat} {D : DataW Unit} (h : Mp w b D) (o : Obj) : Mp (w.alloc o) b D := h.below ((Below.refl _ _).alloc (Nat.le_refl _) o)
theorem Mp.drew {w : World} {b : Nat} {D : DataW Unit} (h : Mp w b D) : Mp w.drew b D := h
theorem Mp.turned {w w' : World} {b : Nat} (h : w.mapTurned w' b) : Only w w' (fun k => k = b) := by
  have hg := h.grown
  exact ⟨hg.os, hg.tape, hg.output, hg.size, fun k hk hn => hg.block k hk (fun e => hn (by injection e))⟩
theorem Blk.ne_map {w : World} {g b : Nat} {t : TypeId} {cs : Array Value} {D : DataW Unit} (h : Blk w g t cs) (h' : Mp w b D) : g ≠ b := by
  rintro rfl
  obtain ⟨es, clock, h1, _⟩ := h'
  unfold Blk at h
  rw [h1] at h
  cases h
theorem Own.ne_map {w : World} {B b : Nat} {e : TypeId} {size : Nat} {A : Option Addr} {n c : Nat} {xs : List Value} {D : DataW Unit} (h : Own w B e size A n c xs) (h' : Mp w b D) : ∀ k, ownB A c = some k → k ≠ b := by
  rintro k hk rfl
  obtain ⟨_, _, _, h | ⟨g', cur, lo, hi, rfl, _, hh, _⟩⟩ := h
  · subst h; simp [ownB] at hk
  · by_cases hc : c = 0
    · subst hc; simp [ownB] at hk
    · rw [ownB_some (by omega)] at hk
      injection hk with hk
      subst hk
      obtain ⟨es, clock, h1, _⟩ := h'
      rw [hh] at h1
      cases h1

structure Sto (w : World) (B : Nat) (f : Fp) (s : St) : Prop where
  blk : Blk w f.g 108 #[.int .i64 s.n, .int .i64 s.room, .map (some f.b1), .map (some f.b2), .slice f.A (s.l.length - s.k) f.c]
  safe : Mp w f.b1 (Dof (s.l.take s.k))
  seen : Mp w f.b2 (Dof s.l)
  own : Own w B 135 17 f.A (s.l.length - s.k) f.c (wcells (s.l.drop s.k))
  ok : s.OK
  low : B ≤ f.g ∧ B ≤ f.b1 ∧ B ≤ f.b2
  ne : f.b1 ≠ f.b2

structure Turned (w w' : World) (f f' : Fp) : Prop where
  only : Only w w' (Foot f)
  grows : ∀ k, Foot f' k → Foot f k ∨ w.heap.size ≤ k
  same : f'.g = f.g

section
variable {w w' w1 w2 : World} {B : Nat} {f f' f2 : Fp} {s : St} {F : Nat → Prop} {L : Option Addr} {xs : List Value}
theorem Sto.foot (h : Sto w B f s) : ∀ k, Foot f k → B ≤ k ∧ k < w.heap.size := fun k hk => by
  rcases hk with rfl | rfl | rfl | hk
  · exact ⟨h.low.1, h.blk.lt⟩
  · exact ⟨h.low.2.1, h.safe.lt⟩
  · exact ⟨h.low.2.2, h.seen.lt⟩
  · exact h.own.lt k hk
theorem Sto.only (h : Sto w B f s) (hb : Only w w' F) (hF : ∀ k, Foot f k → ¬ F k) : Sto w' B f s :=
  ⟨h.blk.only hb (hF _ (.inl rfl)), h.safe.only hb (hF _ (.inr (.inl rfl))), h.seen.only hb (hF _ (.inr (.inr (.inl rfl)))), h.own.only hb (fun k hk => hF k (.inr (.inr (.inr hk)))), h.ok, h.low, h.ne⟩
theorem Sto.below (h : Sto w B f s) (hb : Below w.heap.size w w') : Sto w' B f s := h.only (Only.of_below hb (fun _ => False)) (fun _ _ h => h)
theorem Sto.alloc (h : Sto w B f s) (o : Obj) : Sto (w.alloc o) B f s := h.below ((Below.refl _ _).alloc (Nat.le_refl _) o)
theorem Sto.drew (h : Sto w B f s) : Sto w.drew B f s := ⟨h.blk.drew, h.safe.drew, h.seen.drew, h.own.drew, h.ok, h.low, h.ne⟩
theorem Sto.size (h : Sto w B f s) : B ≤ w.heap.size := by have := h.blk.lt; have := h.low.1; omega
theorem Sto.less (h : Sto w B f s) {B' : Nat} (hB : B' ≤ B) : Sto w B' f s := ⟨h.blk, h.safe, h.seen, h.own.less hB, h.ok, ⟨by have := h.low; omega, by have := h.low; omega, by have := h.low; omega⟩, h.ne⟩
theorem Turned.refl (w : World) (f : Fp) : Turned w w f f := ⟨Only.refl _ _, fun _ hk => .inl hk, rfl⟩
theorem Turned.trans (h : Turned w w1 f f') (k : Turned w1 w2 f' f2) : Turned w w2 f f2 :=
  ⟨h.only.trans k.only (fun i hi hf => by
    rcases h.grows i hf with hf | hf
    · exact hf
    · omega), fun i hi => by
    rcases k.grows i hi with hf | hf
    · exact h.grows i hf
    · exact .inr (Nat.le_trans h.only.size hf), k.same.trans h.same⟩
theorem Turned.below (h : Turned w w1 f f') (hb : Below w1.heap.size w1 w2) : Turned w w2 f f' :=
  ⟨h.only.trans (Only.of_below hb (fun _ => False)) (fun _ _ hf => hf.elim), h.grows, h.same⟩
theorem Turned.after (hb : Below w.heap.size w w1) (h : Turned w1 w2 f f') : Turned w w2 f f' :=
  ⟨(Only.of_below hb (Foot f)).trans h.only (fun _ _ hf => hf), fun k hk => (h.grows k hk).imp id (fun h1 => Nat.le_trans hb.size h1), h.same⟩
theorem Turned.belowB (h : Turned w w' f f') (hc : Sto w B f s) : Below B w w' := h.only.belowB (fun k hk => (hc.foot k hk).1) hc.size
/-- Another store stands, and stays another one. -/
theorem Turned.other {B2 : Nat} {f3 : Fp} {s3 : St} (h : Turned w w' f f') (h3 : Sto w B2 f3 s3) (hne : ∀ k, Foot f3 k → ¬ Foot f k) : Sto w' B2 f3 s3 ∧ ∀ k, Foot f3 k → ¬ Foot f' k :=
  ⟨h3.only h.only hne, fun k hk hf => by
    rcases h.grows k hf with hf | hf
    · exact hne k hk hf
    · have := (h3.foot k hk).2
      omega⟩

/-- A row that is none of the store's blocks. -/
def Away (w : World) (L : Option Addr) (xs : List Value) (F : Nat → Prop) : Prop := Row w L xs ∧ (xs ≠ [] → ∀ a, L = some a → ¬ F a.block)
theorem Row.lt (h : Row w L xs) (hx : xs ≠ []) : ∀ a, L = some a → a.block < w.heap.size := by
  intro a ha
  obtain ⟨g, o, hA, hg, _⟩ := h.at_ (List.length_pos_iff.2 hx)
  rw [ha] at hA
  injection hA with hA
  subst hA
  exact hg
theorem Away.row (h : Away w L xs F) : Row w L xs := h.1
theorem Away.only (h : Away w L xs F) (hb : Only w w' F) : Row w' L xs := by
  by_cases hx : xs = []
  · exact .inl hx
  · exact h.1.only hb (h.2 hx)
theorem Away.turned (h : Away w L xs (Foot f)) (ht : Turned w w' f f') : Away w' L xs (Foot f') :=
  ⟨h.only ht.only, fun hx a ha hf => by
    rcases ht.grows _ hf with hf | hf
    · exact h.2 hx a ha hf
    · have := h.1.lt hx a ha
      omega⟩
theorem Away.below (h : Away w L xs F) (hb : Below w.heap.size w w') : Away w' L xs F := ⟨h.1.below hb, h.2⟩
/-- An argument's row, a store laid behind it. -/
theorem Away.arg (h : Row w L xs) (h' : Row w' L xs) (hc : Sto w' B f s) (hB : w.heap.size ≤ B) : Away w' L xs (Foot f) :=
  ⟨h', fun hx a ha hf => by
    have := h.lt hx a ha
    have := (hc.foot _ hf).1
    omega⟩
theorem Away.of (h : Row w L xs) (hc : Sto w' B f s) (hB : w.heap.size ≤ B) (hb : Below w.heap.size w w') : Away w' L xs (Foot f) := Away.arg h (h.below hb) hc hB
theorem Row.belowB (h : Row w L xs) (hb : Below B w w') (hL : xs ≠ [] → ∀ a, L = some a → a.block < B) : Row w' L xs := by
  by_cases hx : xs = []
  · exact .inl hx
  · exact h.only (Only.of_belowB hb) (fun a ha => by have := hL hx a ha; omega)
theorem Sto.five (h : Sto w B f s) : (w.cell? ⟨f.g, 0, none⟩ = some (.int .i64 s.n) ∧ w.cell? ⟨f.g, 1, none⟩ = some (.int .i64 s.room) ∧ w.cell? ⟨f.g, 2, none⟩ = some (.map (some f.b1)) ∧ w.cell? ⟨f.g, 3, none⟩ = some (.map (some f.b2)) ∧ w.cell? ⟨f.g, 4, none⟩ = some (.slice f.A (s.l.length - s.k) f.c)) ∧
    (w.frozen? ⟨f.g, 0, none⟩ = false ∧ w.frozen? ⟨f.g, 1, none⟩ = false ∧ w.frozen? ⟨f.g, 2, none⟩ = false ∧ w.frozen? ⟨f.g, 3, none⟩ = false ∧ w.frozen? ⟨f.g, 4, none⟩ = false) :=
  ⟨⟨h.blk.cell 0, h.blk.cell 1, h.blk.cell 2, h.blk.cell 3, h.blk.cell 4⟩, h.blk.frozen 0, h.blk.frozen 1, h.blk.frozen 2, h.blk.frozen 3, h.blk.frozen 4⟩
theorem Mp.len (h : Mp w f.b2 (Dof s.l)) (ty : TypeId) : (Builtin.len_ #[105] ty #[.map (some f.b2)]).run Try.prog w = .ok (.int .i64 (Maps.size (Dof s.l))) w := World.ownsMap.len h Try.underlying105 ty
theorem Sto.sizes (h : Sto w B f s) : Maps.size (Dof s.l) = s.used := size_Dof s.l s.n.toNat (fun x hx => by have := h.ok.w x hx; have := h.ok.n0; omega)
end

set_option maxHeartbeats 1000000 in
theorem sright_any (n : Int) (w : World) : Calls Try.prog 66 #[.int .i64 n] w fun e w' => e = .returned (.bool (decide (0 ≤ n) && decide (n ≤ 4096))) ∧ w' = w := by
  by_cases h1 : 0 ≤ n
  · by_cases h2 : n ≤ 4096
    · go_enter Try.func66, Try.ntmps66
      go_wp2_with fail
      go_ret
      exact ⟨ret_bool (by rw [Bool.eq_iff_iff]; simp <;> omega), rfl⟩
    · go_enter Try.func66, Try.ntmps66
      go_wp2_with fail
      go_ret
      exact ⟨ret_bool (by rw [Bool.eq_iff_iff]; simp <;> omega), rfl⟩
  · go_enter Try.func66, Try.ntmps66
    go_wp2_with fail
    go_ret
    exact ⟨ret_bool (by rw [Bool.eq_iff_iff]; simp <;> omega), rfl⟩

set_option maxHeartbeats 1000000 in
theorem len_any (B : Nat) (f : Fp) (s : St) (w : World) (h : Sto w B f s) : Calls Try.prog 37 #[.pointer (some ⟨f.g, 0, none⟩)] w fun e w' => e = .returned (.int .i64 s.n) ∧ w' = w := by
  obtain ⟨⟨c0, c1, c2, c3, c4⟩, _⟩ := h.five
  clear h
  go_enter Try.func37, Try.ntmps37
  go_wp2_with fail
  go_ret
  exact ⟨rfl, rfl⟩
set_option maxHeartbeats 1000000 in
theorem used_any (B : Nat) (f : Fp) (s : St) (w : World) (h : Sto w B f s) : Calls Try.prog 72 #[.pointer (some ⟨f.g, 0, none⟩)] w fun e w' => e = .returned (.int .i64 s.used) ∧ w' = w := by
  obtain ⟨⟨c0, c1, c2, c3, c4⟩, _⟩ := h.five
  have hl := h.seen.len
  rw [h.sizes] at hl
  clear h
  go_enter Try.func72, Try.ntmps72
  go_wp2_with fail
  go_ret
  exact ⟨rfl, rfl⟩
set_option maxHeartbeats 1000000 in
theorem loose_any (B : Nat) (f : Fp) (s : St) (w : World) (h : Sto w B f s) : Calls Try.prog 22 #[.pointer (some ⟨f.g, 0, none⟩)] w fun e w' => e = .returned (.int .i64 ((s.l.length - s.k : Nat) : Int)) ∧ w' = w := by
  obtain ⟨⟨c0, c1, c2, c3, c4⟩, _⟩ := h.five
  clear h
  go_enter Try.func22, Try.ntmps22
  go_wp2_with fail
  go_ret
  exact ⟨rfl, rfl⟩

set_option maxHeartbeats 1000000 in
theorem inside_any (B : Nat) (f : Fp) (s : St) (w : World) (h : Sto w B f s) (at_ long : Int) (hl : 0 ≤ long) : Calls Try.prog 52 #[.pointer (some ⟨f.g, 0, none⟩), .int .i64 at_, .int .i64 long] w
    fun e w' => e = .returned (.bool (insideB s.n at_ long)) ∧ w' = w := by
  obtain ⟨⟨c0, c1, c2, c3, c4⟩, _⟩ := h.five
  have hn0 := h.ok.n0
  have hn1 := h.ok.n1
  clear h
  obtain ⟨n, hn⟩ : ∃ n, n = s.n := ⟨_, rfl⟩
  rw [← hn] at c0 hn0 hn1 ⊢
  clear hn c1 c2 c3 c4
  unfold insideB
  by_cases h1 : 0 ≤ at_
  · by_cases h2 : long ≤ n
    · by_cases h3 : at_ ≤ n - long
      · go_enter Try.func52, Try.ntmps52
        go_wp2_with fail
        go_ret
        exact ⟨ret_bool (by rw [Bool.eq_iff_iff]; simp <;> omega), rfl⟩
      · go_enter Try.func52, Try.ntmps52
        go_wp2_with fail
        go_ret
        exact ⟨ret_bool (by rw [Bool.eq_iff_iff]; simp <;> omega), rfl⟩
    · go_enter Try.func52, Try.ntmps52
      go_wp2_with fail
      go_ret
      exact ⟨ret_bool (by rw [Bool.eq_iff_iff]; simp <;> omega), rfl⟩
  · go_enter Try.func52, Try.ntmps52
    go_wp2_with fail
    go_ret
    exact ⟨ret_bool (by rw [Bool.eq_iff_iff]; simp <;> omega), rfl⟩

set_option maxHeartbeats 1000000 in
theorem room_any (B : Nat) (f : Fp) (s : St) (w : World) (h : Sto w B f s) (n : Int) : Calls Try.prog 30 #[.pointer (some ⟨f.g, 0, none⟩), .int .i64 n] w
    fun e w' => e = .returned (.tuple #[]) ∧ Sto w' B f (doR s n) ∧ Turned w w' f f := by
  obtain ⟨⟨c0, c1, c2, c3, c4⟩, z0, z1, z2, z3, z4⟩ := h.five
  have key : ∀ x : Int, x = (if n < 0 then 0 else n) → Sto (w.setCell ⟨f.g, 1, none⟩ (.int .i64 x)) B f (doR s n) ∧ Turned w (w.setCell ⟨f.g, 1, none⟩ (.int .i64 x)) f f := fun x hx => by
    have ho : Only w (w.setCell ⟨f.g, 1, none⟩ (.int .i64 x)) (fun k => k = f.g) := Only.setCell (F := fun k => k = f.g) (Only.refl _ _) (.inl rfl) _
    refine ⟨⟨?_, h.safe.only ho (fun e => h.blk.ne_map h.safe e.symm), h.seen.only ho (fun e => h.blk.ne_map h.seen e.symm), h.own.only ho (h.own.blk_ne h.blk (by decide)), h.ok.roomed n, h.low, h.ne⟩, ⟨ho.mono (fun k _ hk => .inl hk), fun k hk => .inl hk, rfl⟩⟩
    have h1 := h.blk.set_ 1 (.int .i64 x)
    rw [hx] at h1 ⊢
    exact h1
  have HK := Lib.hid key
  clear key h
  by_cases hn : n < 0
  · go_enter Try.func30, Try.ntmps30
    go_wp2_with fail
    all_goals
      go_end0
      exact ⟨rfl, HK.out _ (by split <;> omega)⟩
  · go_enter Try.func30, Try.ntmps30
    go_wp2_with fail
    all_goals
      go_end0
      exact ⟨rfl, HK.out _ (by split <;> omega)⟩
end Go.Proofs.Ytbljacafmkdlmaa

/- store.New, Read. Conditions: the numbers are int64's. -/
namespace Go.Proofs.Ytbljacafmkdlmaa
set_option maxRecDepth 100000
open Go.RowKit
set_option linter.unusedSimpArgs false

theorem info_u8 : (Try.prog.info? 5).map (fun i => (i.zero, i.size, i.bytes)) = some (some (.int .u8 0), 1, 1) := by kernel_rfl
theorem info_int : (Try.prog.info? 3).map (fun i => (i.zero, i.size, i.bytes)) = some (some (.int .i64 0), 1, 8) := by kernel_rfl
theorem z16_cells : (bv z16).toArray = #[.int .u8 0, .int .u8 0, .int .u8 0, .int .u8 0, .int .u8 0, .int .u8 0, .int .u8 0, .int .u8 0, .int .u8 0, .int .u8 0, .int .u8 0, .int .u8 0, .int .u8 0, .int .u8 0, .int .u8 0, .int .u8 0] := rfl
theorem zero_sec (w : World) : (zeroValue 104).run Try.prog w = .ok (.agg (bv z16).toArray) w := by
  rw [z16_cells]
  obtain ⟨i, hi, hz⟩ : ∃ i, Try.prog.info? 104 = some i ∧ i.zero = some (.agg #[.int .u8 0, .int .u8 0, .int .u8 0, .int .u8 0, .int .u8 0, .int .u8 0, .int .u8 0, .int .u8 0, .int .u8 0, .int .u8 0, .int .u8 0, .int .u8 0, .int .u8 0, .int .u8 0, .int .u8 0, .int .u8 0]) := ⟨_, rfl, rfl⟩
  simp [zeroValue, typeInfo, hi, hz]
theorem lawI : Maps.Keyed Try.prog 3 := Maps.int_keyed Try.underlying3
theorem key_int (a : Int) (h : -9223372036854775808 ≤ a ∧ a ≤ 9223372036854775807) : keyOf Try.prog 3 (.int .i64 a) = some (keyL a) :=
  Maps.keyOf_int_mk Try.underlying3 (by simp [Lit.wf, IntKind.min, IntKind.max, IntKind.signed, IntKind.bits]; omega)
/-- m[k]. -/
theorem Mp.at_ {w : World} {b : Nat} {l : List Wrt} (h : Mp w b (Dof l)) (a : Int) (ha : -9223372036854775808 ≤ a ∧ a ≤ 9223372036854775807) :
    (Instr.lookup 105 (.map (some b)) (.int .i64 a) false).run Try.prog w = .ok (.agg (bv (sect l a)).toArray) w ∧ (sect l a).length = 16 := by
  obtain ⟨v, ps, hrun, hv⟩ := World.ownsMap.lookup h lawI Try.underlying105 (zero_sec w) (secR_mk (x := z16) rfl) (key_int a ha)
  rw [atKey_sect] at hv
  obtain ⟨x, hx, rfl, he⟩ := secR_inv hv
  have h1 := elD_inj (congrArg Prod.fst he)
  rw [h1]
  exact ⟨hrun, hx⟩
theorem cat_length {l : List Wrt} (h : ∀ x ∈ l, x.2.length = 16) (a : Int) : ∀ k : Nat, (cat l a k).length = 16 * k
  | 0 => rfl
  | k + 1 => by
    unfold cat
    have h1 : (sect l (a + k)).length = 16 := by
      unfold sect
      cases hl : lastW l (a + k) with
      | none => rfl
      | some x => exact h _ (lastW_mem hl)
    rw [List.length_append, cat_length h a k, h1]
    omega

/-- A new variable of an array type is given its sixteen bytes. -/
theorem store16 (w : World) (x : List UInt8) (hx : x.length = 16) (t : TypeId) : (storeCells ⟨w.heap.size, 0, none⟩ (bv x)).run Try.prog (w.alloc (.cells #[.int .u8 0, .int .u8 0, .int .u8 0, .int .u8 0, .int .u8 0, .int .u8 0, .int .u8 0, .int .u8 0, .int .u8 0, .int .u8 0, .int .u8 0, .int .u8 0, .int .u8 0, .int .u8 0, .int .u8 0, .int .u8 0] t)) = .ok () (w.alloc (.cells (bv x).toArray t)) := by
  have h := run_storeCells_row Try.prog w.heap.size 0 t 0 0 (bv x) 0 _ _ (heap_alloc_new w (.cells #[.int .u8 0, .int .u8 0, .int .u8 0, .int .u8 0, .int .u8 0, .int .u8 0, .int .u8 0, .int .u8 0, .int .u8 0, .int .u8 0, .int .u8 0, .int .u8 0, .int .u8 0, .int .u8 0, .int .u8 0, .int .u8 0] t)) (.inr (Nat.le_refl _)) (by rw [bv_length, hx]; simp) (bv_one x)
  rw [h, World.setRow_alloc_new]
  congr 4
  rw [bv_length, hx]
  simp

set_option maxHeartbeats 400000 in
theorem read_any (B : Nat) (f : Fp) (s : St) (w : World) (h : Sto w B f s) (at_ long : Int) (hb0 : -9223372036854775808 ≤ at_ ∧ at_ ≤ 9223372036854775807) (hb1 : long ≤ 9223372036854775807) :
    Calls Try.prog 20 #[.pointer (some ⟨f.g, 0, none⟩), .int .i64 at_, .int .i64 long] w
    fun e w' => ∃ A m c, e = .returned (.tuple #[.slice A m c, .int .i64 (rdS s at_ long).2]) ∧ (rdS s at_ long).1.length = m ∧ Own w' w.heap.size 5 1 A m c (bv (rdS s at_ long).1) ∧ Below w.heap.size w w' := by
  obtain ⟨i0, hi0, hz0, hz1, hz2⟩ := info_parts info_u8
  by_cases hl : long < 0
  · have e1 : rdS s at_ long = ([], 1) := by unfold rdS; rw [if_pos hl]
    rw [e1]
    clear h
    go_enter Try.func20, Try.ntmps20
    go_wp2_with fail
    go_ret2
    exact ⟨none, 0, 0, rfl, rfl, Own.nil _ _ _ _ _, Below.refl _ _⟩
  cases hi : insideB s.n at_ long
  · have e1 : rdS s at_ long = ([], 31) := by unfold rdS; rw [if_neg hl, if_pos hi]
    rw [e1]
    have hin := inside_any B f s w h at_ long (by omega)
    rw [hi] at hin
    clear h hi
    go_enter Try.func20, Try.ntmps20
    go_wp2_with fail
    refine hin.mono ?_
    rintro e w' ⟨rfl, rfl⟩
    go_wp2_with fail
    go_ret2
    exact ⟨none, 0, 0, rfl, rfl, Own.nil _ _ _ _ _, Below.refl _ _⟩
  have e1 : rdS s at_ long = (cat s.l at_ long.toNat, 0) := by unfold rdS; rw [if_neg hl, if_neg (by rw [hi]; simp)]
  rw [e1]
  have hof := insideB_of hi
  have hn1 := h.ok.n1
  obtain ⟨n, rfl⟩ := Int.eq_ofNat_of_zero_le (show 0 ≤ long by omega)
  have hin := inside_any B f s w h at_ n (by omega)
  rw [hi] at hin
  have hcl := cat_length (fun x hx => (h.ok.w x hx).2.2) at_ n
  have hn4 : n ≤ 4096 := by omega
  rw [Int.toNat_natCast]
  have hat : at_ + n ≤ 4096 := by omega
  clear e1 hi hn1 hl hb1
  go_enter Try.func20, Try.ntmps20
  go_wp2_with fail
  refine hin.mono ?_
  rintro e w' ⟨rfl, rfl⟩
  go_wp2_with fail
  go_loopw [8, 21] (fun v i wr => ∃ (k : Nat) (A' : Option Addr) (c' : Nat), k ≤ n ∧ i = .int .i64 k ∧ v = .slice A' (16 * k) c' ∧ Own wr w'.heap.size 5 1 A' (16 * k) c' (bv (cat s.l at_ k)) ∧ Below w'.heap.size w' wr)
    (fun _ i _ => n - (intOf i).toNat)
  case atStart => exact ⟨0, none, 0, Nat.zero_le _, rfl, rfl, Own.nil _ _ _ _ _, Below.refl _ _⟩
  case round =>
    obtain ⟨k, A', c', hk, rfl, rfl, hown, hbel⟩ := hrel
    by_cases hlt : k < n
    · have hr := h.below hbel
      obtain ⟨⟨c0, c1, c2, c3, c4⟩, _⟩ := hr.five
      have hlook := hr.seen.at_ (at_ + k) (by omega)
      have hcs : cat s.l at_ (k + 1) = cat s.l at_ k ++ sect s.l (at_ + k) := rfl
      obtain ⟨x, hx⟩ : ∃ x, x = sect s.l (at_ + k) := ⟨_, rfl⟩
      rw [← hx] at hlook hcs
      obtain ⟨hlook, hx16⟩ := hlook
      have hxv : (bv x).length = 16 := by rw [bv_length, hx16]
      have hst := fun (u : World) => store16 u x hx16
      have HCS := Lib.hid hcs
      clear hr hx hcs hx16
      have hsrc : Src Try.prog (wr.alloc (.cells (bv x).toArray 104)) 23 (.slice (some ⟨wr.heap.size, 0, none⟩) 16 16) 1 16 (bv x) := Src.slice Try.underlying23 (.inr ⟨_, 0, rfl, fun j u hu => by rw [Nat.zero_add, World.cell?_alloc_new]; simpa using hu⟩) (by omega) (bv_one x)
      go_wp2_with (at_builtin; refine wpList_app _ rfl _ _ 23 23 rfl w'.heap.size 5 i0 _ 1 1 Try.underlying23 hi0 hz0 hz1 hz2 rfl A' _ c' _ rfl (hown.alloc _) _ 16 _ rfl hsrc (by simp only [maxLen]; omega) (by omega) (by have := hbel.size; simp; omega) ?_; intro A3 c3 w3 hown3 hg3 hb3)
      go_roundw
      case rel => exact ⟨k + 1, A3, c3, by omega, by go_num, by rw [Nat.mul_succ], by rw [HCS.out, bv_append, Nat.mul_succ]; exact hown3, (hbel.alloc hbel.size _).grown hg3 (by have := hbel.size; simp; omega) (fun i hi => (hown.lt i hi).1)⟩
      case measure => simp [intOf]; omega
    · obtain rfl : k = n := by omega
      go_wp2_with fail
      go_ret2
      exact ⟨A', 16 * k, c', rfl, hcl, hown, hbel⟩
end Go.Proofs.Ytbljacafmkdlmaa

/- store.New, Flush, maps.Clone at a store's maps. No condition. -/
namespace Go.Proofs.Ytbljacafmkdlmaa
set_option maxRecDepth 100000
open Go.RowKit
set_option linter.unusedSimpArgs false

set_option maxHeartbeats 1000000 in
theorem clone_any (b : Nat) (D : DataW Unit) (w : World) (h : Mp w b D) :
    Calls Try.prog 71 #[.map (some b)] w fun e w' => e = .returned (.map (some w.heap.size)) ∧ Mp w' w.heap.size D ∧ Below w.heap.size w w' := by
  have hlt := h.lt
  obtain ⟨es, clock, hb, F, hs, hD⟩ := h
  have key : Mp (w.alloc (.map es clock)) w.heap.size D ∧ Below w.heap.size w (w.alloc (.map es clock)) := ⟨⟨es, clock, (MapKept.heap_alloc w _).1, F, hs, hD⟩, (Below.refl _ w).alloc (Nat.le_refl _) _⟩
  have hq := fun w => run_eql_map_nil_sl (P := Try.prog) w 105 _ _ (some b) Try.underlying105
  clear F hs hD
  go_enter Try.func71, Try.ntmps71
  go_wp2
  rw [run_callFunc_extern (P := Try.prog) Try.func93 (by kernel_rfl) (by kernel_rfl) (by kernel_rfl) (e := Extern.MapsClone.clone) (by kernel_rfl), run_maps_clone_sl w 105 hb]
  simp only [Result.andThen]
  rw [Oper.upon_value]
  go_wp2
  rw [run_typeAssert_map_sl _ 105 20 _ _ _ Try.underlying105]
  simp only [Result.andThen]
  rw [Oper.upon_value]
  go_wp2
  go_ret
  exact ⟨rfl, key⟩

/-- What stands when the writes are safe. -/
theorem Sto.flushed {w w' : World} {B : Nat} {f : Fp} {s : St} (h : Sto w B f s) (b : Nat) (hb : w.heap.size ≤ b) (hm : Mp w' b (Dof s.l)) (hB : Below w.heap.size w w') :
    Sto ((w'.setCell ⟨f.g, 2, none⟩ (.map (some b))).setCell ⟨f.g, 4, none⟩ (.slice none 0 0)) B ⟨f.g, b, f.b2, none, 0⟩ (doF s) ∧ Turned w ((w'.setCell ⟨f.g, 2, none⟩ (.map (some b))).setCell ⟨f.g, 4, none⟩ (.slice none 0 0)) f ⟨f.g, b, f.b2, none, 0⟩ := by
  have h1 := h.below hB
  have ho : Only w' ((w'.setCell ⟨f.g, 2, none⟩ (.map (some b))).setCell ⟨f.g, 4, none⟩ (.slice none 0 0)) (fun k => k = f.g) := Only.setCell (F := fun k => k = f.g) (Only.setCell (F := fun k => k = f.g) (Only.refl _ _) (.inl rfl) _) (.inl rfl) _
  have e1 : (doF s).l.length - (doF s).k = 0 := Nat.sub_self _
  have e2 : (doF s).l.take (doF s).k = s.l := List.take_of_length_le (Nat.le_refl _)
  have e3 : (doF s).l.drop (doF s).k = [] := List.drop_eq_nil_of_le (Nat.le_refl _)
  have hb2 := h.seen.lt
  have hBs := h.size
  refine ⟨⟨?_, ?_, h1.seen.only ho (fun e => h1.blk.ne_map h1.seen e.symm), ?_, h.ok.flush, ⟨h.low.1, Nat.le_trans hBs hb, h.low.2.2⟩, by simp only; omega⟩, ⟨((Only.of_below hB (Foot f)).trans ho (fun k _ hk => by subst hk; exact .inl rfl)), fun k hk => ?_, rfl⟩⟩
  · rw [e1]
    exact (h1.blk.set_ 2 (.map (some b))).set_ 4 (.slice none 0 0)
  · rw [e2]
    exact hm.only ho (fun e => h1.blk.ne_map hm e.symm)
  · rw [e1, e3]
    exact Own.nil _ _ _ _ _
  · rcases hk with rfl | rfl | rfl | hk
    · exact .inl (.inl rfl)
    · exact .inr hb
    · exact .inl (.inr (.inr (.inl rfl)))
    · simp [ownB] at hk

set_option maxHeartbeats 1000000 in
theorem flush_any (B : Nat) (f : Fp) (s : St) (w : World) (h : Sto w B f s) : Calls Try.prog 39 #[.pointer (some ⟨f.g, 0, none⟩)] w
    fun e w' => ∃ f', e = .returned (.tuple #[]) ∧ Sto w' B f' (doF s) ∧ Turned w w' f f' := by
  obtain ⟨⟨c0, c1, c2, c3, c4⟩, _⟩ := h.five
  have H := Lib.hid h
  have hc := clone_any f.b2 (Dof s.l) w h.seen
  clear h
  go_enter Try.func39, Try.ntmps39
  go_wp2_with fail
  refine hc.mono ?_
  rintro e w' ⟨rfl, hm, hB⟩
  have key := H.out.flushed _ (Nat.le_refl _) hm hB
  obtain ⟨⟨d0, d1, d2, d3, d4⟩, z0, z1, z2, z3, z4⟩ := (H.out.below hB).five
  have HK := Lib.hid key
  clear key c0 c1 c2 c3 c4 hc
  go_wp2_with fail
  go_end0
  exact ⟨_, rfl, HK.out⟩

set_option maxHeartbeats 1000000 in
theorem new_no (n room : Int) (w : World) (h : ¬ ((0 ≤ n ∧ n ≤ 4096) ∧ 0 ≤ room)) : Calls Try.prog 28 #[.int .i64 n, .int .i64 room] w
    fun e w' => e = .returned (.tuple #[.pointer none, .int .i64 1]) ∧ w' = w := by
  by_cases h1 : 0 ≤ n ∧ n ≤ 4096
  · have hr : room < 0 := by omega
    have hn : (decide (0 ≤ n) && decide (n ≤ 4096)) = true := by simp only [Bool.and_eq_true, decide_eq_true_eq]; exact h1
    have hc := sright_any n w
    rw [hn] at hc
    clear h h1 hn
    go_enter Try.func28, Try.ntmps28
    go_wp2_with fail
    refine hc.mono ?_
    rintro e w' ⟨rfl, rfl⟩
    go_wp2_with fail
    go_ret2
    exact ⟨rfl, rfl⟩
  · have hn : (decide (0 ≤ n) && decide (n ≤ 4096)) = false := by rw [Bool.eq_false_iff]; intro h2; simp only [Bool.and_eq_true, decide_eq_true_eq] at h2; exact h1 h2
    have hc := sright_any n w
    rw [hn] at hc
    clear h h1 hn
    go_enter Try.func28, Try.ntmps28
    go_wp2_with fail
    refine hc.mono ?_
    rintro e w' ⟨rfl, rfl⟩
    go_wp2_with fail
    go_ret2
    exact ⟨rfl, rfl⟩

theorem Sto.made (w : World) (n room : Int) (h : (0 ≤ n ∧ n ≤ 4096) ∧ 0 ≤ room) :
    Sto (((w.alloc (.map #[] 0)).alloc (.map #[] 0)).alloc (.cells #[.int .i64 n, .int .i64 room, .map (some w.heap.size), .map (some (w.heap.size + 1)), .slice none 0 0] 108)) w.heap.size ⟨w.heap.size + 2, w.heap.size, w.heap.size + 1, none, 0⟩ ⟨n, room, [], 0⟩ := by
  have hm1 : Mp (w.alloc (.map #[] 0)) w.heap.size (Dof []) := (World.ownsMap_made w Try.prog 3 secR).mono (by omega)
  have hm2 : Mp ((w.alloc (.map #[] 0)).alloc (.map #[] 0)) (w.heap.size + 1) (Dof []) := by
    have := (World.ownsMap_made (w.alloc (.map #[] 0)) Try.prog 3 secR).mono (n' := 4096) (by omega)
    rw [World.size_alloc] at this
    exact this
  refine ⟨?_, (hm1.alloc _).alloc _, hm2.alloc _, Own.nil _ _ _ _ _, ⟨h.1.1, h.1.2, h.2, Nat.le_refl _, by simp⟩, ⟨by simp, by simp, by simp⟩, by simp⟩
  have := Blk.new ((w.alloc (.map #[] 0)).alloc (.map #[] 0)) 108 #[.int .i64 n, .int .i64 room, .map (some w.heap.size), .map (some (w.heap.size + 1)), .slice none 0 0]
  simp only [World.size_alloc] at this
  exact this

set_option maxHeartbeats 1000000 in
theorem new_yes (n room : Int) (w : World) (h : (0 ≤ n ∧ n ≤ 4096) ∧ 0 ≤ room) : Calls Try.prog 28 #[.int .i64 n, .int .i64 room] w
    fun e w' => ∃ f, e = .returned (.tuple #[.pointer (some ⟨f.g, 0, none⟩), .int .i64 0]) ∧ Sto w' w.heap.size f ⟨n, room, [], 0⟩ ∧ Below w.heap.size w w' := by
  have hn : (decide (0 ≤ n) && decide (n ≤ 4096)) = true := by simp only [Bool.and_eq_true, decide_eq_true_eq]; exact h.1
  have hc := sright_any n w
  rw [hn] at hc
  have hr : ¬ room < 0 := by omega
  have H := Lib.hid (Sto.made w n room h)
  have hb : Below w.heap.size w (((w.alloc (.map #[] 0)).alloc (.map #[] 0)).alloc (.cells #[.int .i64 n, .int .i64 room, .map (some w.heap.size), .map (some (w.heap.size + 1)), .slice none 0 0] 108)) :=
    (((Below.refl _ _).alloc (Nat.le_refl _) _).alloc (by simp) _).alloc (by simp; omega) _
  have HB := Lib.hid hb
  have hmk : ∀ u : World, (Instr.makeMap 105 none).run Try.prog u = .ok (.map (some u.heap.size)) (u.alloc (.map #[] 0)) := fun u => rfl
  clear h hn hb
  go_enter Try.func28, Try.ntmps28
  go_wp2_with fail
  refine hc.mono ?_
  rintro e w' ⟨rfl, rfl⟩
  go_wp2_with fail
  go_ret2
  exact ⟨⟨_, _, _, none, 0⟩, rfl, H.out, HB.out⟩
end Go.Proofs.Ytbljacafmkdlmaa
