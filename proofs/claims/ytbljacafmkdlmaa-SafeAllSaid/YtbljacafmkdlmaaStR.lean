/- store.New, Read. Conditions: the numbers are int64's. -/
import Derived.Test.YtbljacafmkdlmaaSto
import Derived.Deep.WholeRow
namespace Go.Proofs.Ytbljacafmkdlmaa
set_option maxRecDepth 100000
open Go.RowKit
set_option linter.unusedSimpArgs false

theorem info_u8 : (Try.prog.info? 5).map (fun i => (i.zero, i.size, i.bytes)) = some (some (.int .u8 0), 1, 1) := by kernel_rfl
theorem info_int : (Try.prog.info? 3).map (fun i => (i.zero, i.size, i.bytes)) = some (some (.int .i64 0), 1, 8) := by kernel_rfl
theorem z16_cells : (bv z16).toArray = #[.int .u8 0, .int .u8 0, .int .u8 0, .int .u8 0, .int .u8 0, .int .u8 0, .int .u8 0, .int .u8 0, .int .u8 0, .int .u8 0, .int .u8 0, .int .u8 0, .int .u8 0, .int .u8 0, .int .u8 0, .int .u8 0] := rfl
theorem zero_sec (w : World) : (zeroValue 104).run Try.prog w = .ok (.agg (bv z16).toArray) w := by
  rw [z16_cells]
  obtain ⟨i, hi, hz⟩ : ∃ i, Try.prog.info? 104 = some i ∧ i.zero = some (.agg #[.int .u8 0, .int .u8 0, .int .u8 0, .int .u8 0, .int .u8 0, .int .u8 0, .int .u8 0, .int .u8 0, .int .u8 0, .int .u8 0, .int .u8 0, .int .u8 0, .int .u8 0, .int .u8 0, .int .u8 0, .int .u8 0]) := ⟨_, rfl, rfl⟩
  simp [zeroValue, typeInfo, hi, hz]
theorem lawI : Maps.Keyed Try.prog 3 := Maps.int_keyed Try.underlying3
theorem key_int (a : Int) (h : -9223372036854775808 ≤ a ∧ a ≤ 9223372036854775807) : keyOf Try.prog 3 (.int .i64 a) = some (keyL a) :=
  Maps.keyOf_int_mk Try.underlying3 (by simp [Lit.wf, IntKind.min, IntKind.max, IntKind.signed, IntKind.bits]; omega)
/-- m[k]. -/
theorem Mp.at_ {w : World} {b : Nat} {l : List Wrt} (h : Mp w b (Dof l)) (a : Int) (ha : -9223372036854775808 ≤ a ∧ a ≤ 9223372036854775807) :
    (Instr.lookup 105 (.map (some b)) (.int .i64 a) false).run Try.prog w = .ok (.agg (bv (sect l a)).toArray) w ∧ (sect l a).length = 16 := by
  obtain ⟨v, ps, hrun, hv⟩ := World.ownsMap.lookup h lawI Try.underlying105 (zero_sec w) (secR_mk (x := z16) rfl) (key_int a ha)
  rw [atKey_sect] at hv
  obtain ⟨x, hx, rfl, he⟩ := secR_inv hv
  have h1 := elD_inj (congrArg Prod.fst he)
  rw [h1]
  exact ⟨hrun, hx⟩
theorem cat_length {l : List Wrt} (h : ∀ x ∈ l, x.2.length = 16) (a : Int) : ∀ k : Nat, (cat l a k).length = 16 * k
  | 0 => rfl
  | k + 1 => by
    unfold cat
    have h1 : (sect l (a + k)).length = 16 := by
      unfold sect
      cases hl : lastW l (a + k) with
      | none => rfl
      | some x => exact h _ (lastW_mem hl)
    rw [List.length_append, cat_length h a k, h1]
    omega

/-- A new variable of an array type is given its sixteen bytes. -/
theorem store16 (w : World) (x : List UInt8) (hx : x.length = 16) (t : TypeId) : (storeCells ⟨w.heap.size, 0, none⟩ (bv x)).run Try.prog (w.alloc (.cells #[.int .u8 0, .int .u8 0, .int .u8 0, .int .u8 0, .int .u8 0, .int .u8 0, .int .u8 0, .int .u8 0, .int .u8 0, .int .u8 0, .int .u8 0, .int .u8 0, .int .u8 0, .int .u8 0, .int .u8 0, .int .u8 0] t)) = .ok () (w.alloc (.cells (bv x).toArray t)) := by
  have h := run_storeCells_row Try.prog w.heap.size 0 t 0 0 (bv x) 0 _ _ (heap_alloc_new w (.cells #[.int .u8 0, .int .u8 0, .int .u8 0, .int .u8 0, .int .u8 0, .int .u8 0, .int .u8 0, .int .u8 0, .int .u8 0, .int .u8 0, .int .u8 0, .int .u8 0, .int .u8 0, .int .u8 0, .int .u8 0, .int .u8 0] t)) (.inr (Nat.le_refl _)) (by rw [bv_length, hx]; simp) (bv_one x)
  rw [h, World.setRow_alloc_new]
  congr 4
  rw [bv_length, hx]
  simp

set_option maxHeartbeats 400000 in
theorem read_any (B : Nat) (f : Fp) (s : St) (w : World) (h : Sto w B f s) (at_ long : Int) (hb0 : -9223372036854775808 ≤ at_ ∧ at_ ≤ 9223372036854775807) (hb1 : long ≤ 9223372036854775807) :
    Calls Try.prog 20 #[.pointer (some ⟨f.g, 0, none⟩), .int .i64 at_, .int .i64 long] w
    fun e w' => ∃ A m c, e = .returned (.tuple #[.slice A m c, .int .i64 (rdS s at_ long).2]) ∧ (rdS s at_ long).1.length = m ∧ Own w' w.heap.size 5 1 A m c (bv (rdS s at_ long).1) ∧ Below w.heap.size w w' := by
  obtain ⟨i0, hi0, hz0, hz1, hz2⟩ := info_parts info_u8
  by_cases hl : long < 0
  · have e1 : rdS s at_ long = ([], 1) := by unfold rdS; rw [if_pos hl]
    rw [e1]
    clear h
    go_enter Try.func20, Try.ntmps20
    go_wp2_with fail
    go_ret2
    exact ⟨none, 0, 0, rfl, rfl, Own.nil _ _ _ _ _, Below.refl _ _⟩
  cases hi : insideB s.n at_ long
  · have e1 : rdS s at_ long = ([], 31) := by unfold rdS; rw [if_neg hl, if_pos hi]
    rw [e1]
    have hin := inside_any B f s w h at_ long (by omega)
    rw [hi] at hin
    clear h hi
    go_enter Try.func20, Try.ntmps20
    go_wp2_with fail
    refine hin.mono ?_
    rintro e w' ⟨rfl, rfl⟩
    go_wp2_with fail
    go_ret2
    exact ⟨none, 0, 0, rfl, rfl, Own.nil _ _ _ _ _, Below.refl _ _⟩
  have e1 : rdS s at_ long = (cat s.l at_ long.toNat, 0) := by unfold rdS; rw [if_neg hl, if_neg (by rw [hi]; simp)]
  rw [e1]
  have hof := insideB_of hi
  have hn1 := h.ok.n1
  obtain ⟨n, rfl⟩ := Int.eq_ofNat_of_zero_le (show 0 ≤ long by omega)
  have hin := inside_any B f s w h at_ n (by omega)
  rw [hi] at hin
  have hcl := cat_length (fun x hx => (h.ok.w x hx).2.2) at_ n
  have hn4 : n ≤ 4096 := by omega
  rw [Int.toNat_natCast]
  have hat : at_ + n ≤ 4096 := by omega
  clear e1 hi hn1 hl hb1
  go_enter Try.func20, Try.ntmps20
  go_wp2_with fail
  refine hin.mono ?_
  rintro e w' ⟨rfl, rfl⟩
  go_wp2_with fail
  go_loopw [8, 21] (fun v i wr => ∃ (k : Nat) (A' : Option Addr) (c' : Nat), k ≤ n ∧ i = .int .i64 k ∧ v = .slice A' (16 * k) c' ∧ Own wr w'.heap.size 5 1 A' (16 * k) c' (bv (cat s.l at_ k)) ∧ Below w'.heap.size w' wr)
    (fun _ i _ => n - (intOf i).toNat)
  case atStart => exact ⟨0, none, 0, Nat.zero_le _, rfl, rfl, Own.nil _ _ _ _ _, Below.refl _ _⟩
  case round =>
    obtain ⟨k, A', c', hk, rfl, rfl, hown, hbel⟩ := hrel
    by_cases hlt : k < n
    · have hr := h.below hbel
      obtain ⟨⟨c0, c1, c2, c3, c4⟩, _⟩ := hr.five
      have hlook := hr.seen.at_ (at_ + k) (by omega)
      have hcs : cat s.l at_ (k + 1) = cat s.l at_ k ++ sect s.l (at_ + k) := rfl
      obtain ⟨x, hx⟩ : ∃ x, x = sect s.l (at_ + k) := ⟨_, rfl⟩
      rw [← hx] at hlook hcs
      obtain ⟨hlook, hx16⟩ := hlook
      have hxv : (bv x).length = 16 := by rw [bv_length, hx16]
      have hst := fun (u : World) => store16 u x hx16
      have HCS := Lib.hid hcs
      clear hr hx hcs hx16
      have hsrc : Src Try.prog (wr.alloc (.cells (bv x).toArray 104)) 23 (.slice (some ⟨wr.heap.size, 0, none⟩) 16 16) 1 16 (bv x) := Src.slice Try.underlying23 (.inr ⟨_, 0, rfl, fun j u hu => by rw [Nat.zero_add, World.cell?_alloc_new]; simpa using hu⟩) (by omega) (bv_one x)
      go_wp2_with (at_builtin; refine wpList_app _ rfl _ _ 23 23 rfl w'.heap.size 5 i0 _ 1 1 Try.underlying23 hi0 hz0 hz1 hz2 rfl A' _ c' _ rfl (hown.alloc _) _ 16 _ rfl hsrc (by simp only [maxLen]; omega) (by omega) (by have := hbel.size; simp; omega) ?_; intro A3 c3 w3 hown3 hg3 hb3)
      go_roundw
      case rel => exact ⟨k + 1, A3, c3, by omega, by go_num, by rw [Nat.mul_succ], by rw [HCS.out, bv_append, Nat.mul_succ]; exact hown3, (hbel.alloc hbel.size _).grown hg3 (by have := hbel.size; simp; omega) (fun i hi => (hown.lt i hi).1)⟩
      case measure => simp [intOf]; omega
    · obtain rfl : k = n := by omega
      go_wp2_with fail
      go_ret2
      exact ⟨A', 16 * k, c', rfl, hcl, hown, hbel⟩
end Go.Proofs.Ytbljacafmkdlmaa
