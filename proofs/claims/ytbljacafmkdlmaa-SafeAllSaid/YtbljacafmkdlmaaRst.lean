/- pentimentoref03: a store as a row of writes; New, Sector, Used, inside, Read. Conditions: the lengths fit memory. -/
import Derived.Test.YtbljacafmkdlmaaStV
namespace Go.Proofs.Ytbljacafmkdlmaa
set_option maxRecDepth 100000
open Go.RowKit
set_option linter.unusedSimpArgs false

theorem sresults_row_tmp {P : Program} {fn : Func} {p u : Tmp} {ty : TypeId} (h : fn.results = #[.cell p ty, .tmp u]) (tmps : Array Value) (w : World) (g : Nat) (t : TypeId) (cs : Array Value) (fr : Nat × Nat) (d : TypeDesc)
    (hp : tmps.getD p undef = .pointer (some ⟨g, 0, none⟩)) (hg : w.heap[g]? = some (.cells cs t fr))
    (hu : P.underlying ty = some d) (hd : (match d with | .struct _ | .array _ _ => true | _ => false) = true) (hi : (P.info? ty).map (·.size) = some cs.size) :
    (results fn tmps).run P w = .ok (.tuple #[.agg cs, tmps.getD u undef]) w := by
  rw [results_cell_tmp h, hp]
  simp [asAddr, Result.andThen, run_loadVar_row w g t ty cs fr d hg hu hd hi]
theorem results_row_tmps {P : Program} {fn : Func} {p u v : Tmp} {ty : TypeId} (h : fn.results = #[.cell p ty, .tmp u, .tmp v]) (tmps : Array Value) (w : World) (g : Nat) (t : TypeId) (cs : Array Value) (fr : Nat × Nat) (d : TypeDesc)
    (hp : tmps.getD p undef = .pointer (some ⟨g, 0, none⟩)) (hg : w.heap[g]? = some (.cells cs t fr))
    (hu : P.underlying ty = some d) (hd : (match d with | .struct _ | .array _ _ => true | _ => false) = true) (hi : (P.info? ty).map (·.size) = some cs.size) :
    (results fn tmps).run P w = .ok (.tuple #[.agg cs, tmps.getD u undef, tmps.getD v undef]) w := by
  have hp' : tmps[p]?.getD undef = .pointer (some ⟨g, 0, none⟩) := by simpa using hp
  simp [results, h, hp', asAddr, run_loadVar_row w g t ty cs fr d hg hu hd hi]
theorem rst_info (a b c d : Value) : (Try.prog.info? 27).map (·.size) = some (#[a, b, c, d] : Array Value).size := by
  show _ = some 4
  kernel_rfl

def rcells (l : List Wrt) : List Value := l.flatMap fun x => [.int .i64 x.1, .string (str x.2)]
theorem rcells_nil : rcells [] = [] := rfl
theorem rcells_snoc (l : List Wrt) (x : Wrt) : rcells (l ++ [x]) = rcells l ++ [.int .i64 x.1, .string (str x.2)] := by simp [rcells]
theorem rcells_length (l : List Wrt) : (rcells l).length = l.length * 2 := by
  unfold rcells
  induction l with
  | nil => rfl
  | cons p l ih =>
    rw [List.flatMap_cons, List.length_append, ih]
    simp only [List.length_cons, List.length_nil]
    omega
theorem rcells_one (l : List Wrt) : ∀ u ∈ rcells l, u.oneCell' = true := by
  intro u hu
  obtain ⟨p, _, hp⟩ := List.mem_flatMap.1 hu
  simp only [List.mem_cons, List.not_mem_nil, or_false] at hp
  rcases hp with rfl | rfl <;> rfl
theorem rcells_at {l : List Wrt} {j : Nat} (hj : j < l.length) : (rcells l)[j * 2]? = some (.int .i64 l[j].1) ∧ (rcells l)[j * 2 + 1]? = some (.string (str l[j].2)) := by
  unfold rcells
  induction l generalizing j with
  | nil => simp at hj
  | cons p l ih =>
    rw [List.flatMap_cons]
    cases j with
    | zero => exact ⟨rfl, rfl⟩
    | succ j =>
      have h2 : ([.int .i64 p.1, .string (str p.2)] : List Value).length = 2 := rfl
      have := ih (by simpa using hj)
      rw [List.getElem?_append_right (by omega), List.getElem?_append_right (by omega), h2, show (j + 1) * 2 - 2 = j * 2 by omega, show (j + 1) * 2 + 1 - 2 = j * 2 + 1 by omega]
      exact this
theorem Row.rcell {w : World} {A : Option Addr} {l : List Wrt} (h : Row w A (rcells l)) {j : Nat} (hj : j < l.length) : ∃ g o, A = some ⟨g, o, none⟩ ∧ g < w.heap.size ∧ w.cell? ⟨g, o + j * 2, none⟩ = some (.int .i64 l[j].1) ∧ w.cell? ⟨g, o + j * 2 + 1, none⟩ = some (.string (str l[j].2)) := by
  obtain ⟨g, o, hA, hg, hc⟩ := h.at_ (by rw [rcells_length]; omega)
  exact ⟨g, o, hA, hg, hc _ _ (rcells_at hj).1, by rw [Nat.add_assoc]; exact hc _ _ (rcells_at hj).2⟩

theorem lastW_hit {l : List Wrt} {j : Nat} {a : Int} (hj : j < l.length) (h : lastW l a = lastW (l.take (j + 1)) a) (he : l[j].1 = a) : lastW l a = some l[j].2 := by
  rw [h, List.take_succ_eq_append_getElem hj, lastW_snoc, if_pos he]
theorem lastW_miss {l : List Wrt} {j : Nat} {a : Int} (hj : j < l.length) (h : lastW l a = lastW (l.take (j + 1)) a) (he : ¬ l[j].1 = a) : lastW l a = lastW (l.take j) a := by
  rw [h, List.take_succ_eq_append_getElem hj, lastW_snoc, if_neg he]

theorem make16 (u : World) : (Instr.makeSlice 23 (.int .i64 16) (.int .i64 16)).run Try.prog u = .ok (.slice (some ⟨u.heap.size, 0, none⟩) 16 16) (u.alloc (.cells #[.int .u8 0, .int .u8 0, .int .u8 0, .int .u8 0, .int .u8 0, .int .u8 0, .int .u8 0, .int .u8 0, .int .u8 0, .int .u8 0, .int .u8 0, .int .u8 0, .int .u8 0, .int .u8 0, .int .u8 0, .int .u8 0] 5)) := by
  obtain ⟨i0, hi0, hz0, hz1, hz2⟩ := info_parts info_u8
  have h := run_makeSlice (P := Try.prog) u 23 5 i0 (.int .u8 0) Try.underlying23 hi0 hz0 .i64 .i64 16 16 (by omega) (by omega) (by rw [hz1]; decide) (by rw [hz2]; decide) (by omega)
  rw [hz1] at h
  have e : madeCells (Value.int .u8 0).cells (Int.toNat 16 * 1) = #[.int .u8 0, .int .u8 0, .int .u8 0, .int .u8 0, .int .u8 0, .int .u8 0, .int .u8 0, .int .u8 0, .int .u8 0, .int .u8 0, .int .u8 0, .int .u8 0, .int .u8 0, .int .u8 0, .int .u8 0, .int .u8 0] := by kernel_rfl
  rw [e] at h
  exact h

/-- The document's store, as a value. -/
def rsv (n room : Int) (A : Option Addr) (m c k : Nat) : Array Value := #[.int .i64 n, .int .i64 room, .slice A m c, .int .i64 k]

set_option maxHeartbeats 1000000 in
theorem rSector_any (n room : Int) (A : Option Addr) (m c k : Nat) (l : List Wrt) (a : Int) (w : World) (hm : l.length = m) (hr : Row w A (rcells l)) (hsz : m ≤ 9000000000000000000) :
    Calls Try.prog 54 #[.agg #[.int .i64 n, .int .i64 room, .slice A m c, .int .i64 k], .int .i64 a] w fun e w' => e = .returned (.tuple #[.string (str (sect l a)), .bool (lastW l a).isSome]) ∧ Below w.heap.size w w' := by
  have hb0 : Below w.heap.size w (w.alloc (.cells #[.int .i64 n, .int .i64 room, .slice A m c, .int .i64 k] 27)) := (Below.refl _ _).alloc (Nat.le_refl _) _
  have hra := hr.alloc (.cells #[.int .i64 n, .int .i64 room, .slice A m c, .int .i64 k] 27)
  have HM := Lib.hid hm
  have HB := Lib.hid hb0
  clear hm hb0
  go_enter Try.func54, Try.ntmps54
  go_wp2_with fail
  go_loop [6] (fun i => ∃ j : Nat, j ≤ m ∧ i = .int .i64 ((j : Int) - 1) ∧ lastW l a = lastW (l.take j) a) (fun i => (intOf i + 1).toNat)
  case atStart => exact ⟨m, Nat.le_refl _, rfl, by rw [List.take_of_length_le (by rw [HM.out]; exact Nat.le_refl _)]⟩
  case round =>
    obtain ⟨j, hj, rfl, hla⟩ := hrel
    have HLA := Lib.hid hla
    clear hla
    cases j with
    | zero =>
      have hl0 : lastW l a = none := HLA.out
      have hx : sect l a = z16 := by unfold sect; rw [hl0]; rfl
      have HX := Lib.hid hx
      have HL0 := Lib.hid hl0
      have hcv := (fun (u : World) => run_string (P := Try.prog) (l := z16) (n := 16) rfl 23 9 5 (A := some ⟨u.heap.size, 0, none⟩) (c := 16) Try.underlying23 Try.underlying5 Try.underlying9 (w := u.alloc (.cells #[.int .u8 0, .int .u8 0, .int .u8 0, .int .u8 0, .int .u8 0, .int .u8 0, .int .u8 0, .int .u8 0, .int .u8 0, .int .u8 0, .int .u8 0, .int .u8 0, .int .u8 0, .int .u8 0, .int .u8 0, .int .u8 0] 5)) (.inr ⟨_, 0, rfl, fun j u hu => by rw [Nat.zero_add, World.cell?_alloc_new]; simpa [bv, z16] using hu⟩)) (w.alloc (.cells #[.int .i64 n, .int .i64 room, .slice A m c, .int .i64 k] 27))
      simp only [World.size_alloc] at hcv
      clear hl0 hx
      have hmk := make16
      go_wp2_with fail
      go_ret2
      rw [HX.out, HL0.out]
      exact ⟨rfl, HB.out.alloc HB.out.size _⟩
    | succ j =>
      have hjl : j < l.length := by rw [HM.out]; omega
      obtain ⟨g, o, rfl, hg, hc0, hc1⟩ := hra.rcell hjl
      have hhit := lastW_hit hjl HLA.out
      have hmiss := lastW_miss hjl HLA.out
      obtain ⟨y, hy⟩ : ∃ y, y = l[j] := ⟨_, rfl⟩
      obtain ⟨ya, yx⟩ := y
      rw [← hy] at hc0 hc1 hhit hmiss
      have HH := Lib.hid hhit
      have HMS := Lib.hid hmiss
      simp only at hc0 hc1
      clear hhit hmiss hy
      by_cases he : ya = a
      · have h1 := HH.out he
        have hx : sect l a = yx := by unfold sect; rw [h1]; rfl
        have HX := Lib.hid hx
        have HL0 := Lib.hid h1
        clear h1 hx
        go_wp2_with fail
        go_ret2
        rw [HX.out, HL0.out]
        exact ⟨rfl, HB.out⟩
      · go_wp2_with fail
        go_round
        case rel => exact ⟨j, by omega, by go_num, HMS.out he⟩
        case measure => simp [intOf]
end Go.Proofs.Ytbljacafmkdlmaa
