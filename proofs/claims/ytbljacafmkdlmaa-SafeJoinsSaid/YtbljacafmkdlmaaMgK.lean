/- Several texts in one: Rst, Rsu. -/
import Derived.Test.YtbljacafmkdlmaaMgJ
/- pentimentoref03: a store as a row of writes; New, Sector, Used, inside, Read. Conditions: the lengths fit memory. -/
namespace Go.Proofs.Ytbljacafmkdlmaa
set_option maxRecDepth 100000
open Go.RowKit
set_option linter.unusedSimpArgs false

theorem sresults_row_tmp {P : Program} {fn : Func} {p u : Tmp} {ty : TypeId} (h : fn.results = #[.cell p ty, .tmp u]) (tmps : Array Value) (w : World) (g : Nat) (t : TypeId) (cs : Array Value) (fr : Nat × Nat) (d : TypeDesc)
    (hp : tmps.getD p undef = .pointer (some ⟨g, 0, none⟩)) (hg : w.heap[g]? = some (.cells cs t fr))
    (hu : P.underlying ty = some d) (hd : (match d with | .struct _ | .array _ _ => true | _ => false) = true) (hi : (P.info? ty).map (·.size) = some cs.size) :
    (results fn tmps).run P w = .ok (.tuple #[.agg cs, tmps.getD u undef]) w := by
  rw [results_cell_tmp h, hp]
  simp [asAddr, Result.andThen, run_loadVar_row w g t ty cs fr d hg hu hd hi]
theorem results_row_tmps {P : Program} {fn : Func} {p u v : Tmp} {ty : TypeId} (h : fn.results = #[.cell p ty, .tmp u, .tmp v]) (tmps : Array Value) (w : World) (g : Nat) (t : TypeId) (cs : Array Value) (fr : Nat × Nat) (d : TypeDesc)
    (hp : tmps.getD p undef = .pointer (some ⟨g, 0, none⟩)) (hg : w.heap[g]? = some (.cells cs t fr))
    (hu : P.underlying ty = some d) (hd : (match d with | .struct _ | .array _ _ => true | _ => false) = true) (hi : (P.info? ty).map (·.size) = some cs.size) :
    (results fn tmps).run P w = .ok (.tuple #[.agg cs, tmps.getD u undef, tmps.getD v undef]) w := by
  have hp' : tmps[p]?.getD undef = .pointer (some ⟨g, 0, none⟩) := by simpa using hp
  simp [results, h, hp', asAddr, run_loadVar_row w g t ty cs fr d hg hu hd hi]
theorem rst_info (a b c d : Value) : (Try.prog.info? 27).map (·.size) = some (#[a, b, c, d] : Array Value).size := by
  show _ = some 4
  kernel_rfl

def rcells (l : List Wrt) : List Value := l.flatMap fun x => [.int .i64 x.1, .string (str x.2)]
theorem rcells_nil : rcells [] = [] := rfl
theorem rcells_snoc (l : List Wrt) (x : Wrt) : rcells (l ++ [x]) = rcells l ++ [.int .i64 x.1, .string (str x.2)] := by simp [rcells]
theorem rcells_length (l : List Wrt) : (rcells l).length = l.length * 2 := by
  unfold rcells
  induction l with
  | nil => rfl
  | cons p l ih =>
    rw [List.flatMap_cons, List.length_append, ih]
    simp only [List.length_cons, List.length_nil]
    omega
theorem rcells_one (l : List Wrt) : ∀ u ∈ rcells l, u.oneCell' = true := by
  intro u hu
  obtain ⟨p, _, hp⟩ := List.mem_flatMap.1 hu
  simp only [List.mem_cons, List.not_mem_nil, or_false] at hp
  rcases hp with rfl | rfl <;> rfl
theorem rcells_at {l : List Wrt} {j : Nat} (hj : j < l.length) : (rcells l)[j * 2]? = some (.int .i64 l[j].1) ∧ (rcells l)[j * 2 + 1]? = some (.string (str l[j].2)) := by
  unfold rcells
  induction l generalizing j with
  | nil => simp at hj
  | cons p l ih =>
    rw [List.flatMap_cons]
    cases j with
    | zero => exact ⟨rfl, rfl⟩
    | succ j =>
      have h2 : ([.int .i64 p.1, .string (str p.2)] : List Value).length = 2 := rfl
      have := ih (by simpa using hj)
      rw [List.getElem?_append_right (by omega), List.getElem?_append_right (by omega), h2, show (j + 1) * 2 - 2 = j * 2 by omega, show (j + 1) * 2 + 1 - 2 = j * 2 + 1 by omega]
      exact this
theorem Row.rcell {w : World} {A : Option Addr} {l : List Wrt} (h : Row w A (rcells l)) {j : Nat} (hj : j < l.length) : ∃ g o, A = some ⟨g, o, none⟩ ∧ g < w.heap.size ∧ w.cell? ⟨g, o + j * 2, none⟩ = some (.int .i64 l[j].1) ∧ w.cell? ⟨g, o + j * 2 + 1, none⟩ = some (.string (str l[j].2)) := by
  obtain ⟨g, o, hA, hg, hc⟩ := h.at_ (by rw [rcells_length]; omega)
  exact ⟨g, o, hA, hg, hc _ _ (rcells_at hj).1, by rw [Nat.add_assoc]; exact hc _ _ (rcells_at hj).2⟩

theorem lastW_hit {l : List Wrt} {j : Nat} {a : Int} (hj : j < l.length) (h : lastW l a = lastW (l.take (j + 1)) a) (he : l[j].1 = a) : lastW l a = some l[j].2 := by
  rw [h, List.take_succ_eq_append_getElem hj, lastW_snoc, if_pos he]
theorem lastW_miss {l : List Wrt} {j : Nat} {a : Int} (hj : j < l.length) (h : lastW l a = lastW (l.take (j + 1)) a) (he : ¬ l[j].1 = a) : lastW l a = lastW (l.take j) a := by
  rw [h, List.take_succ_eq_append_getElem hj, lastW_snoc, if_neg he]

theorem make16 (u : World) : (Instr.makeSlice 23 (.int .i64 16) (.int .i64 16)).run Try.prog u = .ok (.slice (some ⟨u.heap.size, 0, none⟩) 16 16) (u.alloc (.cells #[.int .u8 0, .int .u8 0, .int .u8 0, .int .u8 0, .int .u8 0, .int .u8 0, .int .u8 0, .int .u8 0, .int .u8 0, .int .u8 0, .int .u8 0, .int .u8 0, .int .u8 0, .int .u8 0, .int .u8 0, .int .u8 0] 5)) := by
  obtain ⟨i0, hi0, hz0, hz1, hz2⟩ := info_parts info_u8
  have h := run_makeSlice (P := Try.prog) u 23 5 i0 (.int .u8 0) Try.underlying23 hi0 hz0 .i64 .i64 16 16 (by omega) (by omega) (by rw [hz1]; decide) (by rw [hz2]; decide) (by omega)
  rw [hz1] at h
  have e : madeCells (Value.int .u8 0).cells (Int.toNat 16 * 1) = #[.int .u8 0, .int .u8 0, .int .u8 0, .int .u8 0, .int .u8 0, .int .u8 0, .int .u8 0, .int .u8 0, .int .u8 0, .int .u8 0, .int .u8 0, .int .u8 0, .int .u8 0, .int .u8 0, .int .u8 0, .int .u8 0] := by kernel_rfl
  rw [e] at h
  exact h

/-- The document's store, as a value. -/
def rsv (n room : Int) (A : Option Addr) (m c k : Nat) : Array Value := #[.int .i64 n, .int .i64 room, .slice A m c, .int .i64 k]

set_option maxHeartbeats 1000000 in
theorem rSector_any (n room : Int) (A : Option Addr) (m c k : Nat) (l : List Wrt) (a : Int) (w : World) (hm : l.length = m) (hr : Row w A (rcells l)) (hsz : m ≤ 9000000000000000000) :
    Calls Try.prog 54 #[.agg #[.int .i64 n, .int .i64 room, .slice A m c, .int .i64 k], .int .i64 a] w fun e w' => e = .returned (.tuple #[.string (str (sect l a)), .bool (lastW l a).isSome]) ∧ Below w.heap.size w w' := by
  have hb0 : Below w.heap.size w (w.alloc (.cells #[.int .i64 n, .int .i64 room, .slice A m c, .int .i64 k] 27)) := (Below.refl _ _).alloc (Nat.le_refl _) _
  have hra := hr.alloc (.cells #[.int .i64 n, .int .i64 room, .slice A m c, .int .i64 k] 27)
  have HM := Lib.hid hm
  have HB := Lib.hid hb0
  clear hm hb0
  go_enter Try.func54, Try.ntmps54
  go_wp2_with fail
  go_loop [6] (fun i => ∃ j : Nat, j ≤ m ∧ i = .int .i64 ((j : Int) - 1) ∧ lastW l a = lastW (l.take j) a) (fun i => (intOf i + 1).toNat)
  case atStart => exact ⟨m, Nat.le_refl _, rfl, by rw [List.take_of_length_le (by rw [HM.out]; exact Nat.le_refl _)]⟩
  case round =>
    obtain ⟨j, hj, rfl, hla⟩ := hrel
    have HLA := Lib.hid hla
    clear hla
    cases j with
    | zero =>
      have hl0 : lastW l a = none := HLA.out
      have hx : sect l a = z16 := by unfold sect; rw [hl0]; rfl
      have HX := Lib.hid hx
      have HL0 := Lib.hid hl0
      have hcv := (fun (u : World) => run_string (P := Try.prog) (l := z16) (n := 16) rfl 23 9 5 (A := some ⟨u.heap.size, 0, none⟩) (c := 16) Try.underlying23 Try.underlying5 Try.underlying9 (w := u.alloc (.cells #[.int .u8 0, .int .u8 0, .int .u8 0, .int .u8 0, .int .u8 0, .int .u8 0, .int .u8 0, .int .u8 0, .int .u8 0, .int .u8 0, .int .u8 0, .int .u8 0, .int .u8 0, .int .u8 0, .int .u8 0, .int .u8 0] 5)) (.inr ⟨_, 0, rfl, fun j u hu => by rw [Nat.zero_add, World.cell?_alloc_new]; simpa [bv, z16] using hu⟩)) (w.alloc (.cells #[.int .i64 n, .int .i64 room, .slice A m c, .int .i64 k] 27))
      simp only [World.size_alloc] at hcv
      clear hl0 hx
      have hmk := make16
      go_wp2_with fail
      go_ret2
      rw [HX.out, HL0.out]
      exact ⟨rfl, HB.out.alloc HB.out.size _⟩
    | succ j =>
      have hjl : j < l.length := by rw [HM.out]; omega
      obtain ⟨g, o, rfl, hg, hc0, hc1⟩ := hra.rcell hjl
      have hhit := lastW_hit hjl HLA.out
      have hmiss := lastW_miss hjl HLA.out
      obtain ⟨y, hy⟩ : ∃ y, y = l[j] := ⟨_, rfl⟩
      obtain ⟨ya, yx⟩ := y
      rw [← hy] at hc0 hc1 hhit hmiss
      have HH := Lib.hid hhit
      have HMS := Lib.hid hmiss
      simp only at hc0 hc1
      clear hhit hmiss hy
      by_cases he : ya = a
      · have h1 := HH.out he
        have hx : sect l a = yx := by unfold sect; rw [h1]; rfl
        have HX := Lib.hid hx
        have HL0 := Lib.hid h1
        clear h1 hx
        go_wp2_with fail
        go_ret2
        rw [HX.out, HL0.out]
        exact ⟨rfl, HB.out⟩
      · go_wp2_with fail
        go_round
        case rel => exact ⟨j, by omega, by go_num, HMS.out he⟩
        case measure => simp [intOf]
end Go.Proofs.Ytbljacafmkdlmaa

/- pentimentoref03: New, Used, inside, Read. Conditions: the lengths fit memory. -/
namespace Go.Proofs.Ytbljacafmkdlmaa
set_option maxRecDepth 100000
open Go.RowKit
set_option linter.unusedSimpArgs false

theorem Blk.four {w : World} {g : Nat} {t : TypeId} {a b c d : Value} (h : Blk w g t #[a, b, c, d]) : (w.cell? ⟨g, 0, none⟩ = some a ∧ w.cell? ⟨g, 1, none⟩ = some b ∧ w.cell? ⟨g, 2, none⟩ = some c ∧ w.cell? ⟨g, 3, none⟩ = some d) ∧ (w.frozen? ⟨g, 0, none⟩ = false ∧ w.frozen? ⟨g, 1, none⟩ = false ∧ w.frozen? ⟨g, 2, none⟩ = false ∧ w.frozen? ⟨g, 3, none⟩ = false) :=
  ⟨⟨h.cell 0, h.cell 1, h.cell 2, h.cell 3⟩, h.frozen 0, h.frozen 1, h.frozen 2, h.frozen 3⟩

def mayN (n room : Int) : Bool := decide (0 ≤ n) && decide (n ≤ 4096) && decide (0 ≤ room)
set_option maxHeartbeats 1000000 in
theorem rNew_any (n room : Int) (w : World) : Calls Try.prog 31 #[.int .i64 n, .int .i64 room] w
    fun e w' => e = .returned (.tuple #[.agg #[.int .i64 n, .int .i64 room, .slice none 0 0, .int .i64 0], .bool (mayN n room)]) ∧ Below w.heap.size w w' := by
  have hb : ∀ o, Below w.heap.size w (w.alloc o) := fun o => (Below.refl _ _).alloc (Nat.le_refl _) o
  unfold mayN
  by_cases h1 : 0 ≤ n
  · by_cases h2 : n ≤ 4096
    · by_cases h3 : 0 ≤ room
      all_goals
        go_enter Try.func31, Try.ntmps31
        go_wp2_with fail
        refine bodyPost_ret (sresults_row_tmp rfl _ _ _ 27 _ (0, 0) _ rfl (Blk.new w _ _) Try.underlying27 rfl (rst_info _ _ _ _)) rfl ?_
        exact ⟨by simp [h1, h2, h3] <;> omega, hb _⟩
    · go_enter Try.func31, Try.ntmps31
      go_wp2_with fail
      refine bodyPost_ret (sresults_row_tmp rfl _ _ _ 27 _ (0, 0) _ rfl (Blk.new w _ _) Try.underlying27 rfl (rst_info _ _ _ _)) rfl ?_
      exact ⟨by simp [h1, h2] <;> omega, hb _⟩
  · go_enter Try.func31, Try.ntmps31
    go_wp2_with fail
    refine bodyPost_ret (sresults_row_tmp rfl _ _ _ 27 _ (0, 0) _ rfl (Blk.new w _ _) Try.underlying27 rfl (rst_info _ _ _ _)) rfl ?_
    exact ⟨by simp [h1] <;> omega, hb _⟩

set_option maxHeartbeats 1000000 in
theorem rInside_any (n room : Int) (A : Option Addr) (m c : Nat) (k : Int) (a long : Int) (w : World) (hn : 0 ≤ n ∧ n ≤ 4096) (hl : 0 ≤ long) : Calls Try.prog 53 #[.agg #[.int .i64 n, .int .i64 room, .slice A m c, .int .i64 k], .int .i64 a, .int .i64 long] w
    fun e w' => e = .returned (.bool (insideB n a long)) ∧ Below w.heap.size w w' := by
  have hb : ∀ o, Below w.heap.size w (w.alloc o) := fun o => (Below.refl _ _).alloc (Nat.le_refl _) o
  have key : ∀ x, (x = true ↔ (0 ≤ a ∧ a ≤ n) ∧ long ≤ n - a) → x = insideB n a long := fun x hx => by
    rw [insideB_ref hl, Bool.eq_iff_iff, hx]
    simp only [Bool.and_eq_true, decide_eq_true_eq]
  have HK := Lib.hid key
  clear key
  by_cases h1 : 0 ≤ a
  · by_cases h2 : a ≤ n
    · by_cases h3 : long ≤ n - a
      all_goals
        go_enter Try.func53, Try.ntmps53
        go_wp2_with fail
        go_ret
        exact ⟨ret_bool (HK.out _ (by simp <;> omega)), hb _⟩
    · go_enter Try.func53, Try.ntmps53
      go_wp2_with fail
      go_ret
      exact ⟨ret_bool (HK.out _ (by simp <;> omega)), hb _⟩
  · go_enter Try.func53, Try.ntmps53
    go_wp2_with fail
    go_ret
    exact ⟨ret_bool (HK.out _ (by simp <;> omega)), hb _⟩

theorem usedN_step (l : List Wrt) (k : Nat) : usedN l (k + 1) = usedN l k + if (lastW l k).isSome then 1 else 0 := rfl

set_option maxHeartbeats 1000000 in
theorem rUsed_any (n : Nat) (room : Int) (A : Option Addr) (m c k : Nat) (l : List Wrt) (w : World) (hn : n ≤ 4096) (hm : l.length = m) (hr : Row w A (rcells l)) (hsz : m ≤ 9000000000000000000) :
    Calls Try.prog 78 #[.agg #[.int .i64 n, .int .i64 room, .slice A m c, .int .i64 k]] w fun e w' => e = .returned (.int .i64 (usedN l n : Nat)) ∧ Below w.heap.size w w' := by
  have hb0 : Below w.heap.size w (w.alloc (.cells #[.int .i64 n, .int .i64 room, .slice A m c, .int .i64 k] 27)) := (Below.refl _ _).alloc (Nat.le_refl _) _
  have hra := hr.alloc (.cells #[.int .i64 n, .int .i64 room, .slice A m c, .int .i64 k] 27)
  have hblk := Blk.new w 27 #[.int .i64 n, .int .i64 room, .slice A m c, .int .i64 k]
  have hsec := fun (a : Int) u hu => rSector_any n room A m c k l a u hm hu hsz
  have HS := Lib.hid hsec
  clear hm hsec hr
  go_enter Try.func78, Try.ntmps78
  go_wp2_with fail
  go_loopw [3, 4] (fun v i wr => ∃ j : Nat, j ≤ n ∧ i = .int .i64 j ∧ v = .int .i64 (usedN l j : Nat) ∧ Below (w.alloc (.cells #[.int .i64 n, .int .i64 room, .slice A m c, .int .i64 k] 27)).heap.size (w.alloc (.cells #[.int .i64 n, .int .i64 room, .slice A m c, .int .i64 k] 27)) wr)
    (fun _ i _ => n - (intOf i).toNat)
  case atStart => exact ⟨0, Nat.zero_le _, rfl, rfl, Below.refl _ _⟩
  case round =>
    obtain ⟨j, hj, rfl, rfl, hbel⟩ := hrel
    have hblk1 := hblk.belowAll hbel
    have hr1 := hra.below hbel
    obtain ⟨⟨c0, c1, c2, c3⟩, _⟩ := hblk1.four
    by_cases hlt : j < n
    · have hle := usedN_le l j
      have hstep := usedN_step l j
      obtain ⟨U, hU⟩ : ∃ U, U = usedN l j := ⟨_, rfl⟩
      obtain ⟨U2, hU2⟩ : ∃ U2, U2 = usedN l (j + 1) := ⟨_, rfl⟩
      rw [← hU] at hle hstep ⊢
      rw [← hU2] at hstep
      have HU2 := Lib.hid hU2
      clear hU hU2
      have hcall := HS.out (j : Int) wr hr1
      obtain ⟨sx, hsx⟩ : ∃ sx, sx = str (sect l (j : Int)) := ⟨_, rfl⟩
      rw [← hsx] at hcall
      cases hs : (lastW l (j : Int)).isSome
      · rw [hs] at hstep hcall
        rw [if_neg (by simp)] at hstep
        have HSTEP := Lib.hid hstep
        clear hs hstep hsx
        go_wp2_with fail
        refine hcall.mono ?_
        rintro e w2 ⟨rfl, hb2⟩
        go_wp2_with fail
        go_roundw
        case rel => exact ⟨j + 1, by omega, by go_num, by rw [← HU2.out, HSTEP.out]; rfl, below_all hbel hb2⟩
        case measure => simp [intOf]; omega
      · rw [hs] at hstep hcall
        rw [if_pos rfl] at hstep
        have HSTEP := Lib.hid hstep
        clear hs hstep hsx
        go_wp2_with fail
        refine hcall.mono ?_
        rintro e w2 ⟨rfl, hb2⟩
        go_wp2_with fail
        go_roundw
        case rel => exact ⟨j + 1, by omega, by go_num, by rw [← HU2.out, HSTEP.out]; go_num, below_all hbel hb2⟩
        case measure => simp [intOf]; omega
    · obtain rfl : j = n := by omega
      go_wp2_with fail
      go_ret
      exact ⟨rfl, below_all hb0 hbel⟩

set_option maxHeartbeats 1000000 in
theorem rRead_any (n room : Int) (A : Option Addr) (m c k : Nat) (l : List Wrt) (a long : Int) (w : World) (hn : 0 ≤ n ∧ n ≤ 4096) (hm : l.length = m) (hr : Row w A (rcells l)) (hsz : m ≤ 9000000000000000000) (h16 : ∀ x ∈ l, x.2.length = 16) (hl : long ≤ 9223372036854775807) :
    Calls Try.prog 21 #[.agg #[.int .i64 n, .int .i64 room, .slice A m c, .int .i64 k], .int .i64 a, .int .i64 long] w
      fun e w' => e = .returned (.tuple #[.string (str (rdS ⟨n, room, l, k⟩ a long).1), .int .i64 (rdS ⟨n, room, l, k⟩ a long).2]) ∧ Below w.heap.size w w' := by
  have hb0 : Below w.heap.size w (w.alloc (.cells #[.int .i64 n, .int .i64 room, .slice A m c, .int .i64 k] 27)) := (Below.refl _ _).alloc (Nat.le_refl _) _
  by_cases hneg : long < 0
  · have e1 : rdS ⟨n, room, l, k⟩ a long = ([], 1) := by unfold rdS; rw [if_pos hneg]
    have E1 := Lib.hid e1
    clear hm hr e1
    go_enter Try.func21, Try.ntmps21
    go_wp2_with fail
    go_ret2
    rw [E1.out]
    exact ⟨rfl, hb0⟩
  cases hi : insideB n a long
  · have e1 : rdS ⟨n, room, l, k⟩ a long = ([], 31) := by unfold rdS; rw [if_neg hneg, if_pos hi]
    have E1 := Lib.hid e1
    have hin := fun u => rInside_any n room A m c k a long u hn (by omega)
    simp only [hi] at hin
    clear hm hr e1 hi
    go_enter Try.func21, Try.ntmps21
    go_wp2_with fail
    refine (hin _).mono ?_
    rintro e w1 ⟨rfl, hb1⟩
    go_wp2_with fail
    go_ret2
    rw [E1.out]
    exact ⟨rfl, below_all hb0 hb1⟩
  have e1 : rdS ⟨n, room, l, k⟩ a long = (cat l a long.toNat, 0) := by unfold rdS; rw [if_neg hneg, if_neg (by rw [hi]; simp)]
  have hof := insideB_of hi
  have hra := hr.alloc (.cells #[.int .i64 n, .int .i64 room, .slice A m c, .int .i64 k] 27)
  have hblk := Blk.new w 27 #[.int .i64 n, .int .i64 room, .slice A m c, .int .i64 k]
  have hsec := fun (a : Int) u hu => rSector_any n room A m c k l a u hm hu hsz
  have hin := fun u => rInside_any n room A m c k a long u hn (by omega)
  simp only [hi] at hin
  obtain ⟨N, rfl⟩ := Int.eq_ofNat_of_zero_le (show 0 ≤ long by omega)
  rw [Int.toNat_natCast] at e1
  have hN : N ≤ 4096 := by omega
  have haN : a + N ≤ 4096 := by omega
  have hcl := fun j => cat_length h16 a j
  have hs16 : ∀ x, (sect l x).length = 16 := fun x => by
    unfold sect
    cases hx : lastW l x with
    | none => rfl
    | some y => exact h16 _ (lastW_mem hx)
  have E1 := Lib.hid e1
  have HS := Lib.hid hsec
  have HCL := Lib.hid hcl
  have HS16 := Lib.hid hs16
  clear hm hr e1 hi hsec hcl hs16
  go_enter Try.func21, Try.ntmps21
  go_wp2_with fail
  refine (hin _).mono ?_
  rintro e w1 ⟨rfl, hb1⟩
  have hblk1 := hblk.belowAll hb1
  have hra1 := hra.below hb1
  go_wp2_with fail
  go_loopw [8, 9] (fun v i wr => ∃ j : Nat, j ≤ N ∧ i = .int .i64 j ∧ v = .string (str (cat l a j)) ∧ Below w1.heap.size w1 wr)
    (fun _ i _ => N - (intOf i).toNat)
  case atStart => exact ⟨0, Nat.zero_le _, rfl, rfl, Below.refl _ _⟩
  case round =>
    obtain ⟨j, hj, rfl, rfl, hbel⟩ := hrel
    have hblk2 := hblk1.belowAll hbel
    have hr2 := hra1.below hbel
    obtain ⟨⟨c0, c1, c2, c3⟩, _⟩ := hblk2.four
    by_cases hlt : j < N
    · have hcat := fun (u : World) => run_cat (P := Try.prog) (cat l a j) (sect l (a + j)) (by rw [HCL.out, HS16.out]; omega) u
      have hcs : cat l a (j + 1) = cat l a j ++ sect l (a + j) := rfl
      have hcall := HS.out (a + (j : Int)) wr hr2
      obtain ⟨x, hx⟩ : ∃ x, x = sect l (a + (j : Int)) := ⟨_, rfl⟩
      obtain ⟨y, hy⟩ : ∃ y, y = cat l a j := ⟨_, rfl⟩
      obtain ⟨is, his⟩ : ∃ is, is = (lastW l (a + (j : Int))).isSome := ⟨_, rfl⟩
      rw [← hx, ← his] at hcall
      rw [← hx, ← hy] at hcs hcat
      rw [← hy]
      have HCS := Lib.hid hcs
      clear hx hy his hcs
      go_wp2_with fail
      refine hcall.mono ?_
      rintro e w2 ⟨rfl, hb2⟩
      go_wp2_with fail
      go_roundw
      case rel => exact ⟨j + 1, by omega, by go_num, by rw [HCS.out], below_all hbel hb2⟩
      case measure => simp [intOf]; omega
    · obtain rfl : j = N := by omega
      go_wp2_with fail
      go_ret2
      rw [E1.out]
      exact ⟨rfl, below_all (below_all hb0 hb1) hbel⟩
end Go.Proofs.Ytbljacafmkdlmaa
