/- pentimentoref01: End, Skip, ReadNum, ReadText, Read. Conditions: none but that the text is an int's length. -/
import Derived.Test.YtbljacafmkdlmaaRdr
import Derived.Test.YtbljacafmkdlmaaMgD
import Derived.Laws.ResultCell
import Derived.Laws.Rows
namespace Go.Proofs.Ytbljacafmkdlmaa
open Go.RowKit

/-- A ref.Reader. -/
def rv (l : List UInt8) (e : Int) : Value := .agg #[.string (str l), .int .i64 e]

theorem results_row_tmp {P : Program} {fn : Func} {p u : Tmp} {ty : TypeId} (h : fn.results = #[.cell p ty, .tmp u]) (tmps : Array Value) (w : World) (g : Nat) (t : TypeId) (cs : Array Value) (fr : Nat × Nat) (d : TypeDesc)
    (hp : tmps.getD p undef = .pointer (some ⟨g, 0, none⟩)) (hg : w.heap[g]? = some (.cells cs t fr))
    (hu : P.underlying ty = some d) (hd : (match d with | .struct _ | .array _ _ => true | _ => false) = true) (hi : (P.info? ty).map (·.size) = some cs.size) :
    (results fn tmps).run P w = .ok (.tuple #[.agg cs, tmps.getD u undef]) w := by
  rw [results_cell_tmp h, hp]
  simp [asAddr, Result.andThen, run_loadVar_row w g t ty cs fr d hg hu hd hi]
theorem results_row_row {P : Program} {fn : Func} {p u : Tmp} {ty ty2 : TypeId} (h : fn.results = #[.cell p ty, .cell u ty2]) (tmps : Array Value) (w : World) (g g2 : Nat) (t t2 : TypeId) (cs cs2 : Array Value) (fr fr2 : Nat × Nat) (d d2 : TypeDesc)
    (hp : tmps.getD p undef = .pointer (some ⟨g, 0, none⟩)) (hg : w.heap[g]? = some (.cells cs t fr))
    (hu : P.underlying ty = some d) (hd : (match d with | .struct _ | .array _ _ => true | _ => false) = true) (hi : (P.info? ty).map (·.size) = some cs.size)
    (hp2 : tmps.getD u undef = .pointer (some ⟨g2, 0, none⟩)) (hg2 : w.heap[g2]? = some (.cells cs2 t2 fr2))
    (hu2 : P.underlying ty2 = some d2) (hd2 : (match d2 with | .struct _ | .array _ _ => true | _ => false) = true) (hi2 : (P.info? ty2).map (·.size) = some cs2.size) :
    (results fn tmps).run P w = .ok (.tuple #[.agg cs, .agg cs2]) w := by
  have hp' : tmps[p]?.getD undef = .pointer (some ⟨g, 0, none⟩) := by simpa using hp
  have hp2' : tmps[u]?.getD undef = .pointer (some ⟨g2, 0, none⟩) := by simpa using hp2
  simp [results, h, hp', hp2', asAddr, run_loadVar_row w g t ty cs fr d hg hu hd hi, run_loadVar_row w g2 t2 ty2 cs2 fr2 d2 hg2 hu2 hd2 hi2]
theorem rr_info (a b : Value) : (Try.prog.info? 121).map (·.size) = some (#[a, b] : Array Value).size := by
  show _ = some 2
  kernel_rfl
theorem str_extract (l : List UInt8) (a b : Nat) : (str l).extract a b = str ((l.drop a).take (b - a)) := by
  rw [str_of ((str l).extract a b)]
  congr 1
  rw [ByteArray.data_extract, Array.toList_extract, str_toList]
theorem str_cut (l : List UInt8) (a : Nat) : (str l).extract a l.length = str (l.drop a) := by
  rw [str_extract, List.take_of_length_le (by rw [List.length_drop]; exact Nat.le_refl _)]
theorem str_front (l : List UInt8) (a : Nat) : (str l).extract 0 a = str (l.take a) := by
  rw [str_extract, List.drop_zero, Nat.sub_zero]
theorem two_below (w : World) (a b : Obj) : Below w.heap.size w ((w.alloc a).alloc b) := ((Below.refl _ _).alloc (Nat.le_refl _) _).alloc (by simp) _

set_option maxHeartbeats 400000 in
theorem rEnd_any (l : List UInt8) (e0 : Int) (w : World) :
    Calls Try.prog 90 #[.agg #[.string (str l), .int .i64 e0]] w fun e w' => e = .returned (.int .i64 (endOf l e0)) ∧ Below w.heap.size w w' := by
  unfold endOf
  by_cases he : e0 = 0
  · subst he
    by_cases hp : 0 < l.length
    · rw [if_pos ⟨rfl, hp⟩]
      go_enter Try.func90, Try.ntmps90
      go_wp2_with fail
      go_ret
      exact ⟨rfl, (Below.refl _ _).alloc (Nat.le_refl _) _⟩
    · rw [if_neg (fun h => hp h.2)]
      have h0 : l = [] := List.eq_nil_of_length_eq_zero (by omega)
      subst h0
      go_enter Try.func90, Try.ntmps90
      go_wp2_with fail
      go_ret
      exact ⟨rfl, (Below.refl _ _).alloc (Nat.le_refl _) _⟩
  · rw [if_neg (fun h => he h.1)]
    have he1 : (e0 == 0) = false := by simpa using he
    go_enter Try.func90, Try.ntmps90
    go_wp2_with fail
    go_ret
    exact ⟨rfl, (Below.refl _ _).alloc (Nat.le_refl _) _⟩

set_option maxHeartbeats 1000000 in
theorem rSkip_any (l : List UInt8) (e0 n : Int) (w : World) :
    Calls Try.prog 89 #[.agg #[.string (str l), .int .i64 e0], .int .i64 n] w fun e w' =>
      e = .returned (.agg #[.string (str (tk l e0 n (decide (n < 0))).1), .int .i64 (tk l e0 n (decide (n < 0))).2.1]) ∧ Below w.heap.size w w' := by
  by_cases he : e0 = 0
  · subst he
    by_cases hn : n < 0
    · have ht : tk l 0 n (decide (n < 0)) = (l, 1, []) := by simp [tk, hn]
      rw [ht]
      go_enter Try.func89, Try.ntmps89
      go_wp2_with fail
      (try simp only [Exit.inBlock, Exit.then])
      refine bodyPost_ret (results_cell_row rfl _ _ _ 121 _ (0, 0) _ rfl (heap_alloc2_new w _ _) Try.underlying121 rfl (rr_info _ _)) rfl ?_
      exact ⟨rfl, two_below _ _ _⟩
    · by_cases hl : (l.length : Int) < n
      · have ht : tk l 0 n (decide (n < 0)) = (l, 10, []) := by simp [tk, hn, hl]
        rw [ht]
        go_enter Try.func89, Try.ntmps89
        go_wp2_with fail
        (try simp only [Exit.inBlock, Exit.then])
        refine bodyPost_ret (results_cell_row rfl _ _ _ 121 _ (0, 0) _ rfl (heap_alloc2_new w _ _) Try.underlying121 rfl (rr_info _ _)) rfl ?_
        exact ⟨rfl, two_below _ _ _⟩
      · have ht : tk l 0 n (decide (n < 0)) = (l.drop n.toNat, 0, l.take n.toNat) := by simp [tk, hn, hl]
        rw [ht]
        obtain ⟨k, rfl⟩ := Int.eq_ofNat_of_zero_le (show 0 ≤ n by omega)
        go_enter Try.func89, Try.ntmps89
        go_wp2_with fail
        (try simp only [Exit.inBlock, Exit.then])
        refine bodyPost_ret (results_cell_row rfl _ _ _ 121 _ (0, 0) _ rfl (heap_alloc2_new w _ _) Try.underlying121 rfl (rr_info _ _)) rfl ?_
        exact ⟨by rw [str_cut], two_below _ _ _⟩
  · have ht : tk l e0 n (decide (n < 0)) = (l, e0, []) := by simp [tk, he]
    rw [ht]
    have he1 : (e0 != 0) = true := by simpa using he
    go_enter Try.func89, Try.ntmps89
    go_wp2_with fail
    (try simp only [Exit.inBlock, Exit.then])
    refine bodyPost_ret (results_cell_row rfl _ _ _ 121 _ (0, 0) _ rfl (heap_alloc2_new w _ _) Try.underlying121 rfl (rr_info _ _)) rfl ?_
    exact ⟨rfl, two_below _ _ _⟩

set_option maxHeartbeats 2000000 in
theorem rReadNum_any (l : List UInt8) (e0 width : Int) (w : World) (hsz : l.length ≤ 9223372036854775807) :
    Calls Try.prog 70 #[.agg #[.string (str l), .int .i64 e0], .int .i64 width] w fun e w' =>
      e = .returned (.tuple #[.agg #[.string (str (nm l e0 width).1), .int .i64 (nm l e0 width).2.1], .int .i64 ((nm l e0 width).2.2 : Int)]) ∧ Below w.heap.size w w' := by
  by_cases he : e0 = 0
  · subst he
    cases hrt : rt width with
    | false =>
      have ht : nm l 0 width = (l, (1 : Int), 0) := by
        have : tk l 0 width (!rt width) = (l, (1 : Int), []) := by rw [hrt]; rfl
        unfold nm
        simp only [this]
        rfl
      rw [ht]
      go_enter Try.func70, Try.ntmps70
      go_wp2_with fail
      refine (rRight_any width _).mono ?_
      rintro e w' ⟨rfl, rfl⟩
      rw [hrt]
      go_wp2_with fail
      (try simp only [Exit.inBlock, Exit.then])
      refine bodyPost_ret (results_row_tmp rfl _ _ _ 121 _ (0, 0) _ rfl (heap_alloc2_new w _ _) Try.underlying121 rfl (rr_info _ _)) rfl ?_
      exact ⟨rfl, two_below _ _ _⟩
    | true =>
      have hw8 := rt_cases hrt
      obtain ⟨W, rfl⟩ : ∃ W : Nat, width = W := Int.eq_ofNat_of_zero_le (by rcases hw8 with rfl | rfl | rfl | rfl <;> decide)
      have hW8 : W ≤ 8 := by rcases hw8 with h | h | h | h <;> omega
      have hW0 : 0 < W := by rcases hw8 with h | h | h | h <;> omega
      clear hw8
      by_cases hl : l.length < W
      · have ht : nm l 0 W = (l, (10 : Int), 0) := by
          have : tk l 0 W (!rt W) = (l, (10 : Int), []) := by rw [hrt]; simp [tk]; omega
          unfold nm
          simp only [this]
          rfl
        rw [ht]
        go_enter Try.func70, Try.ntmps70
        go_wp2_with fail
        refine (rRight_any W _).mono ?_
        rintro e w' ⟨rfl, rfl⟩
        rw [hrt]
        go_wp2_with fail
        (try simp only [Exit.inBlock, Exit.then])
        refine bodyPost_ret (results_row_tmp rfl _ _ _ 121 _ (0, 0) _ rfl (heap_alloc2_new w _ _) Try.underlying121 rfl (rr_info _ _)) rfl ?_
        exact ⟨rfl, two_below _ _ _⟩
      · have hx : (l.take W).length = W := by rw [List.length_take]; omega
        have htk : tk l 0 W (!rt W) = (l.drop W, (0 : Int), l.take W) := by rw [hrt]; simp [tk]; omega
        have hnm : nm l 0 W = if W = 8 ∧ 64 ≤ un (l.take 1) then (l.drop W, (1 : Int), 0) else (l.drop W, (0 : Int), un (l.take W)) := by
          unfold nm
          simp only [htk, hx]
          by_cases h8 : W = 8
          · subst h8
            rw [List.take_take]
            rfl
          · simp [h8]
        rw [hnm]
        clear hnm htk
        have hl0 : 0 < l.length := by omega
        have hlW : (W : Int) ≤ (l.length : Int) := by omega
        have hW0' : (0 : Int) ≤ (W : Int) := by omega
        have h1 := un_one l hl0
        have hat : ∀ w, (Instr.index 9 (.string (str (l.take W))) (.int .i64 0)).run Try.prog w = .ok (.int .u8 ((l.take W)[0]'(by omega)).toNat) w := run_str_at (P := Try.prog) Try.underlying9 (l.take W) 0 (by omega)
        have e0 : (l.take W)[0]'(by omega) = l[0] := by simp
        rw [e0] at hat
        have hc0 := str_front l W
        have hc1 := str_cut l W
        obtain ⟨x0, hx0⟩ : ∃ x0, x0 = l[0].toNat := ⟨_, rfl⟩
        rw [← hx0] at h1 hat
        rw [h1]
        have HX := Lib.hid hx
        have HU := Lib.hid h1
        have HL := Lib.hid hl
        clear h1 hx0 e0 hx hl
        by_cases hbad : W = 8 ∧ 64 ≤ x0
        · rw [if_pos hbad]
          obtain ⟨rfl, h64⟩ := hbad
          have h64' : (64 : Int) ≤ (x0 : Int) := by omega
          go_enter Try.func70, Try.ntmps70
          go_wp2_with fail
          refine (rRight_any 8 _).mono ?_
          rintro e w' ⟨rfl, rfl⟩
          rw [show rt 8 = true from rfl]
          go_wp2_with fail
          (try simp only [Exit.inBlock, Exit.then])
          refine bodyPost_ret (results_row_tmp rfl _ _ _ 121 _ (0, 0) _ rfl (heap_alloc2_new w _ _) Try.underlying121 rfl (rr_info _ _)) rfl ?_
          exact ⟨rfl, two_below _ _ _⟩
        · rw [if_neg hbad]
          have hsm : un (l.take W) < 4611686018427387904 := un_small _ (by rw [HX.out]; exact hW8) (fun h8 => by
            rw [← un_one _ (by omega), List.take_take]
            have h2 : ¬ 64 ≤ x0 := fun h => hbad ⟨by rw [← HX.out]; exact h8, h⟩
            have h3 := HU.out
            rw [show min 1 W = 1 by omega]
            omega)
          have HSM := Lib.hid hsm
          clear hsm
          go_enter Try.func70, Try.ntmps70
          go_wp2_with fail
          refine (rRight_any W _).mono ?_
          rintro e w' ⟨rfl, rfl⟩
          rw [hrt]
          by_cases h8 : W = 8
          · subst h8
            have h64' : ¬ (64 : Int) ≤ (x0 : Int) := fun h => hbad ⟨rfl, by omega⟩
            clear hbad
            go_wp2_with fail
            go_loopw [7, 8] (fun v i wr => ∃ j : Nat, j ≤ 8 ∧ v = .int .i64 (un ((l.take 8).take j) : Nat) ∧ i = .int .i64 j ∧ wr = (w.alloc (.cells #[.string (str (l.drop 8)), .int .i64 0] 121)).alloc (.cells #[.string ⟨#[]⟩, .int .i64 0] 121)) (fun _ i _ => 8 - (intOf i).toNat)
            case atStart => exact ⟨0, by omega, rfl, rfl, rfl⟩
            case round =>
              obtain ⟨j, hj, rfl, rfl, rfl⟩ := hrel
              by_cases hjl : j < 8
              · have hjl2 : j < (l.take 8).length := by rw [HX.out]; exact hjl
                have hatj := run_str_at (P := Try.prog) Try.underlying9 (l.take 8) j hjl2
                have hun : un ((l.take 8).take (j + 1)) = un ((l.take 8).take j) * 256 + ((l.take 8)[j]'hjl2).toNat := by rw [List.take_succ_eq_append_getElem hjl2, un_snoc]
                have hle := un_take_le (l.take 8) (j + 1)
                have hx := ((l.take 8)[j]'hjl2).toNat_lt
                have hlim := HSM.out
                obtain ⟨y, hy⟩ : ∃ y, y = ((l.take 8)[j]'hjl2).toNat := ⟨_, rfl⟩
                obtain ⟨a, ha⟩ : ∃ a, a = un ((l.take 8).take j) := ⟨_, rfl⟩
                rw [← hy] at hatj hun hx
                rw [← ha] at hun ⊢
                have HUN := Lib.hid hun
                have hb1 : a * 256 + y < 4611686018427387904 := by omega
                clear hle hlim hun hy ha hat
                go_wp2_with fail
                go_roundw
                case rel => exact ⟨j + 1, by omega, by rw [HUN.out]; go_num, by go_num, trivial⟩
                case measure => simp [intOf]; omega
              · obtain rfl : j = 8 := by omega
                have hf : (l.take 8).take 8 = l.take 8 := List.take_of_length_le (by rw [HX.out]; omega)
                rw [hf]
                clear hat hf
                go_wp2_with fail
                (try simp only [Exit.inBlock, Exit.then])
                refine bodyPost_ret (results_row_tmp rfl _ _ _ 121 _ (0, 0) _ rfl (heap_alloc2_new w _ _) Try.underlying121 rfl (rr_info _ _)) rfl ?_
                exact ⟨rfl, two_below _ _ _⟩
          · have h8' : ((W : Int) == 8) = false := by simp; omega
            clear hbad
            go_wp2_with fail
            go_loopw [7, 8] (fun v i wr => ∃ j : Nat, j ≤ W ∧ v = .int .i64 (un ((l.take W).take j) : Nat) ∧ i = .int .i64 j ∧ wr = (w.alloc (.cells #[.string (str (l.drop W)), .int .i64 0] 121)).alloc (.cells #[.string ⟨#[]⟩, .int .i64 0] 121)) (fun _ i _ => W - (intOf i).toNat)
            case atStart => exact ⟨0, by omega, rfl, rfl, rfl⟩
            case round =>
              obtain ⟨j, hj, rfl, rfl, rfl⟩ := hrel
              by_cases hjl : j < W
              · have hjl2 : j < (l.take W).length := by rw [HX.out]; exact hjl
                have hatj := run_str_at (P := Try.prog) Try.underlying9 (l.take W) j hjl2
                have hun : un ((l.take W).take (j + 1)) = un ((l.take W).take j) * 256 + ((l.take W)[j]'hjl2).toNat := by rw [List.take_succ_eq_append_getElem hjl2, un_snoc]
                have hle := un_take_le (l.take W) (j + 1)
                have hx := ((l.take W)[j]'hjl2).toNat_lt
                have hlim := HSM.out
                obtain ⟨y, hy⟩ : ∃ y, y = ((l.take W)[j]'hjl2).toNat := ⟨_, rfl⟩
                obtain ⟨a, ha⟩ : ∃ a, a = un ((l.take W).take j) := ⟨_, rfl⟩
                rw [← hy] at hatj hun hx
                rw [← ha] at hun ⊢
                have HUN := Lib.hid hun
                have hb1 : a * 256 + y < 4611686018427387904 := by omega
                clear hle hlim hun hy ha hat
                go_wp2_with fail
                go_roundw
                case rel => exact ⟨j + 1, by omega, by rw [HUN.out]; go_num, by go_num, trivial⟩
                case measure => simp [intOf]; omega
              · have hjW : j = W := by omega
                subst hjW
                have hf : (l.take j).take j = l.take j := List.take_of_length_le (by rw [HX.out]; exact Nat.le_refl _)
                rw [hf]
                clear hat hf
                go_wp2_with fail
                (try simp only [Exit.inBlock, Exit.then])
                refine bodyPost_ret (results_row_tmp rfl _ _ _ 121 _ (0, 0) _ rfl (heap_alloc2_new w _ _) Try.underlying121 rfl (rr_info _ _)) rfl ?_
                exact ⟨rfl, two_below _ _ _⟩
  · have ht : nm l e0 width = (l, e0, 0) := by
      have : tk l e0 width (!rt width) = (l, e0, []) := by unfold tk; rw [if_pos he]
      unfold nm
      simp only [this]
      rfl
    rw [ht]
    have he1 : (e0 != 0) = true := by simpa using he
    go_enter Try.func70, Try.ntmps70
    go_wp2_with fail
    (try simp only [Exit.inBlock, Exit.then])
    refine bodyPost_ret (results_row_tmp rfl _ _ _ 121 _ (0, 0) _ rfl (heap_alloc2_new w _ _) Try.underlying121 rfl (rr_info _ _)) rfl ?_
    exact ⟨rfl, two_below _ _ _⟩

theorem nm_err {l : List UInt8} {e width : Int} (h : (nm l e width).2.1 ≠ 0) : (nm l e width).2.2 = 0 := by
  unfold nm at h ⊢
  simp only at h ⊢
  split
  · rfl
  · rename_i hh
    rw [if_neg hh] at h
    have : (tk l e width (!rt width)).2.2 = [] := by
      unfold tk at h ⊢
      split
      · rfl
      split
      · rfl
      split
      · rfl
      · rename_i a b c
        rw [if_neg a, if_neg b, if_neg c] at h
        exact absurd rfl h
    rw [this]
    rfl
theorem nm_len (l : List UInt8) (e width : Int) : (nm l e width).1.length ≤ l.length := by
  have ht : ∀ n b, (tk l e n b).1.length ≤ l.length := fun n b => by
    unfold tk
    split
    · exact Nat.le_refl _
    split
    · exact Nat.le_refl _
    split
    · exact Nat.le_refl _
    · rw [List.length_drop]; omega
  unfold nm
  simp only
  split <;> exact ht _ _

theorem Blk.two {w : World} {g : Nat} {t : TypeId} {a b : Value} (h : Blk w g t #[a, b]) : w.cell? ⟨g, 0, none⟩ = some a ∧ w.cell? ⟨g, 1, none⟩ = some b ∧ w.frozen? ⟨g, 0, none⟩ = false ∧ w.frozen? ⟨g, 1, none⟩ = false ∧ g < w.heap.size :=
  ⟨h.cell 0, h.cell 1, h.frozen 0, h.frozen 1, h.lt⟩

set_option maxHeartbeats 2000000 in
theorem rReadText_any (l : List UInt8) (e0 width : Int) (w : World) (hsz : l.length ≤ 9223372036854775807) :
    Calls Try.prog 64 #[.agg #[.string (str l), .int .i64 e0], .int .i64 width] w fun e w' =>
      e = .returned (.tuple #[.agg #[.string (str (tx l e0 width).1), .int .i64 (tx l e0 width).2.1], .string (str (tx l e0 width).2.2)]) ∧ Below w.heap.size w w' := by
  have hz := nm_err (l := l) (e := e0) (width := width)
  have hlen := nm_len l e0 width
  unfold tx
  have hN := fun w => rReadNum_any l e0 width w hsz
  obtain ⟨m, hm⟩ : ∃ m, m = nm l e0 width := ⟨_, rfl⟩
  rw [← hm] at hz hlen
  rw [← hm] at hN
  have HN := Lib.hid hN
  rw [← hm]
  obtain ⟨l1, e1, k⟩ := m
  simp only at hz hlen ⊢
  have HZ := Lib.hid hz
  clear hN hm hz
  by_cases he : e1 = 0
  · subst he
    by_cases hk : l1.length < k
    · have ht : tk l1 0 k false = (l1, (10 : Int), []) := by simp [tk]; omega
      rw [ht]
      go_enter Try.func64, Try.ntmps64
      go_wp2_with fail
      refine (HN.out _).mono ?_
      rintro e w1 ⟨rfl, hb1⟩
      have hB1 : Blk w1 w.heap.size 121 _ := ((Blk.new w _ _).alloc _).belowAll hb1
      have hB2 : Blk w1 (w.heap.size + 1) 121 _ := (show Blk _ (w.heap.size + 1) _ _ from heap_alloc2_new w _ _).belowAll hb1
      have bw1 : Below w.heap.size w w1 := (two_below w _ _).trans (hb1.mono (by simp; omega))
      obtain ⟨q1, q2, q3, q4, q5⟩ := hB1.two
      obtain ⟨q6, q7, q8, q9, q10⟩ := hB2.two
      have hW1 : Blk ((w1.setCell ⟨w.heap.size, 0, none⟩ (.string (str l1))).setCell ⟨w.heap.size, 1, none⟩ (.int .i64 0)) w.heap.size 121 #[.string (str l1), .int .i64 0] := (hB1.set_ 0 _).set_ 1 _
      have hV1 := (hB2.far (p := ⟨w.heap.size, 0, none⟩) (by simp) (.string (str l1))).far (p := ⟨w.heap.size, 1, none⟩) (by simp) (.int .i64 0)
      have bw2 := (bw1.setCell (p := ⟨w.heap.size, 0, none⟩) (Nat.le_refl _) (.string (str l1))).setCell (p := ⟨w.heap.size, 1, none⟩) (Nat.le_refl _) (.int .i64 0)
      obtain ⟨r1, r2, r3, r4, r5⟩ := hW1.two
      have hW2 : Blk (((w1.setCell ⟨w.heap.size, 0, none⟩ (.string (str l1))).setCell ⟨w.heap.size, 1, none⟩ (.int .i64 0)).setCell ⟨w.heap.size, 1, none⟩ (.int .i64 10)) w.heap.size 121 #[.string (str l1), .int .i64 10] := hW1.set_ 1 _
      have hV2 := hV1.far (p := ⟨w.heap.size, 1, none⟩) (by simp) (.int .i64 10)
      have bw3 := bw2.setCell (p := ⟨w.heap.size, 1, none⟩) (Nat.le_refl _) (.int .i64 10)
      obtain ⟨s1, s2, s3, s4, s5⟩ := hW2.two
      obtain ⟨t1, t2, t3, t4, t5⟩ := hV2.two
      go_wp2_with fail
      (try simp only [Exit.inBlock, Exit.then])
      refine bodyPost_ret (results_row_tmp rfl _ _ _ 121 _ (0, 0) _ rfl (show Blk _ _ _ #[.string (str l1), .int .i64 10] from (hV2.set_ 0 _).set_ 1 _) Try.underlying121 rfl (rr_info _ _)) rfl ?_
      exact ⟨rfl, (bw3.setCell (p := ⟨w.heap.size + 1, 0, none⟩) (by simp) _).setCell (p := ⟨w.heap.size + 1, 1, none⟩) (by simp) _⟩
    · have ht : tk l1 0 k false = (l1.drop k, (0 : Int), l1.take k) := by simp [tk]; omega
      rw [ht]
      have hk' : (k : Int) ≤ (l1.length : Int) := by omega
      have hk0 : (0 : Int) ≤ (k : Int) := by omega
      have hc0 := str_front l1 k
      have hc1 := str_cut l1 k
      go_enter Try.func64, Try.ntmps64
      go_wp2_with fail
      refine (HN.out _).mono ?_
      rintro e w1 ⟨rfl, hb1⟩
      have hB1 : Blk w1 w.heap.size 121 _ := ((Blk.new w _ _).alloc _).belowAll hb1
      have hB2 : Blk w1 (w.heap.size + 1) 121 _ := (show Blk _ (w.heap.size + 1) _ _ from heap_alloc2_new w _ _).belowAll hb1
      have bw1 : Below w.heap.size w w1 := (two_below w _ _).trans (hb1.mono (by simp; omega))
      obtain ⟨q1, q2, q3, q4, q5⟩ := hB1.two
      obtain ⟨q6, q7, q8, q9, q10⟩ := hB2.two
      have hW1 : Blk ((w1.setCell ⟨w.heap.size, 0, none⟩ (.string (str l1))).setCell ⟨w.heap.size, 1, none⟩ (.int .i64 0)) w.heap.size 121 #[.string (str l1), .int .i64 0] := (hB1.set_ 0 _).set_ 1 _
      have hV1 := (hB2.far (p := ⟨w.heap.size, 0, none⟩) (by simp) (.string (str l1))).far (p := ⟨w.heap.size, 1, none⟩) (by simp) (.int .i64 0)
      have bw2 := (bw1.setCell (p := ⟨w.heap.size, 0, none⟩) (Nat.le_refl _) (.string (str l1))).setCell (p := ⟨w.heap.size, 1, none⟩) (Nat.le_refl _) (.int .i64 0)
      obtain ⟨r1, r2, r3, r4, r5⟩ := hW1.two
      have hW2 : Blk (((w1.setCell ⟨w.heap.size, 0, none⟩ (.string (str l1))).setCell ⟨w.heap.size, 1, none⟩ (.int .i64 0)).setCell ⟨w.heap.size, 0, none⟩ (.string (str (l1.drop k)))) w.heap.size 121 #[.string (str (l1.drop k)), .int .i64 0] := hW1.set_ 0 _
      have hV2 := hV1.far (p := ⟨w.heap.size, 0, none⟩) (by simp) (.string (str (l1.drop k)))
      have bw3 := bw2.setCell (p := ⟨w.heap.size, 0, none⟩) (Nat.le_refl _) (.string (str (l1.drop k)))
      obtain ⟨s1, s2, s3, s4, s5⟩ := hW2.two
      obtain ⟨t1, t2, t3, t4, t5⟩ := hV2.two
      go_wp2_with fail
      (try simp only [Exit.inBlock, Exit.then])
      refine bodyPost_ret (results_row_tmp rfl _ _ _ 121 _ (0, 0) _ rfl (show Blk _ _ _ #[.string (str (l1.drop k)), .int .i64 0] from (hV2.set_ 0 _).set_ 1 _) Try.underlying121 rfl (rr_info _ _)) rfl ?_
      exact ⟨rfl, (bw3.setCell (p := ⟨w.heap.size + 1, 0, none⟩) (by simp) _).setCell (p := ⟨w.heap.size + 1, 1, none⟩) (by simp) _⟩
  · have ht : tk l1 e1 k false = (l1, e1, []) := by unfold tk; rw [if_pos he]
    rw [ht]
    have he1 : (e1 != 0) = true := by simpa using he
    go_enter Try.func64, Try.ntmps64
    go_wp2_with fail
    refine (HN.out _).mono ?_
    rintro e w1 ⟨rfl, hb1⟩
    have hB1 : Blk w1 w.heap.size 121 _ := ((Blk.new w _ _).alloc _).belowAll hb1
    have hB2 : Blk w1 (w.heap.size + 1) 121 _ := (show Blk _ (w.heap.size + 1) _ _ from heap_alloc2_new w _ _).belowAll hb1
    have bw1 : Below w.heap.size w w1 := (two_below w _ _).trans (hb1.mono (by simp; omega))
    obtain ⟨q1, q2, q3, q4, q5⟩ := hB1.two
    obtain ⟨q6, q7, q8, q9, q10⟩ := hB2.two
    have hW1 : Blk ((w1.setCell ⟨w.heap.size, 0, none⟩ (.string (str l1))).setCell ⟨w.heap.size, 1, none⟩ (.int .i64 e1)) w.heap.size 121 #[.string (str l1), .int .i64 e1] := (hB1.set_ 0 _).set_ 1 _
    have hV1 := (hB2.far (p := ⟨w.heap.size, 0, none⟩) (by simp) (.string (str l1))).far (p := ⟨w.heap.size, 1, none⟩) (by simp) (.int .i64 e1)
    have bw2 := (bw1.setCell (p := ⟨w.heap.size, 0, none⟩) (Nat.le_refl _) (.string (str l1))).setCell (p := ⟨w.heap.size, 1, none⟩) (Nat.le_refl _) (.int .i64 e1)
    obtain ⟨r1, r2, r3, r4, r5⟩ := hW1.two
    obtain ⟨t1, t2, t3, t4, t5⟩ := hV1.two
    go_wp2_with fail
    (try simp only [Exit.inBlock, Exit.then])
    refine bodyPost_ret (results_row_tmp rfl _ _ _ 121 _ (0, 0) _ rfl (show Blk _ _ _ #[.string (str l1), .int .i64 e1] from (hV1.set_ 0 _).set_ 1 _) Try.underlying121 rfl (rr_info _ _)) rfl ?_
    exact ⟨rfl, (bw2.setCell (p := ⟨w.heap.size + 1, 0, none⟩) (by simp) _).setCell (p := ⟨w.heap.size + 1, 1, none⟩) (by simp) _⟩
end Go.Proofs.Ytbljacafmkdlmaa
