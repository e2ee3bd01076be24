/- files.Right, pentimentoref04.Right, head.within: what they answer. Condition: the name's length fits memory. -/
import Derived.Test.YtophnjoaajcfjaaChecked
import Derived.Test.YtophnjoaajcfjaaStr
import Derived.Test.YtophnjoaajcfjaaHdP
import Derived.Test.YtophnjoaajcfjaaSeq
import Derived.Laws.RangeAny
namespace Go.Proofs.Ytophnjoaajcfjaa
open Go.RowKit

theorem str_idx (l : List UInt8) (k : Nat) (h : k < (str l).size) (h' : k < l.length) : (str l)[k]'h = l[k] := rfl

set_option maxHeartbeats 2000000 in
theorem fRight_any (l : List UInt8) (w : World) (hsz : l.length ≤ 140737488355328) :
    Calls Try.prog 29 #[.string (str l)] w fun e w' => e = .returned (.bool (nameOK l)) ∧ Below w.heap.size w w' := by
  obtain ⟨n, hn⟩ : ∃ n, n = l.length := ⟨_, rfl⟩
  have hss : (str l).size = n := by rw [str_size, hn]
  have HN := Lib.hid hn
  rw [← hn] at hsz
  have hit : ∀ p, Below w.heap.size w (w.iter (str l) p) := fun p => (Below.refl w.heap.size w).alloc (Nat.le_refl _) _
  clear hn
  go_enter Try.func29, Try.ntmps29
  go_wp2_with fail
  go_loopw [4] (fun _ wr => ∃ k : Nat, k ≤ n ∧ wr = w.iter (str l) k ∧ Hid ((l.take k).all chOK = true)) (fun _ wr => n - wr.iterPos w.heap.size)
  case atStart => exact ⟨0, Nat.zero_le _, rfl, Lib.hid rfl⟩
  case round =>
    obtain ⟨k, hk, rfl, hall⟩ := hrel
    by_cases hlt : k < n
    · have hkl : k < l.length := by rw [← HN.out]; exact hlt
      obtain ⟨ch, hc⟩ : ∃ ch, ch = l[k]'hkl := ⟨_, rfl⟩
      have hmem : ch ∈ l := by rw [hc]; exact List.getElem_mem hkl
      have htk : (l.take (k + 1)).all chOK = ((l.take k).all chOK && chOK ch) := by rw [List.take_succ_eq_append_getElem hkl, List.all_append, ← hc]; simp
      have HTK := Lib.hid htk
      have hks : k < (str l).size := by rw [hss]; exact hlt
      have hidx : (str l)[k]'hks = ch := by rw [hc]; rfl
      clear hc htk
      cases hch : chOK ch
      · have hno : nameOK l = false := by
          unfold nameOK
          have : l.all chOK = false := by
            cases h : l.all chOK
            · rfl
            · rw [List.all_eq_true.1 h _ hmem] at hch
              cases hch
          rw [this]
          rfl
        have HNO := Lib.hid hno
        have hnx := fun ty => run_next_any (P := Try.prog) w (str l) k ty hks
        have hbad : runeBad ((Utf8.decode (str l) k).1 : Int) = true := by
          by_cases hlow : ch.toNat < 128
          · have hd := decode_ascii (str l) k hks (by rw [hidx]; exact hlow)
            rw [hd]
            show runeBad (((str l)[k]'hks).toNat : Int) = true
            rw [hidx, runeBad_ch, hch]
            rfl
          · have hd := (decode_high (str l) k hks (by rw [hidx]; omega)).1
            exact runeBad_high (by omega)
        have hle := decode_le (str l) k
        obtain ⟨r, hr⟩ : ∃ r, r = (Utf8.decode (str l) k).1 := ⟨_, rfl⟩
        obtain ⟨q, hq⟩ : ∃ q, q = (Utf8.decode (str l) k).2 := ⟨_, rfl⟩
        simp only [← hr, ← hq] at hnx hbad hle
        have HBAD := Lib.hid hbad
        clear hr hq hbad hno hch
        have hend : ∀ p, Ending.returned (.bool false) = Ending.returned (.bool (nameOK l)) ∧ Below w.heap.size w (w.iter (str l) p) := fun p => ⟨by rw [HNO.out], hit p⟩
        have HEND := Lib.hid hend
        clear hend hidx
        go_wp2_with fail
        all_goals first
          | (go_ret; exact HEND.out _)
          | (exfalso; have hx := HBAD.out; simp_all [runeBad]; done)
          | (exfalso; have hx := HBAD.out; simp_all [runeBad]; omega)
      · have hlow := chOK_low hch
        have hnx := fun ty => run_next_ascii (P := Try.prog) w (str l) k ty hks (by rw [hidx]; exact hlow)
        rw [hidx] at hnx
        obtain ⟨c, hcn⟩ : ∃ c, c = ch.toNat := ⟨_, rfl⟩
        rw [← hcn] at hnx hlow
        have hcases : (97 ≤ c ∧ c ≤ 122) ∨ (48 ≤ c ∧ c ≤ 57) ∨ c = 46 ∨ c = 45 := by
          unfold chOK at hch
          simp only [Bool.and_eq_true, Bool.or_eq_true, decide_eq_true_eq] at hch
          omega
        have hrel2 : ∃ k' : Nat, k' ≤ n ∧ w.iter (str l) (k + 1) = w.iter (str l) k' ∧ Hid ((l.take k').all chOK = true) := ⟨k + 1, hlt, rfl, Lib.hid (by rw [HTK.out, hall.out, hch]; rfl)⟩
        have HREL2 := Lib.hid hrel2
        clear hrel2 hcn hidx hch HTK hmem
        rcases hcases with ⟨h1, h2⟩ | ⟨h1, h2⟩ | rfl | rfl
        all_goals
          go_wp2_with fail
          go_roundw
          case rel => exact HREL2.out
          case measure =>
            rw [World.iterPos_iter, World.iterPos_iter]
            omega
    · obtain rfl : k = n := by omega
      have ht : l.take k = l := List.take_of_length_le (by rw [← HN.out]; exact Nat.le_refl _)
      have hall2 := hall.out
      rw [ht] at hall2
      have hnm : nameOK l = (decide (1 ≤ k) && decide (k ≤ 15)) := by unfold nameOK; rw [hall2, ← HN.out]; rfl
      have HNM := Lib.hid hnm
      have hnx := fun ty => run_next_end (P := Try.prog) w (str l) k ty (by rw [hss]; omega)
      clear ht hall2 hnm
      by_cases h1 : 1 ≤ k
      · go_wp2_with fail
        go_ret
        exact ⟨ret_bool (by rw [HNM.out, decide_eq_true h1]; simp; omega), hit _⟩
      · go_wp2_with fail
        go_ret
        exact ⟨ret_bool (by rw [HNM.out, decide_eq_false h1]; rfl), hit _⟩

theorem within_any (n t : Int) (w : World) :
    Calls Try.prog 28 #[.int .i64 n, .int .i64 t] w fun e w' => e = .returned (.bool (inTo n t)) ∧ w = w' := by
  by_cases h0 : 0 ≤ n
  · go_enter Try.func28, Try.ntmps28
    go_wp2_with fail
    go_ret
    exact ⟨ret_bool (by unfold inTo; rw [decide_eq_true h0]; rfl), rfl⟩
  · go_enter Try.func28, Try.ntmps28
    go_wp2_with fail
    go_ret
    exact ⟨ret_bool (by unfold inTo; rw [decide_eq_false (show ¬ 0 ≤ n by omega)]; rfl), rfl⟩

theorem bad_any (n : Int) (w : World) :
    Calls Try.prog 27 #[.int .i64 n] w fun e w' => e = .returned (.bool (!okPart n)) ∧ w = w' := by
  go_enter Try.func27, Try.ntmps27
  go_wp2_with fail
  refine (within_any n 65535 w).mono ?_
  rintro e w' ⟨rfl, rfl⟩
  go_wp2_with fail
  go_ret
  exact ⟨rfl, rfl⟩
theorem one_any (b : Bool) (w : World) :
    Calls Try.prog 23 #[.bool b] w fun e w' => e = .returned (.int .i64 (one01 b : Int)) ∧ w = w' := by
  cases b
  all_goals
    go_enter Try.func23, Try.ntmps23
    go_wp2_with fail
    go_ret
    exact ⟨rfl, rfl⟩

/-- The first one that is bad; below 0: there is none. -/
theorem index_any (A : Option Addr) (n c : Nat) (l : List Int) (w : World) (hn : l.length = n) (hr : Row w A (iv l)) (hsz : n ≤ 17592186044416) :
    Calls Try.prog 52 #[.slice A n c, .func (.func 27) #[] #[]] w fun e w' => (∃ i : Int, e = .returned (.int .i64 i) ∧ (0 ≤ i ↔ l.all okPart = false)) ∧ w = w' := by
  have HN := Lib.hid hn
  clear hn
  go_enter Try.func52, Try.ntmps52
  go_wp2_with fail
  go_loop [8] (fun i => ∃ k : Nat, k ≤ n ∧ i = .int .i64 k ∧ Hid ((l.take k).all okPart = true)) (fun i => n - (intOf i).toNat)
  case atStart => exact ⟨0, Nat.zero_le _, rfl, Lib.hid rfl⟩
  case round =>
    obtain ⟨k, hk, rfl, hall⟩ := hrel
    by_cases hlt : k < n
    · have hkl : k < l.length := by rw [HN.out]; exact hlt
      obtain ⟨b, o, rfl, hb, h4⟩ := hr.icell hkl
      have htk : (l.take (k + 1)).all okPart = ((l.take k).all okPart && okPart l[k]) := by rw [List.take_succ_eq_append_getElem hkl, List.all_append]; simp
      have hmem := List.getElem_mem hkl
      obtain ⟨x, hx⟩ : ∃ x, x = l[k] := ⟨_, rfl⟩
      rw [← hx] at h4 htk hmem
      have HTK := Lib.hid htk
      clear hx htk
      cases hok : okPart x
      · have hno : l.all okPart = false := by
          cases h : l.all okPart
          · rfl
          · rw [List.all_eq_true.1 h _ hmem] at hok
            cases hok
        have HNO := Lib.hid hno
        have HOK := Lib.hid hok
        clear hno hok
        go_wp2_with fail
        refine (bad_any x w).mono ?_
        rw [HOK.out]
        rintro e w' ⟨rfl, rfl⟩
        go_wp2_with fail
        go_ret
        exact ⟨⟨_, rfl, by rw [HNO.out]; simp⟩, rfl⟩
      · have HOK := Lib.hid hok
        clear hok
        go_wp2_with fail
        refine (bad_any x w).mono ?_
        rw [HOK.out]
        rintro e w' ⟨rfl, rfl⟩
        go_wp2_with fail
        go_round
        case rel => exact ⟨k + 1, by omega, by go_num, Lib.hid (by rw [HTK.out, hall.out, HOK.out]; rfl)⟩
        case measure => simp [intOf]; omega
    · obtain rfl : k = n := by omega
      have ht : l.take k = l := List.take_of_length_le (by rw [HN.out]; exact Nat.le_refl _)
      have hall2 := hall.out
      rw [ht] at hall2
      have HALL := Lib.hid hall2
      clear hall2
      go_wp2_with fail
      go_ret
      refine ⟨⟨-1, rfl, ?_⟩, rfl⟩
      refine ⟨fun h => absurd h (by decide), fun ⟨x, hx, hb⟩ => ?_⟩
      rw [List.all_eq_true.1 HALL.out x hx] at hb
      cases hb
theorem contains_any (A : Option Addr) (n c : Nat) (l : List Int) (w : World) (hn : l.length = n) (hr : Row w A (iv l)) (hsz : n ≤ 17592186044416) :
    Calls Try.prog 30 #[.slice A n c, .func (.func 27) #[] #[]] w fun e w' => e = .returned (.bool (!l.all okPart)) ∧ w = w' := by
  go_enter Try.func30, Try.ntmps30
  go_wp2_with fail
  refine (index_any A n c l w hn hr hsz).mono ?_
  rintro e w' ⟨⟨i, rfl, hi⟩, rfl⟩
  have HI := Lib.hid hi
  clear hi
  go_wp2_with fail
  go_ret
  refine ⟨ret_bool ?_, rfl⟩
  have h := HI.out
  cases hall : l.all okPart
  · rw [hall] at h
    have := h.2 rfl
    simpa using this
  · rw [hall] at h
    have : ¬ 0 ≤ i := fun h2 => by cases h.1 h2
    simp
    omega
end Go.Proofs.Ytophnjoaajcfjaa
