/- Several texts in one: Fr, Hr, R4, Rr5. -/
import Derived.Test.YtbljacafmkdlmaaChecked
import Derived.Test.YtbljacafmkdlmaaStr
import Derived.Test.YtbljacafmkdlmaaMgE
import Derived.Test.YtbljacafmkdlmaaSeq
import Derived.Laws.RangeAny
import Derived.Test.YtbljacafmkdlmaaBlk
import Derived.Laws.BitsLemmas
/- files.Right, pentimentoref04.Right, head.within: what they answer. Condition: the name's length fits memory. -/
namespace Go.Proofs.Ytbljacafmkdlmaa
set_option maxRecDepth 100000
open Go.RowKit

theorem str_idx (l : List UInt8) (k : Nat) (h : k < (str l).size) (h' : k < l.length) : (str l)[k]'h = l[k] := rfl

set_option maxHeartbeats 2000000 in
theorem fRight_any (l : List UInt8) (w : World) (hsz : l.length ≤ 140737488355328) :
    Calls Try.prog 96 #[.string (str l)] w fun e w' => e = .returned (.bool (nameOK l)) ∧ Below w.heap.size w w' := by
  obtain ⟨n, hn⟩ : ∃ n, n = l.length := ⟨_, rfl⟩
  have hss : (str l).size = n := by rw [str_size, hn]
  have HN := Lib.hid hn
  rw [← hn] at hsz
  have hit : ∀ p, Below w.heap.size w (w.iter (str l) p) := fun p => (Below.refl w.heap.size w).alloc (Nat.le_refl _) _
  clear hn
  go_enter Try.func96, Try.ntmps96
  go_wp2_with fail
  go_loopw [4] (fun _ wr => ∃ k : Nat, k ≤ n ∧ wr = w.iter (str l) k ∧ Hid ((l.take k).all chOK = true)) (fun _ wr => n - wr.iterPos w.heap.size)
  case atStart => exact ⟨0, Nat.zero_le _, rfl, Lib.hid rfl⟩
  case round =>
    obtain ⟨k, hk, rfl, hall⟩ := hrel
    by_cases hlt : k < n
    · have hkl : k < l.length := by rw [← HN.out]; exact hlt
      obtain ⟨ch, hc⟩ : ∃ ch, ch = l[k]'hkl := ⟨_, rfl⟩
      have hmem : ch ∈ l := by rw [hc]; exact List.getElem_mem hkl
      have htk : (l.take (k + 1)).all chOK = ((l.take k).all chOK && chOK ch) := by rw [List.take_succ_eq_append_getElem hkl, List.all_append, ← hc]; simp
      have HTK := Lib.hid htk
      have hks : k < (str l).size := by rw [hss]; exact hlt
      have hidx : (str l)[k]'hks = ch := by rw [hc]; rfl
      clear hc htk
      cases hch : chOK ch
      · have hno : nameOK l = false := by
          unfold nameOK
          have : l.all chOK = false := by
            cases h : l.all chOK
            · rfl
            · rw [List.all_eq_true.1 h _ hmem] at hch
              cases hch
          rw [this]
          rfl
        have HNO := Lib.hid hno
        have hnx := fun ty => run_next_any (P := Try.prog) w (str l) k ty hks
        have hbad : runeBad ((Utf8.decode (str l) k).1 : Int) = true := by
          by_cases hlow : ch.toNat < 128
          · have hd := decode_ascii (str l) k hks (by rw [hidx]; exact hlow)
            rw [hd]
            show runeBad (((str l)[k]'hks).toNat : Int) = true
            rw [hidx, runeBad_ch, hch]
            rfl
          · have hd := (decode_high (str l) k hks (by rw [hidx]; omega)).1
            exact runeBad_high (by omega)
        have hle := decode_le (str l) k
        obtain ⟨r, hr⟩ : ∃ r, r = (Utf8.decode (str l) k).1 := ⟨_, rfl⟩
        obtain ⟨q, hq⟩ : ∃ q, q = (Utf8.decode (str l) k).2 := ⟨_, rfl⟩
        simp only [← hr, ← hq] at hnx hbad hle
        have HBAD := Lib.hid hbad
        clear hr hq hbad hno hch
        have hend : ∀ p, Ending.returned (.bool false) = Ending.returned (.bool (nameOK l)) ∧ Below w.heap.size w (w.iter (str l) p) := fun p => ⟨by rw [HNO.out], hit p⟩
        have HEND := Lib.hid hend
        clear hend hidx
        go_wp2_with fail
        all_goals first
          | (go_ret; exact HEND.out _)
          | (exfalso; have hx := HBAD.out; simp_all [runeBad]; done)
          | (exfalso; have hx := HBAD.out; simp_all [runeBad]; omega)
      · have hlow := chOK_low hch
        have hnx := fun ty => run_next_ascii (P := Try.prog) w (str l) k ty hks (by rw [hidx]; exact hlow)
        rw [hidx] at hnx
        obtain ⟨c, hcn⟩ : ∃ c, c = ch.toNat := ⟨_, rfl⟩
        rw [← hcn] at hnx hlow
        have hcases : (97 ≤ c ∧ c ≤ 122) ∨ (48 ≤ c ∧ c ≤ 57) ∨ c = 46 ∨ c = 45 := by
          unfold chOK at hch
          simp only [Bool.and_eq_true, Bool.or_eq_true, decide_eq_true_eq] at hch
          omega
        have hrel2 : ∃ k' : Nat, k' ≤ n ∧ w.iter (str l) (k + 1) = w.iter (str l) k' ∧ Hid ((l.take k').all chOK = true) := ⟨k + 1, hlt, rfl, Lib.hid (by rw [HTK.out, hall.out, hch]; rfl)⟩
        have HREL2 := Lib.hid hrel2
        clear hrel2 hcn hidx hch HTK hmem
        rcases hcases with ⟨h1, h2⟩ | ⟨h1, h2⟩ | rfl | rfl
        all_goals
          go_wp2_with fail
          go_roundw
          case rel => exact HREL2.out
          case measure =>
            rw [World.iterPos_iter, World.iterPos_iter]
            omega
    · obtain rfl : k = n := by omega
      have ht : l.take k = l := List.take_of_length_le (by rw [← HN.out]; exact Nat.le_refl _)
      have hall2 := hall.out
      rw [ht] at hall2
      have hnm : nameOK l = (decide (1 ≤ k) && decide (k ≤ 15)) := by unfold nameOK; rw [hall2, ← HN.out]; rfl
      have HNM := Lib.hid hnm
      have hnx := fun ty => run_next_end (P := Try.prog) w (str l) k ty (by rw [hss]; omega)
      clear ht hall2 hnm
      by_cases h1 : 1 ≤ k
      · go_wp2_with fail
        go_ret
        exact ⟨ret_bool (by rw [HNM.out, decide_eq_true h1]; simp; omega), hit _⟩
      · go_wp2_with fail
        go_ret
        exact ⟨ret_bool (by rw [HNM.out, decide_eq_false h1]; rfl), hit _⟩

theorem within_any (n t : Int) (w : World) :
    Calls Try.prog 95 #[.int .i64 n, .int .i64 t] w fun e w' => e = .returned (.bool (inTo n t)) ∧ w = w' := by
  by_cases h0 : 0 ≤ n
  · go_enter Try.func95, Try.ntmps95
    go_wp2_with fail
    go_ret
    exact ⟨ret_bool (by unfold inTo; rw [decide_eq_true h0]; rfl), rfl⟩
  · go_enter Try.func95, Try.ntmps95
    go_wp2_with fail
    go_ret
    exact ⟨ret_bool (by unfold inTo; rw [decide_eq_false (show ¬ 0 ≤ n by omega)]; rfl), rfl⟩

theorem bad_any (n : Int) (w : World) :
    Calls Try.prog 94 #[.int .i64 n] w fun e w' => e = .returned (.bool (!okPart n)) ∧ w = w' := by
  go_enter Try.func94, Try.ntmps94
  go_wp2_with fail
  refine (within_any n 65535 w).mono ?_
  rintro e w' ⟨rfl, rfl⟩
  go_wp2_with fail
  go_ret
  exact ⟨rfl, rfl⟩
theorem one_any (b : Bool) (w : World) :
    Calls Try.prog 80 #[.bool b] w fun e w' => e = .returned (.int .i64 (one01 b : Int)) ∧ w = w' := by
  cases b
  all_goals
    go_enter Try.func80, Try.ntmps80
    go_wp2_with fail
    go_ret
    exact ⟨rfl, rfl⟩

/-- The first one that is bad; below 0: there is none. -/
theorem index_any (A : Option Addr) (n c : Nat) (l : List Int) (w : World) (hn : l.length = n) (hr : Row w A (iv l)) (hsz : n ≤ 17592186044416) :
    Calls Try.prog 103 #[.slice A n c, .func (.func 94) #[] #[]] w fun e w' => (∃ i : Int, e = .returned (.int .i64 i) ∧ (0 ≤ i ↔ l.all okPart = false)) ∧ w = w' := by
  have HN := Lib.hid hn
  clear hn
  go_enter Try.func103, Try.ntmps103
  go_wp2_with fail
  go_loop [8] (fun i => ∃ k : Nat, k ≤ n ∧ i = .int .i64 k ∧ Hid ((l.take k).all okPart = true)) (fun i => n - (intOf i).toNat)
  case atStart => exact ⟨0, Nat.zero_le _, rfl, Lib.hid rfl⟩
  case round =>
    obtain ⟨k, hk, rfl, hall⟩ := hrel
    by_cases hlt : k < n
    · have hkl : k < l.length := by rw [HN.out]; exact hlt
      obtain ⟨b, o, rfl, hb, h4⟩ := hr.icell hkl
      have htk : (l.take (k + 1)).all okPart = ((l.take k).all okPart && okPart l[k]) := by rw [List.take_succ_eq_append_getElem hkl, List.all_append]; simp
      have hmem := List.getElem_mem hkl
      obtain ⟨x, hx⟩ : ∃ x, x = l[k] := ⟨_, rfl⟩
      rw [← hx] at h4 htk hmem
      have HTK := Lib.hid htk
      clear hx htk
      cases hok : okPart x
      · have hno : l.all okPart = false := by
          cases h : l.all okPart
          · rfl
          · rw [List.all_eq_true.1 h _ hmem] at hok
            cases hok
        have HNO := Lib.hid hno
        have HOK := Lib.hid hok
        clear hno hok
        go_wp2_with fail
        refine (bad_any x w).mono ?_
        rw [HOK.out]
        rintro e w' ⟨rfl, rfl⟩
        go_wp2_with fail
        go_ret
        exact ⟨⟨_, rfl, by rw [HNO.out]; simp⟩, rfl⟩
      · have HOK := Lib.hid hok
        clear hok
        go_wp2_with fail
        refine (bad_any x w).mono ?_
        rw [HOK.out]
        rintro e w' ⟨rfl, rfl⟩
        go_wp2_with fail
        go_round
        case rel => exact ⟨k + 1, by omega, by go_num, Lib.hid (by rw [HTK.out, hall.out, HOK.out]; rfl)⟩
        case measure => simp [intOf]; omega
    · obtain rfl : k = n := by omega
      have ht : l.take k = l := List.take_of_length_le (by rw [HN.out]; exact Nat.le_refl _)
      have hall2 := hall.out
      rw [ht] at hall2
      have HALL := Lib.hid hall2
      clear hall2
      go_wp2_with fail
      go_ret
      refine ⟨⟨-1, rfl, ?_⟩, rfl⟩
      refine ⟨fun h => absurd h (by decide), fun ⟨x, hx, hb⟩ => ?_⟩
      rw [List.all_eq_true.1 HALL.out x hx] at hb
      cases hb
theorem contains_any (A : Option Addr) (n c : Nat) (l : List Int) (w : World) (hn : l.length = n) (hr : Row w A (iv l)) (hsz : n ≤ 17592186044416) :
    Calls Try.prog 97 #[.slice A n c, .func (.func 94) #[] #[]] w fun e w' => e = .returned (.bool (!l.all okPart)) ∧ w = w' := by
  go_enter Try.func97, Try.ntmps97
  go_wp2_with fail
  refine (index_any A n c l w hn hr hsz).mono ?_
  rintro e w' ⟨⟨i, rfl, hi⟩, rfl⟩
  have HI := Lib.hid hi
  clear hi
  go_wp2_with fail
  go_ret
  refine ⟨ret_bool ?_, rfl⟩
  have h := HI.out
  cases hall : l.all okPart
  · rw [hall] at h
    have := h.2 rfl
    simpa using this
  · rw [hall] at h
    have : ¬ 0 ≤ i := fun h2 => by cases h.1 h2
    simp
    omega
end Go.Proofs.Ytbljacafmkdlmaa

/- head.Right, head.Sectors, head.Newer: what they answer. Conditions: the lengths fit memory. -/
namespace Go.Proofs.Ytbljacafmkdlmaa
set_option maxRecDepth 100000
open Go.RowKit

theorem Blk.six {w : World} {g : Nat} {t : TypeId} {a b c d e f : Value} (h : Blk w g t #[a, b, c, d, e, f]) : (w.cell? ⟨g, 0, none⟩ = some a ∧ w.cell? ⟨g, 1, none⟩ = some b ∧ w.cell? ⟨g, 2, none⟩ = some c ∧ w.cell? ⟨g, 3, none⟩ = some d ∧ w.cell? ⟨g, 4, none⟩ = some e ∧ w.cell? ⟨g, 5, none⟩ = some f) ∧ g < w.heap.size :=
  ⟨⟨h.cell 0, h.cell 1, h.cell 2, h.cell 3, h.cell 4, h.cell 5⟩, h.lt⟩
/-- A head's cells. -/
def Hd.cells (h : Hd) (A : Option Addr) (c : Nat) : Array Value := #[.int .i64 h.b, .int .i64 h.z, .string (str h.n), .int .i64 h.g, .bool h.c, .slice A h.p.length c]
theorem Hd.right_eq (h : Hd) : h.right = (inTo h.b 3 && inTo h.z 256 && (decide (h.n = []) || nameOK h.n) && inTo h.g 1099511627776 && decide (h.p.length ≤ 8) && h.p.all okPart) := rfl

set_option maxHeartbeats 4000000 in
theorem hRight_any (h : Hd) (A : Option Addr) (c : Nat) (w : World) (hr : Row w A (iv h.p)) (hp : h.p.length ≤ 17592186044416) (hnl : h.n.length ≤ 140737488355328) :
    Calls Try.prog 79 #[.agg #[.int .i64 h.b, .int .i64 h.z, .string (str h.n), .int .i64 h.g, .bool h.c, .slice A h.p.length c]] w fun e w' => e = .returned (.bool h.right) ∧ Below w.heap.size w w' := by
  have hB := Blk.new w 60 #[.int .i64 h.b, .int .i64 h.z, .string (str h.n), .int .i64 h.g, .bool h.c, .slice A h.p.length c]
  have hb := (Below.refl w.heap.size w).alloc (Nat.le_refl _) (.cells #[.int .i64 h.b, .int .i64 h.z, .string (str h.n), .int .i64 h.g, .bool h.c, .slice A h.p.length c] 60)
  have hra := hr.alloc (.cells #[.int .i64 h.b, .int .i64 h.z, .string (str h.n), .int .i64 h.g, .bool h.c, .slice A h.p.length c] 60)
  have hre := h.right_eq
  obtain ⟨m, hm⟩ : ∃ m, m = h.p.length := ⟨_, rfl⟩
  rw [← hm] at hB hb hra hp hre ⊢
  obtain ⟨b1, h1⟩ : ∃ b1, b1 = inTo h.b 3 := ⟨_, rfl⟩
  obtain ⟨b2, h2⟩ : ∃ b2, b2 = inTo h.z 256 := ⟨_, rfl⟩
  obtain ⟨b4, h4⟩ : ∃ b4, b4 = inTo h.g 1099511627776 := ⟨_, rfl⟩
  obtain ⟨b6, h6⟩ : ∃ b6, b6 = h.p.all okPart := ⟨_, rfl⟩
  rw [← h1, ← h2, ← h4, ← h6] at hre
  have W1 := fun u => within_any h.b 3 u
  have W2 := fun u => within_any h.z 256 u
  have W4 := fun u => within_any h.g 1099511627776 u
  have W6 := fun u (hu : Row u A (iv h.p)) => contains_any A m c h.p u hm.symm hu hp
  rw [← h1] at W1
  rw [← h2] at W2
  rw [← h4] at W4
  rw [← h6] at W6
  have HRE := Lib.hid hre
  have HM := Lib.hid hm
  have HW1 := Lib.hid W1
  have HW2 := Lib.hid W2
  have HW4 := Lib.hid W4
  have HW6 := Lib.hid W6
  clear hre hm h1 h2 h4 h6 W1 W2 W4 W6 hr
  by_cases hn0 : h.n = []
  · have hnn : (decide (h.n = []) || nameOK h.n) = true := by rw [hn0]; rfl
    rw [hnn] at HRE
    rw [hn0] at hB hb hra ⊢
    clear hnn
    have hfin : (h.right = (b1 && b2 && true && b4 && decide (m ≤ 8) && b6)) := HRE.out
    have HFIN := Lib.hid hfin
    clear hfin HRE hn0
    go_enter Try.func79, Try.ntmps79
    go_wp2_with fail
    refine (HW1.out _).mono ?_
    rintro e w' ⟨rfl, rfl⟩
    cases b1
    · go_wp2_with fail
      go_ret
      exact ⟨ret_bool (by rw [HFIN.out]; simp), hb⟩
    go_wp2_with fail
    refine (HW2.out _).mono ?_
    rintro e w' ⟨rfl, rfl⟩
    cases b2
    · go_wp2_with fail
      go_ret
      exact ⟨ret_bool (by rw [HFIN.out]; simp), hb⟩
    go_wp2_with fail
    refine (HW4.out _).mono ?_
    rintro e w' ⟨rfl, rfl⟩
    cases b4
    · go_wp2_with fail
      go_ret
      exact ⟨ret_bool (by rw [HFIN.out]; simp), hb⟩
    by_cases hm8 : m ≤ 8
    · go_wp2_with fail
      refine (HW6.out _ (hra)).mono ?_
      rintro e w' ⟨rfl, rfl⟩
      go_wp2_with fail
      go_ret
      exact ⟨ret_bool (by rw [HFIN.out, decide_eq_true hm8]; simp), hb⟩
    · go_wp2_with fail
      go_ret
      exact ⟨ret_bool (by rw [HFIN.out, decide_eq_false hm8]; simp), hb⟩
  · obtain ⟨b3, h3⟩ : ∃ b3, b3 = nameOK h.n := ⟨_, rfl⟩
    have hnn : (decide (h.n = []) || nameOK h.n) = b3 := by rw [decide_eq_false hn0, ← h3]; rfl
    rw [hnn] at HRE
    have HFIN : Hid (h.right = (b1 && b2 && b3 && b4 && decide (m ≤ 8) && b6)) := HRE
    have F3 := fun u => fRight_any h.n u hnl
    rw [← h3] at F3
    have HF3 := Lib.hid F3
    have hne : (h.n == []) = false := by rw [beq_eq_false_iff_ne]; exact hn0
    clear hnn HRE F3 h3 hn0
    obtain ⟨nm, hnm⟩ : ∃ nm, nm = h.n := ⟨_, rfl⟩
    rw [← hnm] at hB hb hra HF3 hne ⊢
    clear hnm
    go_enter Try.func79, Try.ntmps79
    go_wp2_with fail
    refine (HF3.out _).mono ?_
    rintro e w2 ⟨rfl, hb2⟩
    obtain ⟨⟨f1, f2, f3, f4, f5, f6⟩, f7⟩ := (hB.belowAll hb2).six
    have hra2 := hra.below hb2
    have hbw := below_all hb hb2
    go_wp2_with fail
    refine (HW1.out _).mono ?_
    rintro e w' ⟨rfl, rfl⟩
    cases b1
    · go_wp2_with fail
      go_ret
      exact ⟨ret_bool (by rw [HFIN.out]; simp), hbw⟩
    go_wp2_with fail
    refine (HW2.out _).mono ?_
    rintro e w' ⟨rfl, rfl⟩
    cases b2
    · go_wp2_with fail
      go_ret
      exact ⟨ret_bool (by rw [HFIN.out]; simp), hbw⟩
    cases b3
    · go_wp2_with fail
      go_ret
      exact ⟨ret_bool (by rw [HFIN.out]; simp), hbw⟩
    go_wp2_with fail
    refine (HW4.out _).mono ?_
    rintro e w' ⟨rfl, rfl⟩
    cases b4
    · go_wp2_with fail
      go_ret
      exact ⟨ret_bool (by rw [HFIN.out]; simp), hbw⟩
    by_cases hm8 : m ≤ 8
    · go_wp2_with fail
      refine (HW6.out _ (hra2)).mono ?_
      rintro e w' ⟨rfl, rfl⟩
      go_wp2_with fail
      go_ret
      exact ⟨ret_bool (by rw [HFIN.out, decide_eq_true hm8]; simp), hbw⟩
    · go_wp2_with fail
      go_ret
      exact ⟨ret_bool (by rw [HFIN.out, decide_eq_false hm8]; simp), hbw⟩
end Go.Proofs.Ytbljacafmkdlmaa

/- pentimentoref04.Right: what it answers. Condition: the name's length fits memory. -/
namespace Go.Proofs.Ytbljacafmkdlmaa
set_option maxRecDepth 100000
open Go.RowKit

theorem contains_take (l : List UInt8) (c : UInt8) (j : Nat) (hj : j < l.length) : (l.take (j + 1)).contains c = ((l.take j).contains c || (l[j] == c)) := by
  rw [List.take_succ_eq_append_getElem hj]
  rw [Bool.eq_iff_iff]
  simp only [List.contains_eq_mem, decide_eq_true_eq, List.mem_append, List.mem_singleton, Bool.or_eq_true, beq_iff_eq]
  constructor
  · rintro (h | h)
    · exact .inl h
    · exact .inr h.symm
  · rintro (h | h)
    · exact .inl h
    · exact .inr h.symm

set_option maxHeartbeats 4000000 in
theorem rRight4_any (l : List UInt8) (w : World) (hsz : l.length ≤ 140737488355328) :
    Calls Try.prog 98 #[.string (str l)] w fun e w' => e = .returned (.bool (nameOK l)) ∧ Below w.heap.size w w' := by
  obtain ⟨n, hn⟩ : ∃ n, n = l.length := ⟨_, rfl⟩
  have hss : (str l).size = n := by rw [str_size, hn]
  have hsl : (str signs).size = 38 := rfl
  have hsl2 : signs.length = 38 := rfl
  have HN := Lib.hid hn
  have HSL := Lib.hid hsl2
  rw [← hn] at hsz
  clear hn hsl2
  go_enter Try.func98, Try.ntmps98
  go_wp2_with fail
  rw [show ({ data := #[97, 98, 99, 100, 101, 102, 103, 104, 105, 106, 107, 108, 109, 110, 111, 112, 113, 114, 115, 116, 117, 118, 119, 120, 121, 122, 48, 49, 50, 51, 52, 53, 54, 55, 56, 57, 46, 45] } : ByteArray) = str signs from rfl]
  go_loopw [4] (fun i wr => ∃ k : Nat, k ≤ n ∧ i = .int .i64 k ∧ Hid ((l.take k).all chOK = true) ∧ Below w.heap.size w wr) (fun i _ => n - (intOf i).toNat)
  case atStart => exact ⟨0, Nat.zero_le _, rfl, Lib.hid rfl, Below.refl _ _⟩
  case round =>
    obtain ⟨k, hk, rfl, hall, hb⟩ := hrel
    by_cases hlt : k < n
    · have hkl : k < l.length := by rw [← HN.out]; exact hlt
      obtain ⟨ch, hc⟩ : ∃ ch, ch = l[k]'hkl := ⟨_, rfl⟩
      have hmem : ch ∈ l := by rw [hc]; exact List.getElem_mem hkl
      have htk : (l.take (k + 1)).all chOK = ((l.take k).all chOK && chOK ch) := by rw [List.take_succ_eq_append_getElem hkl, List.all_append, ← hc]; simp
      have hi1 := fun u => run_str_at (P := Try.prog) Try.underlying9 l k hkl u
      rw [← hc] at hi1
      have HTK := Lib.hid htk
      obtain ⟨cn, hcn⟩ : ∃ cn, cn = ch.toNat := ⟨_, rfl⟩
      rw [← hcn] at hi1
      have HCN := Lib.hid hcn
      clear hc htk hcn
      go_wp2_with fail
      obtain ⟨wo, rfl⟩ : ∃ wo : World, wo = wr := ⟨_, rfl⟩
      go_loopw [5, 6] (fun f i wr => ∃ j : Nat, j ≤ 38 ∧ i = .int .i64 j ∧ f = .bool ((signs.take j).contains ch) ∧ Below w.heap.size w wr) (fun _ i _ => 38 - (intOf i).toNat)
      case atStart => exact ⟨0, Nat.zero_le _, rfl, rfl, hb⟩
      case round =>
        obtain ⟨j, hj, rfl, rfl, hb2⟩ := hrel
        by_cases hlt2 : j < 38
        · have hjl : j < signs.length := by rw [HSL.out]; exact hlt2
          have hi2 := fun u => run_str_at (P := Try.prog) Try.underlying9 signs j hjl u
          have hct := contains_take signs ch j hjl
          obtain ⟨sj, hsj⟩ : ∃ sj, sj = signs[j]'hjl := ⟨_, rfl⟩
          rw [← hsj] at hi2 hct
          obtain ⟨sn, hsn⟩ : ∃ sn, sn = sj.toNat := ⟨_, rfl⟩
          rw [← hsn] at hi2
          have heq : (sj == ch) = decide (sn = cn) := by
            rw [Bool.eq_iff_iff, beq_iff_eq, decide_eq_true_eq, hsn, HCN.out]
            exact ⟨fun h => by rw [h], fun h => UInt8.toNat_inj.1 h⟩
          rw [heq] at hct
          have HCT := Lib.hid hct
          obtain ⟨fb, hfb⟩ : ∃ fb, fb = (signs.take j).contains ch := ⟨_, rfl⟩
          rw [← hfb] at HCT ⊢
          clear hsj hsn heq hct hfb
          by_cases hsc : sn = cn
          · subst hsc
            go_wp2_with fail
            go_region
            all_goals go_wp2_with fail
            all_goals
              go_roundw
              case rel => exact ⟨j + 1, by omega, by go_num, by rw [HCT.out]; simp, hb2.drew⟩
              case measure => simp [intOf]; omega
          · have hsc2 : ((sn : Int) == (cn : Int)) = false := by
              rw [beq_eq_false_iff_ne]
              omega
            have HSC := Lib.hid hsc
            clear hsc
            go_wp2_with fail
            go_region
            all_goals go_wp2_with fail
            all_goals
              go_roundw
              case rel => exact ⟨j + 1, by omega, by go_num, by rw [HCT.out, decide_eq_false HSC.out]; simp, hb2.drew⟩
              case measure => simp [intOf]; omega
        · obtain rfl : j = 38 := by omega
          have hfull : (signs.take 38).contains ch = chOK ch := by rw [← signs_has ch]; rfl
          rw [hfull]
          clear hfull
          cases hch : chOK ch
          · have hno : nameOK l = false := by
              unfold nameOK
              have : l.all chOK = false := by
                cases h : l.all chOK
                · rfl
                · rw [List.all_eq_true.1 h _ hmem] at hch
                  cases hch
              rw [this]
              rfl
            have HNO := Lib.hid hno
            clear hno
            go_wp2_with fail
            go_ret
            exact ⟨ret_bool (by rw [HNO.out]), hb2⟩
          · have hrel2 : ∃ k' : Nat, k' ≤ n ∧ Value.int .i64 ((k : Int) + 1) = .int .i64 k' ∧ Hid ((l.take k').all chOK = true) := ⟨k + 1, hlt, by go_num, Lib.hid (by rw [HTK.out, hall.out, hch]; rfl)⟩
            have HREL2 := Lib.hid hrel2
            clear hrel2
            go_wp2_with fail
            go_roundw
            case rel =>
              obtain ⟨k', a1, a2, a3⟩ := HREL2.out
              exact ⟨k', a1, a2, a3, hb2⟩
            case measure => simp [intOf]; omega
    · obtain rfl : k = n := by omega
      have ht : l.take k = l := List.take_of_length_le (by rw [← HN.out]; exact Nat.le_refl _)
      have hall2 := hall.out
      rw [ht] at hall2
      have hnm : nameOK l = (decide (1 ≤ k) && decide (k ≤ 15)) := by unfold nameOK; rw [hall2, ← HN.out]; rfl
      have HNM := Lib.hid hnm
      clear ht hall2 hnm
      by_cases h1 : 1 ≤ k
      · go_wp2_with fail
        go_ret
        exact ⟨ret_bool (by rw [HNM.out, decide_eq_true h1]; simp; omega), hb⟩
      · go_wp2_with fail
        go_ret
        exact ⟨ret_bool (by rw [HNM.out, decide_eq_false h1]; rfl), hb⟩
end Go.Proofs.Ytbljacafmkdlmaa

/- pentimentoref05.Right: what it answers. Conditions: the lengths fit memory. -/
namespace Go.Proofs.Ytbljacafmkdlmaa
set_option maxRecDepth 100000
open Go.RowKit

set_option maxHeartbeats 4000000 in
theorem rRight5_any (h : Hd) (A : Option Addr) (c : Nat) (w : World) (hr : Row w A (iv h.p)) (hp : h.p.length ≤ 17592186044416) (hnl : h.n.length ≤ 140737488355328) :
    Calls Try.prog 81 #[.agg #[.int .i64 h.b, .int .i64 h.z, .string (str h.n), .int .i64 h.g, .bool h.c, .slice A h.p.length c]] w fun e w' => e = .returned (.bool h.right) ∧ Below w.heap.size w w' := by
  have hB := Blk.new w 56 #[.int .i64 h.b, .int .i64 h.z, .string (str h.n), .int .i64 h.g, .bool h.c, .slice A h.p.length c]
  have hb := (Below.refl w.heap.size w).alloc (Nat.le_refl _) (.cells #[.int .i64 h.b, .int .i64 h.z, .string (str h.n), .int .i64 h.g, .bool h.c, .slice A h.p.length c] 56)
  have hra := hr.alloc (.cells #[.int .i64 h.b, .int .i64 h.z, .string (str h.n), .int .i64 h.g, .bool h.c, .slice A h.p.length c] 56)
  have hre := h.right_eq
  obtain ⟨m, hm⟩ : ∃ m, m = h.p.length := ⟨_, rfl⟩
  rw [← hm] at hB hb hra hp hre ⊢
  have HRE := Lib.hid hre
  have HM := Lib.hid hm
  clear hre hm hr
  by_cases c0 : h.b < 0
  · have hx : inTo h.b 3 = false := by unfold inTo; simp only [Bool.and_eq_false_iff, decide_eq_false_iff_not]; omega
    rw [hx] at HRE
    clear hx
    go_enter Try.func81, Try.ntmps81
    go_wp2_with fail
    go_ret
    exact ⟨ret_bool (by rw [HRE.out]; simp), hb⟩
  by_cases c1 : 3 < h.b
  · have hx : inTo h.b 3 = false := by unfold inTo; simp only [Bool.and_eq_false_iff, decide_eq_false_iff_not]; omega
    rw [hx] at HRE
    clear hx
    go_enter Try.func81, Try.ntmps81
    go_wp2_with fail
    go_ret
    exact ⟨ret_bool (by rw [HRE.out]; simp), hb⟩
  by_cases c2 : h.z < 0
  · have hx : inTo h.z 256 = false := by unfold inTo; simp only [Bool.and_eq_false_iff, decide_eq_false_iff_not]; omega
    rw [hx] at HRE
    clear hx
    go_enter Try.func81, Try.ntmps81
    go_wp2_with fail
    go_ret
    exact ⟨ret_bool (by rw [HRE.out]; simp), hb⟩
  by_cases c3 : 256 < h.z
  · have hx : inTo h.z 256 = false := by unfold inTo; simp only [Bool.and_eq_false_iff, decide_eq_false_iff_not]; omega
    rw [hx] at HRE
    clear hx
    go_enter Try.func81, Try.ntmps81
    go_wp2_with fail
    go_ret
    exact ⟨ret_bool (by rw [HRE.out]; simp), hb⟩
  by_cases c4 : h.g < 0
  · have hx : inTo h.g 1099511627776 = false := by unfold inTo; simp only [Bool.and_eq_false_iff, decide_eq_false_iff_not]; omega
    rw [hx] at HRE
    clear hx
    go_enter Try.func81, Try.ntmps81
    go_wp2_with fail
    go_ret
    exact ⟨ret_bool (by rw [HRE.out]; simp), hb⟩
  by_cases c5 : 1099511627776 < h.g
  · have hx : inTo h.g 1099511627776 = false := by unfold inTo; simp only [Bool.and_eq_false_iff, decide_eq_false_iff_not]; omega
    rw [hx] at HRE
    clear hx
    go_enter Try.func81, Try.ntmps81
    go_wp2_with fail
    go_ret
    exact ⟨ret_bool (by rw [HRE.out]; simp), hb⟩
  by_cases c6 : 8 < m
  · have hx : decide (m ≤ 8) = false := decide_eq_false (by omega)
    rw [hx] at HRE
    clear hx
    go_enter Try.func81, Try.ntmps81
    go_wp2_with fail
    go_ret
    exact ⟨ret_bool (by rw [HRE.out]; simp), hb⟩
  have hx1 : inTo h.b 3 = true := by unfold inTo; simp only [Bool.and_eq_true, decide_eq_true_eq]; omega
  have hx2 : inTo h.z 256 = true := by unfold inTo; simp only [Bool.and_eq_true, decide_eq_true_eq]; omega
  have hx3 : inTo h.g 1099511627776 = true := by unfold inTo; simp only [Bool.and_eq_true, decide_eq_true_eq]; omega
  have hx4 : decide (m ≤ 8) = true := decide_eq_true (by omega)
  rw [hx1, hx2, hx3, hx4] at HRE
  have HRE2 : Hid (h.right = ((decide (h.n = []) || nameOK h.n) && h.p.all okPart)) := Lib.hid (by rw [HRE.out]; simp)
  clear hx1 hx2 hx3 hx4 HRE
  obtain ⟨⟨f1, f2, f3, f4, f5, f6⟩, f7⟩ := hB.six
  go_enter Try.func81, Try.ntmps81
  go_wp2_with fail
  go_loop [3] (fun i => ∃ k : Nat, k ≤ m ∧ i = .int .i64 k ∧ Hid ((h.p.take k).all okPart = true)) (fun i => m - (intOf i).toNat)
  case atStart => exact ⟨0, Nat.zero_le _, rfl, Lib.hid rfl⟩
  case round =>
    obtain ⟨k, hk, rfl, hall⟩ := hrel
    by_cases hlt : k < m
    · have hkl : k < h.p.length := by rw [← HM.out]; exact hlt
      obtain ⟨b, o, rfl, hbb, h4⟩ := hra.icell hkl
      have htk : (h.p.take (k + 1)).all okPart = ((h.p.take k).all okPart && okPart h.p[k]) := by rw [List.take_succ_eq_append_getElem hkl, List.all_append]; simp
      have hmem := List.getElem_mem hkl
      obtain ⟨x, hx⟩ : ∃ x, x = h.p[k] := ⟨_, rfl⟩
      rw [← hx] at h4 htk hmem
      have HTK := Lib.hid htk
      clear hx htk
      cases hok : okPart x
      · have hno : h.p.all okPart = false := by
          cases h : h.p.all okPart
          · rfl
          · rw [List.all_eq_true.1 h _ hmem] at hok
            cases hok
        have hend : h.right = false := by rw [HRE2.out, hno]; simp
        have HEND := Lib.hid hend
        have hbad : x < 0 ∨ (¬ x < 0 ∧ 65535 < x) := by
          unfold okPart at hok
          simp only [Bool.and_eq_false_iff, decide_eq_false_iff_not] at hok
          omega
        clear hno hend hok
        rcases hbad with h1 | ⟨h1, h2⟩
        all_goals
          go_wp2_with fail
          go_ret
          exact ⟨ret_bool (by rw [HEND.out]), hb⟩
      · have hgood : ¬ x < 0 ∧ ¬ 65535 < x := by
          unfold okPart at hok
          simp only [Bool.and_eq_true, decide_eq_true_eq] at hok
          omega
        obtain ⟨h1, h2⟩ := hgood
        have HOK := Lib.hid hok
        clear hok
        go_wp2_with fail
        go_round
        case rel => exact ⟨k + 1, by omega, by go_num, Lib.hid (by rw [HTK.out, hall.out, HOK.out]; rfl)⟩
        case measure => simp [intOf]; omega
    · obtain rfl : k = m := by omega
      have ht : h.p.take k = h.p := List.take_of_length_le (by rw [← HM.out]; exact Nat.le_refl _)
      have hall2 := hall.out
      rw [ht] at hall2
      have hend : h.right = (decide (h.n = []) || nameOK h.n) := by rw [HRE2.out, hall2]; simp
      have HEND := Lib.hid hend
      clear hall2 ht hend
      by_cases hn0 : h.n = []
      · have hee : h.right = true := by rw [HEND.out, hn0]; rfl
        have HEE := Lib.hid hee
        rw [hn0] at f3
        rw [hn0] at hb hra
        clear hee
        try rw [hn0]
        go_wp2_with fail
        go_ret
        exact ⟨ret_bool (by rw [HEE.out]), by first | exact hb | (rw [hn0]; exact hb)⟩
      · have hee : h.right = nameOK h.n := by rw [HEND.out, decide_eq_false hn0]; rfl
        have HEE := Lib.hid hee
        have hne : (h.n == []) = false := by rw [beq_eq_false_iff_ne]; exact hn0
        clear hee hn0
        go_wp2_with fail
        refine (rRight4_any h.n _ hnl).mono ?_
        rintro e w2 ⟨rfl, hb2⟩
        go_wp2_with fail
        go_ret
        exact ⟨ret_bool (by rw [HEE.out]), below_all hb hb2⟩
end Go.Proofs.Ytbljacafmkdlmaa
