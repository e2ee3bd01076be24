/- Several texts in one: Ref1, Ref2, RefP. -/
import Derived.Test.YtbljacafmkdlmaaMgA
import Derived.Test.YtbljacafmkdlmaaBlk
/- pentimentoref01: Right, limit, Num. No condition. -/
namespace Go.Proofs.Ytbljacafmkdlmaa
open Go.RowKit

set_option maxHeartbeats 400000 in
theorem rRight_any (width : Int) (w : World) :
    Calls Try.prog 77 #[.int .i64 width] w fun e w' => e = .returned (.bool (rt width)) ∧ w = w' := by
  by_cases h1 : width = 1
  · subst h1
    go_enter Try.func77, Try.ntmps77
    go_wp2
    go_ret
    exact ⟨rfl, rfl⟩
  by_cases h2 : width = 2
  · subst h2
    go_enter Try.func77, Try.ntmps77
    go_wp2
    go_ret
    exact ⟨rfl, rfl⟩
  by_cases h4 : width = 4
  · subst h4
    go_enter Try.func77, Try.ntmps77
    go_wp2
    go_ret
    exact ⟨rfl, rfl⟩
  by_cases h8 : width = 8
  · subst h8
    go_enter Try.func77, Try.ntmps77
    go_wp2
    go_ret
    exact ⟨rfl, rfl⟩
  have e : rt width = false := by simp [rt, h1, h2, h4, h8]
  have e1 : (width == 1) = false := by simpa using h1
  have e2 : (width == 2) = false := by simpa using h2
  have e4 : (width == 4) = false := by simpa using h4
  have e8 : (width == 8) = false := by simpa using h8
  go_enter Try.func77, Try.ntmps77
  go_wp2
  go_ret
  exact ⟨by rw [e]; rfl, rfl⟩

set_option maxHeartbeats 400000 in
theorem limit_any (width : Int) (w : World) (hw : rt width = true) :
    Calls Try.prog 83 #[.int .i64 width] w fun e w' => e = .returned (.int .i64 (lim width)) ∧ w = w' := by
  rcases rt_cases hw with rfl | rfl | rfl | rfl
  · go_enter Try.func83, Try.ntmps83
    go_wp2
    refine wp_loop_rounds 2 ?_
    iterate 2 (rw [rounds_succ]; go_wp2)
    go_ret
    exact ⟨rfl, rfl⟩
  · go_enter Try.func83, Try.ntmps83
    go_wp2
    refine wp_loop_rounds 3 ?_
    iterate 3 (rw [rounds_succ]; go_wp2)
    go_ret
    exact ⟨rfl, rfl⟩
  · go_enter Try.func83, Try.ntmps83
    go_wp2
    refine wp_loop_rounds 5 ?_
    iterate 5 (rw [rounds_succ]; go_wp2)
    go_ret
    exact ⟨rfl, rfl⟩
  · go_enter Try.func83, Try.ntmps83
    go_wp2
    go_ret
    exact ⟨rfl, rfl⟩

/-- string([]byte{b}). -/
theorem run_byte (w : World) (q : Nat) : (convert 23 9 (.slice (some ⟨w.heap.size, 0, none⟩) 1 1)).run Try.prog (w.alloc (.cells #[.int .u8 ((q : Int) % 256)] 5)) =
    .ok (.string (str [UInt8.ofNat (q % 256)])) (w.alloc (.cells #[.int .u8 ((q : Int) % 256)] 5)) := by
  refine run_string (l := [UInt8.ofNat (q % 256)]) rfl _ _ _ Try.underlying23 Try.underlying5 Try.underlying9 (.inr ⟨_, 0, rfl, fun j u hu => ?_⟩)
  rw [World.cell?_alloc_new]
  have e : bv [UInt8.ofNat (q % 256)] = [.int .u8 ((q : Int) % 256)] := by
    simp only [bv, List.map_cons, List.map_nil, toNat_ofNat _ (Nat.mod_lt q (show 0 < 256 by omega))]
    rfl
  rw [e] at hu
  simpa using hu

/-- One number of a width, as the document writes it; nothing, if it does not fit. -/
def numB (width n : Int) : List UInt8 := if rt width && ft n width then be width.toNat n.toNat else []

set_option maxHeartbeats 1000000 in
theorem num_any (n width : Int) (w : World) :
    Calls Try.prog 58 #[.int .i64 n, .int .i64 width] w fun e w' => e = .returned (.string (str (numB width n))) ∧ Below w.heap.size w w' := by
  cases hw : rt width
  · have hn : numB width n = [] := by simp [numB, hw]
    rw [hn]
    clear hn
    go_enter Try.func58, Try.ntmps58
    go_wp2_with (go_at_call 77; refine (rRight_any _ _).mono ?_; rintro e w' ⟨rfl, rfl⟩)
    go_ret
    exact ⟨rfl, Below.refl _ _⟩
  · cases hf : ft n width
    · have hn : numB width n = [] := by simp [numB, hf]
      rw [hn]
      clear hn
      by_cases h0 : n < 0
      · clear hf
        go_enter Try.func58, Try.ntmps58
        go_wp2_with (go_at_call 77; refine (rRight_any _ _).mono ?_; rintro e w' ⟨rfl, rfl⟩)
        go_ret
        exact ⟨rfl, Below.refl _ _⟩
      · have hl : lim width ≤ n := by
          have : ¬ (0 ≤ n ∧ n < lim width) := by
            intro h
            have : ft n width = true := by simpa [ft] using h
            rw [this] at hf
            cases hf
          omega
        clear hf
        go_enter Try.func58, Try.ntmps58
        go_wp2_with (first
          | (go_at_call 77; refine (rRight_any _ _).mono ?_; rintro e w' ⟨rfl, rfl⟩)
          | (go_at_call 83; refine (limit_any _ _ hw).mono ?_; rintro e w' ⟨rfl, rfl⟩))
        go_ret
        exact ⟨rfl, Below.refl _ _⟩
    · have hn : numB width n = be width.toNat n.toNat := by simp [numB, hw, hf]
      rw [hn]
      clear hn
      obtain ⟨h0, hl⟩ := ft_lt hf
      clear hf
      have hl' : ¬ lim width ≤ n := by omega
      obtain ⟨W, rfl⟩ : ∃ W : Nat, width = W := ⟨width.toNat, by rcases rt_cases hw with h | h | h | h <;> omega⟩
      obtain ⟨x, rfl⟩ := Int.eq_ofNat_of_zero_le h0
      have hW8 : W ≤ 8 := by rcases rt_cases hw with h | h | h | h <;> omega
      rw [Int.toNat_natCast, Int.toNat_natCast]
      go_enter Try.func58, Try.ntmps58
      go_wp2_with (first
        | (go_at_call 77; refine (rRight_any _ _).mono ?_; rintro e w' ⟨rfl, rfl⟩)
        | (go_at_call 83; refine (limit_any _ _ hw).mono ?_; rintro e w' ⟨rfl, rfl⟩))
      go_loopw [0, 5, 6] (fun q s i wr => ∃ j : Nat, j ≤ W ∧ i = .int .i64 j ∧ q = .int .i64 (x / 256 ^ j : Nat) ∧ s = .string (str (be j x)) ∧ Below w.heap.size w wr) (fun _ _ i _ => W - (intOf i).toNat)
      case atStart => exact ⟨0, Nat.zero_le _, rfl, by simp, rfl, Below.refl _ _⟩
      case round =>
        obtain ⟨j, hj, rfl, rfl, rfl, hb⟩ := hrel
        obtain ⟨q, hq⟩ : ∃ q, q = x / 256 ^ j := ⟨_, rfl⟩
        have hq63 : q ≤ 9223372036854775807 := by
          have h1 := lim_le hw
          have h2 : q ≤ x := by rw [hq]; exact Nat.div_le_self _ _
          omega
        rw [← hq]
        have HQ := Lib.hid hq
        clear hq
        by_cases hlt : j < W
        · have hcv := run_byte wr q
          have hcat := run_cat (P := Try.prog) [UInt8.ofNat (q % 256)] (be j x) (by rw [be_length]; simp; omega)
          go_wp2_with fail
          go_roundw
          case rel =>
            refine ⟨j + 1, by omega, by go_num, ?_, ?_, hb.alloc hb.size _⟩
            · rw [HQ.out, Nat.pow_succ, ← Nat.div_div_eq_div_mul]
              go_num
            · rw [be_cons, HQ.out]
          case measure => simp [intOf]; omega
        · obtain rfl : j = W := by omega
          go_wp2_with fail
          go_ret
          exact ⟨rfl, hb⟩
end Go.Proofs.Ytbljacafmkdlmaa

/- pentimentoref02: Of, Seal, Open. Conditions: the bytes fit memory. -/
namespace Go.Proofs.Ytbljacafmkdlmaa
open Go.RowKit

set_option maxHeartbeats 1000000 in
theorem rOf_any (l : List UInt8) (w : World) (hl : l.length ≤ 140737488355328) :
    Calls Try.prog 47 #[.string (str l)] w fun e w' => e = .returned (.int .i64 (adler l : Int)) ∧ w = w' := by
  obtain ⟨n, hn⟩ : ∃ n, n = l.length := ⟨_, rfl⟩
  have hsz : (str l).size = n := by rw [str_size, hn]
  have hnl : n ≤ 140737488355328 := by omega
  have HN := Lib.hid hn
  clear hn hl
  go_enter Try.func47, Try.ntmps47
  go_wp2_with fail
  go_loop [3, 4, 5] (fun a b i => ∃ k : Nat, k ≤ n ∧ i = .int .i64 k ∧ a = .int .i64 ((raw (l.take k)).1 : Int) ∧ b = .int .i64 ((raw (l.take k)).2 : Int)) (fun _ _ i => n - (intOf i).toNat)
  case atStart => exact ⟨0, Nat.zero_le _, rfl, rfl, rfl⟩
  case round =>
    obtain ⟨k, hk, rfl, rfl, rfl⟩ := hrel
    have hle := raw_le (l.take k)
    have hlk : (l.take k).length ≤ k := List.length_take_le _ _
    have h1 : (raw (l.take k)).1 ≤ 1 + 255 * n := by omega
    have h2 : (raw (l.take k)).2 ≤ 65520 * k := by omega
    clear hle hlk
    by_cases hlt : k < n
    · have hkl : k < l.length := by rw [← HN.out]; exact hlt
      have hat := run_str_at (P := Try.prog) Try.underlying9 l k hkl
      have hc := l[k].toNat_lt
      have hs : raw (l.take (k + 1)) = ((raw (l.take k)).1 + l[k].toNat, (raw (l.take k)).2 + ((raw (l.take k)).1 + l[k].toNat) % 65521) := by
        rw [List.take_succ_eq_append_getElem hkl, raw_snoc]
      have HS := Lib.hid hs
      clear hs
      obtain ⟨c, hcc⟩ : ∃ c, c = l[k].toNat := ⟨_, rfl⟩
      rw [← hcc] at hat hc HS
      clear hcc
      obtain ⟨p, hp⟩ : ∃ p, p = raw (l.take k) := ⟨_, rfl⟩
      rw [← hp] at HS h1 h2 ⊢
      clear hp
      have h3 : (p.1 + c) % 65521 < 65521 := Nat.mod_lt _ (by omega)
      go_wp2_with fail
      go_round
      case rel =>
        refine ⟨k + 1, by omega, by go_num, ?_, ?_⟩
        · rw [HS.out]; go_num
        · rw [HS.out]; go_num
      case measure => simp [intOf]; omega
    · obtain rfl : k = n := by omega
      have hr := raw_mod l
      rw [List.take_of_length_le (by rw [← HN.out]; exact Nat.le_refl _)] at h1 h2 ⊢
      have HR := Lib.hid hr
      clear hr
      go_wp2_with fail
      go_ret
      refine ⟨ret_int ?_, rfl⟩
      have := HR.out
      unfold adler
      omega

theorem numB_sum (l : List UInt8) : numB 4 (adler l : Int) = be 4 (adler l) := by
  have := adler_lt l
  have h : ft (adler l : Int) 4 = true := by rw [ft_four]; simp; omega
  simp only [numB, h, show rt 4 = true from rfl, Bool.and_self, if_true, Int.toNat_natCast]
  rfl

set_option maxHeartbeats 1000000 in
theorem rSeal_any (l : List UInt8) (w : World) (hl : l.length ≤ 140737488355328) :
    Calls Try.prog 48 #[.string (str l)] w fun e w' => e = .returned (.string (str (sealed l))) ∧ Below w.heap.size w w' := by
  have hcat := run_cat (P := Try.prog) l (be 4 (adler l)) (by rw [be_length]; omega)
  go_enter Try.func48, Try.ntmps48
  go_wp2_with fail
  refine (rOf_any l w hl).mono ?_
  rintro e w1 ⟨rfl, rfl⟩
  go_wp2_with fail
  refine (num_any (adler l : Int) 4 w).mono ?_
  rintro e w1 ⟨rfl, hb⟩
  rw [numB_sum]
  go_wp2_with fail
  go_ret
  exact ⟨rfl, hb⟩

theorem str_firsts {l : List UInt8} {m : Nat} (_h : m ≤ l.length) : (str l).extract 0 m = str (l.take m) := by
  rw [str_of ((str l).extract 0 m)]
  congr 1
  simp [str]

/-- What the document opens. -/
def openedB (l : List UInt8) : List UInt8 := (opened l).getD []

set_option maxHeartbeats 1000000 in
theorem rOpen_any (l : List UInt8) (w : World) (hl : l.length ≤ 140737488355328) :
    Calls Try.prog 69 #[.string (str l)] w fun e w' => e = .returned (.tuple #[.string (str (openedB l)), .bool (opened l).isSome]) ∧ Below w.heap.size w w' := by
  obtain ⟨n, hn⟩ : ∃ n, n = l.length := ⟨_, rfl⟩
  have hsz : (str l).size = n := by rw [str_size, hn]
  have hnl : n ≤ 140737488355328 := by omega
  by_cases h4 : n < 4
  · have ho : opened l = none := by unfold opened; rw [if_neg (by omega)]
    rw [show openedB l = [] from by simp [openedB, ho], ho]
    clear ho hn
    go_enter Try.func69, Try.ntmps69
    go_wp2_with fail
    go_ret2
    exact ⟨rfl, Below.refl _ _⟩
  · have hcut : (str l).extract 0 (n - 4) = str (l.take (n - 4)) := str_firsts (by omega)
    have HN := Lib.hid hn
    clear hn
    have hlim : (l.take (n - 4)).length ≤ 140737488355328 := by rw [List.length_take]; omega
    by_cases he : sealed (l.take (n - 4)) = l
    · have ho : opened l = some (l.take (n - 4)) := by unfold opened; rw [← HN.out, if_pos ⟨by omega, he⟩]
      have heb : (sealed (l.take (n - 4)) == l) = true := by rw [beq_iff_eq]; exact he
      have HO := Lib.hid ho
      clear ho he
      go_enter Try.func69, Try.ntmps69
      go_wp2_with fail
      refine (rSeal_any (l.take (n - 4)) w hlim).mono ?_
      rintro e w1 ⟨rfl, hb⟩
      go_wp2_with fail
      go_ret2
      exact ⟨by rw [show openedB l = l.take (n - 4) from by simp [openedB, HO.out], HO.out]; rfl, hb⟩
    · have ho : opened l = none := by unfold opened; rw [← HN.out, if_neg (fun h => he h.2)]
      have heb : (sealed (l.take (n - 4)) == l) = false := by rw [beq_eq_false_iff_ne]; exact he
      have HO := Lib.hid ho
      clear ho he
      go_enter Try.func69, Try.ntmps69
      go_wp2_with fail
      refine (rSeal_any (l.take (n - 4)) w hlim).mono ?_
      rintro e w1 ⟨rfl, hb⟩
      go_wp2_with fail
      go_ret2
      exact ⟨by rw [show openedB l = [] from by simp [openedB, HO.out], HO.out]; rfl, hb⟩
end Go.Proofs.Ytbljacafmkdlmaa

/- pentimentoref01.Put and Text. Conditions: the bytes fit memory. -/
namespace Go.Proofs.Ytbljacafmkdlmaa
open Go.RowKit

theorem numB_ok {width n : Int} (h : (rt width && ft n width) = true) : numB width n = be width.toNat n.toNat ∧ (be width.toNat n.toNat == ([] : List UInt8)) = false := by
  refine ⟨by unfold numB; rw [if_pos h], ?_⟩
  rw [beq_eq_false_iff_ne]
  intro e
  have h2 := be_length width.toNat n.toNat
  rw [e] at h2
  rw [Bool.and_eq_true] at h
  rcases rt_cases h.1 with rfl | rfl | rfl | rfl <;> simp at h2
theorem numB_no {width n : Int} (h : (rt width && ft n width) = false) : numB width n = [] := by unfold numB; rw [h]; rfl
theorem fitAll_get {width : Int} {l : List Int} (h : fitAll width l = true) {k : Nat} (hk : k < l.length) : ft l[k] width = true := by
  have := List.all_eq_true.1 h l[k] (List.getElem_mem hk)
  simpa [ft] using this
theorem fitAll_succ {width : Int} {l : List Int} {k : Nat} (hk : k < l.length) : fitAll width (l.take (k + 1)) = (fitAll width (l.take k) && ft l[k] width) := by
  rw [List.take_succ_eq_append_getElem hk]
  unfold fitAll
  rw [List.all_append]
  simp [ft]
theorem fitAll_take {width : Int} {l : List Int} (k : Nat) (h : fitAll width l = true) : fitAll width (l.take k) = true := by
  unfold fitAll at h ⊢
  rw [List.all_eq_true] at h ⊢
  exact fun x hx => h x (List.mem_of_mem_take hx)

set_option maxHeartbeats 1000000 in
theorem rText_any (s : List UInt8) (width : Int) (w : World) (hsz : s.length ≤ 140737488355328) :
    Calls Try.prog 99 #[.string (str s), .int .i64 width] w fun e w' =>
      e = .returned (.tuple #[.string (str (if rt width && ft s.length width then be width.toNat s.length ++ s else [])), .bool (rt width && ft s.length width)]) ∧ Below w.heap.size w w' := by
  cases hok : rt width && ft s.length width with
  | false =>
    have h0 := numB_no hok
    go_enter Try.func99, Try.ntmps99
    go_wp2_with fail
    refine (num_any s.length width w).mono ?_
    rintro e w1 ⟨rfl, hb1⟩
    rw [h0]
    go_wp2_with fail
    go_ret2
    exact ⟨rfl, hb1⟩
  | true =>
    obtain ⟨h0, hne⟩ := numB_ok hok
    rw [Int.toNat_natCast] at h0 hne
    have hw8 : width.toNat ≤ 8 := by
      rw [Bool.and_eq_true] at hok
      rcases rt_cases hok.1 with rfl | rfl | rfl | rfl <;> decide
    have hcat := run_cat (P := Try.prog) (be width.toNat s.length) s (by rw [be_length]; omega)
    go_enter Try.func99, Try.ntmps99
    go_wp2_with fail
    refine (num_any s.length width w).mono ?_
    rintro e w1 ⟨rfl, hb1⟩
    rw [h0]
    go_wp2_with fail
    go_ret2
    exact ⟨rfl, hb1⟩

set_option maxHeartbeats 1000000 in
theorem rPut_any (width : Int) (L : Option Addr) (m cl : Nat) (l : List Int) (w : World) (hm : l.length = m) (hL : Row w L (iv l)) (hsz : m ≤ 1000000) :
    Calls Try.prog 46 #[.int .i64 width, .slice L m cl] w fun e w' =>
      e = .returned (.tuple #[.string (str (if rt width && fitAll width l then putB width.toNat l else [])), .bool (rt width && fitAll width l)]) ∧ Below w.heap.size w w' := by
  have HM := Lib.hid hm
  clear hm
  obtain ⟨ok, hok0⟩ : ∃ ok, ok = (rt width && fitAll width l) := ⟨_, rfl⟩
  obtain ⟨out, hout⟩ : ∃ out, out = (if ok then putB width.toNat l else []) := ⟨_, rfl⟩
  rw [← hok0, ← hout]
  have HOK := Lib.hid hok0
  have HOUT := Lib.hid hout
  clear hok0 hout
  go_enter Try.func46, Try.ntmps46
  go_wp2_with fail
  go_loopw [6, 7] (fun s i wr => ∃ k : Nat, k ≤ m ∧ i = .int .i64 k ∧ s = .string (str (putB width.toNat (l.take k))) ∧ (k = 0 ∨ rt width = true) ∧ fitAll width (l.take k) = true ∧ Below w.heap.size w wr) (fun _ i _ => m - (intOf i).toNat)
  case atStart => exact ⟨0, Nat.zero_le _, rfl, rfl, .inl rfl, by simp [fitAll], Below.refl _ _⟩
  case round =>
    obtain ⟨k, hk, rfl, rfl, hrt, hfit, hbel⟩ := hrel
    have HRT := Lib.hid hrt
    have HFIT := Lib.hid hfit
    clear hrt hfit
    by_cases hlt : k < m
    · have hkl : k < l.length := by rw [HM.out]; exact hlt
      obtain ⟨g, o, rfl, hg, hc⟩ := (hL.below hbel).icell hkl
      cases hok : rt width && ft l[k] width with
      | false =>
        have h0 := numB_no hok
        have hno : (rt width && fitAll width l) = false := by
          cases hh : rt width && fitAll width l with
          | false => rfl
          | true =>
            rw [Bool.and_eq_true] at hh
            rw [hh.1, fitAll_get hh.2 hkl] at hok
            cases hok
        have HNO := Lib.hid hno
        clear hno hok
        go_wp2_with fail
        refine (num_any l[k] width wr).mono ?_
        rintro e w1 ⟨rfl, hb1⟩
        rw [h0]
        go_wp2_with fail
        go_ret2
        rw [HOUT.out, HOK.out, HNO.out]
        exact ⟨rfl, hbel.trans (hb1.mono hbel.size)⟩
      | true =>
        obtain ⟨h0, hne⟩ := numB_ok hok
        rw [Bool.and_eq_true] at hok
        have hw8 : width.toNat ≤ 8 := by rcases rt_cases hok.1 with rfl | rfl | rfl | rfl <;> decide
        have hpl := putB_length width.toNat (l.take k)
        have hle : (l.take k).length * width.toNat ≤ 1000000 * 8 := Nat.mul_le_mul (by rw [List.length_take]; omega) hw8
        have hcat := run_cat (P := Try.prog) (putB width.toNat (l.take k)) (be width.toNat l[k].toNat) (by rw [be_length, hpl]; omega)
        have hs := putB_take_succ width.toNat l k hkl
        have hf2 := fitAll_succ (width := width) hkl
        have HS := Lib.hid hs
        have HF := Lib.hid hf2
        clear hs hf2 hpl hle
        go_wp2_with fail
        refine (num_any l[k] width wr).mono ?_
        rintro e w1 ⟨rfl, hb1⟩
        rw [h0]
        go_wp2_with fail
        go_roundw
        case rel => exact ⟨k + 1, by omega, by go_num, by rw [HS.out], .inr hok.1, by rw [HF.out, HFIT.out, hok.2]; rfl, hbel.trans (hb1.mono hbel.size)⟩
        case measure => simp [intOf]; omega
    · obtain rfl : k = m := by omega
      have hf : l.take k = l := List.take_of_length_le (by rw [HM.out]; exact Nat.le_refl _)
      have hfit := HFIT.out
      rw [hf] at hfit ⊢
      have HF := Lib.hid hfit
      clear hfit
      go_wp2_with fail
      refine (rRight_any _ _).mono ?_
      rintro e w' ⟨rfl, rfl⟩
      go_wp2_with fail
      go_ret2
      rw [HOUT.out, HOK.out, HF.out, Bool.and_true]
      refine ⟨?_, hbel⟩
      rcases HRT.out with rfl | hrt
      · have : l = [] := List.eq_nil_of_length_eq_zero HM.out
        subst this
        cases rt width <;> rfl
      · rw [hrt]
        rfl
end Go.Proofs.Ytbljacafmkdlmaa
