/- Several texts in one: Sum, Seal. -/
import Derived.Test.YtbljacafmkdlmaaBlk
import Derived.Test.YtbljacafmkdlmaaMgA
import Derived.Deep.QuietTactic
import Derived.BigQuiet
/- slices.Clone, slices.Equal at []byte; sum.Of. Conditions: the bytes fit memory. -/
namespace Go.Proofs.Ytbljacafmkdlmaa
open Go.RowKit

set_option maxHeartbeats 400000 in
theorem cloneB_any (A : Option Addr) (n c : Nat) (l : List UInt8) (w : World) (hn : l.length = n) (hr : Row w A (bv l)) (hsz : n ≤ 140737488355328) :
    Calls Try.prog 76 #[.slice A n c] w fun e w' => ∃ A' c', e = .returned (.slice A' n c') ∧ Own w' w.heap.size 5 1 A' n c' (bv l) ∧ Below w.heap.size w w' := by
  obtain ⟨i0, hi0, hz0, hz1, hz2⟩ := info_parts info_u8
  have heq := fun w1 : World => Lib.run_eql_slice_nil (P := Try.prog) w1 23 5 A n c 0 0 Try.underlying23
  cases A with
  | none =>
    have hl : l = [] := by
      rcases hr with h | ⟨g, o, h, _⟩
      · simpa [bv] using h
      · cases h
    subst hl
    obtain rfl : n = 0 := by simpa using hn.symm
    clear hn
    go_enter Try.func76, Try.ntmps76
    go_wp2
    go_ret
    exact ⟨none, 0, rfl, Own.nil _ _ _ _ _, Below.refl _ _⟩
  | some a =>
    have HN := Lib.hid hn
    go_enter Try.func76, Try.ntmps76
    have hsrc : Src Try.prog (w.alloc (.cells #[] 5)) 23 (.slice (some a) n c) 1 n (bv l) := Src.slice Try.underlying23 (hr.alloc _) (by rw [bv_length, hn, Nat.mul_one]) (bv_one l)
    clear hn
    go_wp2_with (at_builtin; refine wpList_app _ rfl _ _ 23 23 rfl w.heap.size 5 i0 _ 1 1 Try.underlying23 hi0 hz0 hz1 hz2 rfl _ 0 0 [] rfl (Own.nil _ _ _ _ _) _ n (bv l) rfl hsrc (by simp only [maxLen]; omega) (by omega) (by simp) ?_; intro A3 c3 w3 hown3 hg3 hb3)
    go_ret
    refine ⟨A3, c3, rfl, by simpa using hown3, ?_⟩
    exact ((Below.refl _ _).alloc (Nat.le_refl _) _).grown hg3 (by simp) (fun k hk => by simp [ownB] at hk)

set_option maxHeartbeats 400000 in
theorem equalB_any (A A2 : Option Addr) (n c n2 c2 : Nat) (l l2 : List UInt8) (w : World) (hn : l.length = n) (hr : Row w A (bv l)) (hn2 : l2.length = n2) (hr2 : Row w A2 (bv l2)) (hsz : n ≤ 9223372036854775807) (_hsz2 : n2 ≤ 9223372036854775807) :
    Calls Try.prog 101 #[.slice A n c, .slice A2 n2 c2] w fun e w' => e = .returned (.bool (decide (l = l2))) ∧ ∃ k, w' = w.drewN k := by
  by_cases hne : n = n2
  · have hll : l2.length = n := by omega
    subst hne
    have HN := Lib.hid hn
    have HN2 := Lib.hid hll
    clear hn hll hn2
    go_enter Try.func101, Try.ntmps101
    go_wp2_with fail
    go_loopw [13] (fun i wr => ∃ k : Nat, k ≤ n ∧ i = .int .i64 k ∧ l.take k = l2.take k ∧ ∃ d, wr = w.drewN d) (fun i _ => n - (intOf i).toNat)
    case atStart => exact ⟨0, Nat.zero_le _, rfl, rfl, 0, rfl⟩
    case round =>
      obtain ⟨k, hk, rfl, htk, d, rfl⟩ := hrel
      have HT := Lib.hid htk
      clear htk
      by_cases hlt : k < n
      · have hkl : k < l.length := by rw [HN.out]; exact hlt
        have hkl2 : k < l2.length := by rw [HN2.out]; exact hlt
        obtain ⟨g, o, rfl, hg, hc⟩ := hr.bcell hkl
        obtain ⟨g2, o2, rfl, hg2, hc2⟩ := hr2.bcell hkl2
        have hi1 : (0 : Int) ≤ (k : Int) := by omega
        have hi2 : (k : Int) < (n : Int) := by omega
        by_cases hb : l[k] = l2[k]
        · have hbi : ((l[k].toNat : Int) == (l2[k].toNat : Int)) = true := by rw [hb]; simp
          have hbn : ((l[k].toNat : Int) != (l2[k].toNat : Int)) = false := by rw [hb]; simp
          go_wp2_with fail
          go_quiet (fail)
          go_wp2
          go_roundw
          case rel => exact ⟨k + 1, by omega, by go_num, by rw [List.take_succ_eq_append_getElem hkl, List.take_succ_eq_append_getElem hkl2, HT.out, hb], _, rfl⟩
          case measure => simp [intOf]; omega
        · have hbt : l[k].toNat ≠ l2[k].toNat := fun e => hb (UInt8.toNat_inj.1 e)
          have hbi : ((l[k].toNat : Int) == (l2[k].toNat : Int)) = false := by simp; omega
          have hbn : ((l[k].toNat : Int) != (l2[k].toNat : Int)) = true := by simp; omega
          have hne : decide (l = l2) = false := by
            rw [decide_eq_false_iff_not]
            intro e
            apply hb
            simp only [e]
          have HNE := Lib.hid hne
          clear hne hb hbt
          go_wp2_with fail
          go_quiet (fail)
          go_wp2
          go_ret
          exact ⟨ret_bool (by rw [HNE.out]), _, World.drewN_drewN _ _ _⟩
      · go_wp2_with fail
        go_ret
        obtain rfl : k = n := by omega
        refine ⟨ret_bool ?_, d, rfl⟩
        have := HT.out
        rw [List.take_of_length_le (by rw [HN.out]; exact Nat.le_refl _), List.take_of_length_le (by rw [HN2.out]; exact Nat.le_refl _)] at this
        simp [this]
  · have hb1 : ((n : Int) == (n2 : Int)) = false := by simp; omega
    have hb2 : ((n : Int) != (n2 : Int)) = true := by simp; omega
    go_enter Try.func101, Try.ntmps101
    go_wp2
    go_ret
    refine ⟨ret_bool ?_, 0, rfl⟩
    simp
    rintro rfl
    omega

set_option maxHeartbeats 400000 in
theorem step_any (ch : UInt8) (ga gb : Nat) (a b : Nat) (w : World) (ha : w.cell? ⟨ga, 0, none⟩ = some (.int .i64 (a : Int))) (hb : w.cell? ⟨gb, 0, none⟩ = some (.int .i64 (b : Int))) (ha1 : a < 65521) (hb1 : b < 65521) :
    Calls Try.prog 75 #[.int .u8 (ch.toNat : Int), .pointer (some ⟨ga, 0, none⟩), .pointer (some ⟨gb, 0, none⟩)] w fun e w' =>
      e = .returned (.tuple #[.int .i64 (((a + ch.toNat) % 65521 : Nat) : Int), .int .i64 (((b + (a + ch.toNat) % 65521) % 65521 : Nat) : Int)]) ∧ ∃ k, w' = w.drewN k := by
  have hc := ch.toNat_lt
  obtain ⟨c, hcc⟩ : ∃ c, c = ch.toNat := ⟨_, rfl⟩
  rw [← hcc] at hc ⊢
  clear hcc
  go_enter Try.func75, Try.ntmps75
  go_wp2_with fail
  go_quiet (fail)
  go_wp2
  go_ret2
  exact ⟨rfl, _, rfl⟩

/-- What the closure's two variables hold. -/
def SumSt (w : World) (B : Nat) (p : Nat × Nat) : Prop := Blk w B 3 #[.int .i64 (p.1 : Int)] ∧ Blk w (B + 1) 3 #[.int .i64 (p.2 : Int)]

theorem SumSt.step {w : World} {B : Nat} {p : Nat × Nat} (h : SumSt w B p) (k : Nat) (x y : Nat) : SumSt (((w.drewN k).setCell ⟨B, 0, none⟩ (.int .i64 (x : Int))).setCell ⟨B + 1, 0, none⟩ (.int .i64 (y : Int))) B (x, y) :=
  ⟨((h.1.drewN k).set_ 0 _).far (by simp) _, ((h.2.drewN k).far (by simp) _).set_ 0 _⟩

theorem SumSt.start (w : World) : SumSt ((w.alloc (.cells #[.int .i64 1] 3)).alloc (.cells #[.int .i64 0] 3)) w.heap.size (1, 0) :=
  ⟨(Blk.new _ _ _).alloc _, heap_alloc2_new w _ _⟩

theorem SumSt.facts {w : World} {B : Nat} {p : Nat × Nat} (h : SumSt w B p) : w.cell? ⟨B, 0, none⟩ = some (.int .i64 (p.1 : Int)) ∧ w.cell? ⟨B + 1, 0, none⟩ = some (.int .i64 (p.2 : Int)) ∧
    w.frozen? ⟨B, 0, none⟩ = false ∧ w.frozen? ⟨B + 1, 0, none⟩ = false ∧ B + 1 < w.heap.size :=
  ⟨h.1.cell 0, h.2.cell 0, h.1.frozen 0, h.2.frozen 0, h.2.lt⟩

set_option maxHeartbeats 1000000 in
theorem of_any (L : Option Addr) (m cl : Nat) (ps : List Piece) (w : World) (hm : ps.length = m) (hL : Row w L (pv ps)) (hps : Pieces w ps) (hml : m ≤ 140737488355328) (hpl : ∀ p, p ∈ ps → p.l.length ≤ 140737488355328) :
    Calls Try.prog 44 #[.slice L m cl] w fun e w' => e = .returned (.int .i64 (adler (ps.flatMap Piece.l) : Int)) ∧ Below w.heap.size w w' := by
  have HM := Lib.hid hm
  clear hm
  have HPL := Lib.hid hpl
  clear hpl
  go_enter Try.func44, Try.ntmps44
  go_wp2_with fail
  go_loopw [13] (fun i wr => ∃ k : Nat, k ≤ m ∧ i = .int .i64 k ∧ SumSt wr w.heap.size (ad ((ps.take k).flatMap Piece.l)) ∧ Below w.heap.size w wr) (fun i _ => m - (intOf i).toNat)
  case atStart => exact ⟨0, Nat.zero_le _, rfl, SumSt.start w, ((Below.refl _ _).alloc (Nat.le_refl _) _).alloc (by simp) _⟩
  case round =>
    obtain ⟨k, hk, rfl, hst, hbel⟩ := hrel
    by_cases hlt : k < m
    · have hkl : k < ps.length := by rw [HM.out]; exact hlt
      obtain ⟨p, hp⟩ : ∃ p, p = ps[k] := ⟨_, rfl⟩
      have hcell := (hL.below hbel).at_ (by rw [pv_length]; omega)
      obtain ⟨g, o, rfl, hg, hc0⟩ := hcell
      have hc : wr.cell? ⟨g, o + k, none⟩ = some (.slice p.A p.l.length p.c) := by rw [hp]; exact hc0 k _ (pv_at hkl)
      have hpr : Row w p.A (bv p.l) := by rw [hp]; exact hps _ (List.getElem_mem hkl)
      have hpn : p.l.length ≤ 140737488355328 := by rw [hp]; exact HPL.out _ (List.getElem_mem hkl)
      have hacc : ad ((ps.take (k + 1)).flatMap Piece.l) = adFrom (ad ((ps.take k).flatMap Piece.l)) p.l := by
        rw [List.take_succ_eq_append_getElem hkl, List.flatMap_append, ad, adFrom_append, hp]
        simp [ad]
      have HACC := Lib.hid hacc
      have hlim := ad_lt ((ps.take k).flatMap Piece.l)
      clear hacc hc0 hp
      obtain ⟨st, hst0⟩ : ∃ st, st = ad ((ps.take k).flatMap Piece.l) := ⟨_, rfl⟩
      rw [← hst0] at hst hlim HACC
      clear hst0
      go_wp2_with fail
      obtain ⟨wo, rfl⟩ : ∃ wo : World, wo = wr := ⟨_, rfl⟩
      obtain ⟨n, hn⟩ : ∃ n, n = p.l.length := ⟨_, rfl⟩
      rw [← hn] at hpn ⊢
      have HN := Lib.hid hn
      clear hn
      go_loopw [19] (fun i wr => ∃ j : Nat, j ≤ n ∧ i = .int .i64 j ∧ SumSt wr w.heap.size (adFrom st (p.l.take j)) ∧ Below w.heap.size w wr) (fun i _ => n - (intOf i).toNat)
      case atStart => exact ⟨0, Nat.zero_le _, rfl, hst, hbel⟩
      case round =>
        obtain ⟨j, hj, rfl, hst2, hbel2⟩ := hrel
        by_cases hjl : j < n
        · have hjl2 : j < p.l.length := by rw [← HN.out]; exact hjl
          have hpr2 : Row wr p.A (bv p.l) := hpr.below hbel2
          obtain ⟨g2, o2, hpA, hg2, hc2⟩ := hpr2.bcell hjl2
          obtain ⟨f1, f2, f3, f4, f5⟩ := hst2.facts
          have hl2 := adFrom_lt st hlim (p.l.take j)
          rw [hpA]
          clear hpA
          go_wp2_with (go_at_call 75; refine (step_any _ _ _ _ _ _ (by simpa using f1) (by simpa using f2) hl2.1 hl2.2).mono ?_; rintro e w' ⟨rfl, d, rfl⟩)
          go_roundw
          case rel =>
            refine ⟨j + 1, by omega, by go_num, ?_, (((below_drewN hbel2 d).setCell (Nat.le_refl _) _).setCell (by simp) _)⟩
            have e : adFrom st (p.l.take (j + 1)) = adStep (adFrom st (p.l.take j)) p.l[j] := by rw [List.take_succ_eq_append_getElem hjl2, adFrom_snoc]
            rw [e]
            have h3 := hst2.step d (adStep (adFrom st (p.l.take j)) p.l[j]).1 (adStep (adFrom st (p.l.take j)) p.l[j]).2
            have e2 : (((adStep (adFrom st (p.l.take j)) p.l[j]).2 : Nat) : Int) = (((adFrom st (p.l.take j)).2 : Int) + (((adFrom st (p.l.take j)).1 : Int) + (p.l[j].toNat : Int))) % 65521 := by
              simp only [adStep]
              omega
            have e1 : (((adStep (adFrom st (p.l.take j)) p.l[j]).1 : Nat) : Int) = (((adFrom st (p.l.take j)).1 : Int) + (p.l[j].toNat : Int)) % 65521 := by
              simp only [adStep]
              omega
            rw [e1, e2] at h3
            exact h3
          case measure => simp [intOf]; omega
        · obtain rfl : j = n := by omega
          rw [List.take_of_length_le (by rw [← HN.out]; exact Nat.le_refl _), ← HACC.out] at hst2
          clear HACC
          go_wp2_with fail
          go_roundw
          case rel => exact ⟨k + 1, by omega, by go_num, hst2, hbel2⟩
          case measure => simp [intOf]; omega
    · obtain rfl : k = m := by omega
      obtain ⟨f1, f2, f3, f4, f5⟩ := hst.facts
      have hl2 := ad_lt ((ps.take k).flatMap Piece.l)
      rw [List.take_of_length_le (by rw [HM.out]; exact Nat.le_refl _)] at f1 f2 hl2
      go_wp2_with fail
      go_ret
      exact ⟨rfl, hbel⟩
end Go.Proofs.Ytbljacafmkdlmaa

/- sum.Seal, sum.Open. Conditions: the bytes fit memory. -/
namespace Go.Proofs.Ytbljacafmkdlmaa
open Go.RowKit

theorem put_yes_at (B : Nat) (A : Option Addr) (n c : Nat) (W : Nat) (width : Int) (hwW : width = W) (L : Option Addr) (m cl : Nat) (l : List Int) (xs : List UInt8) (w : World) (hm : l.length = m) (hL : Row w L (iv l))
    (hB : B ≤ w.heap.size) (hown : Own w B 5 1 A n c (bv xs)) (hW : rt width = true) (hF : fitAll width l = true) (hLA : ∀ a, L = some a → ownB A c ≠ some a.block)
    (hsz : n + m * W ≤ 140737488355328) :
    Calls Try.prog 43 #[.slice A n c, .int .i64 width, .slice L m cl] w fun e w' => ∃ A' c', e = .returned (.tuple #[.slice A' (n + m * W) c', .bool true]) ∧
      Own w' B 5 1 A' (n + m * W) c' (bv (xs ++ putB W l)) ∧ Only w w' (fun k => ownB A c = some k) ∧ (ownB A' c' = ownB A c ∨ ∃ g, w.heap.size ≤ g ∧ ownB A' c' = some g) := by
  subst hwW
  exact put_yes B A n c W L m cl l xs w hm hL hB hown hW hF (fun _ => hLA) hsz

theorem adler_fit (l : List UInt8) : fitAll 4 [(adler l : Int)] = true := by
  have := adler_lt l
  simp only [fitAll, List.all_cons, List.all_nil, Bool.and_true, ft_four, Bool.and_eq_true, decide_eq_true_eq]
  omega

theorem row_new {w : World} {cs : Array Value} {e : TypeId} : Row (w.alloc (.cells cs e)) (some ⟨w.heap.size, 0, none⟩) cs.toList :=
  .inr ⟨_, 0, rfl, fun j u hu => by rw [World.cell?_alloc_new]; simpa using hu⟩

set_option maxHeartbeats 1000000 in
theorem seal_any (A : Option Addr) (n c : Nat) (l : List UInt8) (w : World) (hn : l.length = n) (hr : Row w A (bv l)) (hsz : n ≤ 140737488355300) :
    Calls Try.prog 45 #[.slice A n c] w fun e w' => ∃ A' c', e = .returned (.slice A' (n + 4) c') ∧ Own w' w.heap.size 5 1 A' (n + 4) c' (bv (sealed l)) ∧ Below w.heap.size w w' := by
  have HN := Lib.hid hn
  clear hn
  go_enter Try.func45, Try.ntmps45
  go_wp2_with (go_at_call 76; refine (cloneB_any A n c l _ HN.out hr (by omega)).mono ?_; rintro e w1 ⟨A1, c1, rfl, hown1, hb1⟩)
  have hrow : Row (w1.alloc (.cells #[.slice A n c] 23)) (some ⟨w1.heap.size, 0, none⟩) (pv [⟨A, c, l⟩]) := by
    have e : pv [⟨A, c, l⟩] = (#[.slice A n c] : Array Value).toList := by simp [pv, Piece.val, HN.out]
    rw [e]
    exact row_new
  have hb2 : Below w.heap.size w (w1.alloc (.cells #[.slice A n c] 23)) := hb1.alloc hb1.size _
  have hps : Pieces (w1.alloc (.cells #[.slice A n c] 23)) [⟨A, c, l⟩] := by
    intro p hp
    rw [List.mem_singleton] at hp
    subst hp
    exact hr.below hb2
  refine (of_any _ 1 1 [⟨A, c, l⟩] _ rfl hrow hps (by omega) (by intro p hp; rw [List.mem_singleton] at hp; subst hp; show l.length ≤ _; rw [HN.out]; omega)).mono ?_
  rintro e w2 ⟨rfl, hb3⟩
  have hal : ([⟨A, c, l⟩] : List Piece).flatMap Piece.l = l := by simp
  rw [hal]
  have hb23 : Below w1.heap.size w1 w2 := ((Below.refl _ _).alloc (Nat.le_refl _) _).trans (hb3.mono (by simp))
  have hown2 := hown1.below hb23
  have hb4 : Below w.heap.size w w2 := hb1.trans (hb23.mono hb1.size)
  have HAD := Lib.hid (adler_fit l)
  clear hal hrow hps hb3
  go_wp2_with fail
  refine (put_yes_at w.heap.size A1 n c1 4 4 rfl _ 1 1 [(adler l : Int)] l _ rfl row_new (by have := hb4.size; simp; omega) (hown2.alloc _) rfl HAD.out ?_ (by omega)).mono ?_
  · intro a ha
    injection ha with ha
    subst ha
    intro hk
    have := (hown2.lt _ hk).2
    simp at this
  rintro e w3 ⟨A3, c3, rfl, hown3, honly, hblk⟩
  go_wp2_with fail
  go_ret
  refine ⟨A3, c3, rfl, ?_, ?_⟩
  · have e : putB 4 [(adler l : Int)] = be 4 (adler l) := by simp [putB]
    rw [e] at hown3
    exact hown3
  · refine (Only.belowB (B := w.heap.size) (F := (w.heap.size ≤ ·)) ?_ (fun k hk => hk) (Nat.le_refl _))
    refine (Only.of_belowB (hb4.alloc hb4.size _)).trans honly (fun i hi hk => ?_)
    exact (hown2.lt _ hk).1

set_option maxHeartbeats 1000000 in
theorem open_short (A : Option Addr) (n c : Nat) (w : World) (hsz : n < 4) :
    Calls Try.prog 86 #[.slice A n c] w fun e w' => e = .returned (.tuple #[.slice none 0 0, .bool false]) ∧ w = w' := by
  go_enter Try.func86, Try.ntmps86
  go_wp2_with fail
  go_ret2
  exact ⟨rfl, rfl⟩

set_option maxHeartbeats 1000000 in
theorem open_no (A : Option Addr) (n c : Nat) (l : List UInt8) (w : World) (hn : l.length = n) (hnc : n ≤ c) (hr : Row w A (bv l)) (h4 : 4 ≤ n) (hsz : n ≤ 140737488355300) (hno : opened l = none) :
    Calls Try.prog 86 #[.slice A n c] w fun e w' => e = .returned (.tuple #[.slice none 0 0, .bool false]) ∧ Below w.heap.size w w' := by
  have hne : decide (sealed (l.take (n - 4)) = l) = false := by
    rw [decide_eq_false_iff_not]
    intro h
    unfold opened at hno
    rw [hn, if_pos ⟨h4, h⟩] at hno
    cases hno
  have HNE := Lib.hid hne
  have HN := Lib.hid hn
  clear hne hn hno
  go_enter Try.func86, Try.ntmps86
  have hlt : (l.take (n - 4)).length = n - 4 := by rw [List.length_take, HN.out]; omega
  have hrt : Row w A (bv (l.take (n - 4))) := by rw [← bv_take]; exact hr.take _
  have HLT := Lib.hid hlt
  clear hlt
  go_wp2_with fail
  refine (seal_any A (n - 4) c (l.take (n - 4)) w HLT.out hrt (by omega)).mono ?_
  rintro e w1 ⟨A1, c1, rfl, hown1, hb1⟩
  go_wp2_with fail
  refine (equalB_any A1 A n c1 n c (sealed (l.take (n - 4))) l w1 (by rw [sealed_length, HLT.out]; omega) hown1.row HN.out (hr.below hb1) (by omega) (by omega)).mono ?_
  rintro e w2 ⟨rfl, d, rfl⟩
  rw [HNE.out]
  go_wp2_with fail
  go_ret2
  exact ⟨rfl, below_drewN hb1 d⟩

set_option maxHeartbeats 1000000 in
theorem open_yes (A : Option Addr) (n c : Nat) (l m : List UInt8) (w : World) (hn : l.length = n) (hnc : n ≤ c) (hr : Row w A (bv l)) (hsz : n ≤ 140737488355300) (hyes : opened l = some m) :
    Calls Try.prog 86 #[.slice A n c] w fun e w' => ∃ A' c', e = .returned (.tuple #[.slice A' (n - 4) c', .bool true]) ∧ m.length = n - 4 ∧ 4 ≤ n ∧ Own w' w.heap.size 5 1 A' (n - 4) c' (bv m) ∧ Below w.heap.size w w' := by
  have hs := opened_some hyes
  have h4 : 4 ≤ n := by rw [← hn, ← hs, sealed_length]; omega
  have hml : m.length = n - 4 := by rw [← hn, ← hs, sealed_length]; omega
  have hmt : m = l.take (n - 4) := by rw [← hs, ← hml]; simp [sealed]
  have HS := Lib.hid hs
  have HN := Lib.hid hn
  have HML := Lib.hid hml
  have hrt : Row w A (bv m) := by rw [hmt, ← bv_take]; exact hr.take _
  clear hs hn hyes hml hmt
  go_enter Try.func86, Try.ntmps86
  go_wp2_with fail
  refine (seal_any A (n - 4) c m w HML.out hrt (by omega)).mono ?_
  rintro e w1 ⟨A1, c1, rfl, hown1, hb1⟩
  go_wp2_with fail
  refine (equalB_any A1 A n c1 n c (sealed m) l w1 (by rw [sealed_length, HML.out]; omega) hown1.row HN.out (hr.below hb1) (by omega) (by omega)).mono ?_
  rintro e w2 ⟨rfl, d, rfl⟩
  rw [decide_eq_true HS.out]
  go_wp2_with fail
  refine (cloneB_any A (n - 4) c m (w1.drewN d) HML.out ((hrt.below hb1).drewN d) (by omega)).mono ?_
  rintro e w3 ⟨A3, c3, rfl, hown3, hb3⟩
  go_wp2_with fail
  go_ret2
  exact ⟨A3, c3, rfl, HML.out, h4, hown3.less hb1.size, below_all (below_drewN hb1 d) hb3⟩
end Go.Proofs.Ytbljacafmkdlmaa
