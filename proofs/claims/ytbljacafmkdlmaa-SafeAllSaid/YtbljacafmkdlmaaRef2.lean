/- pentimentoref02: Of, Seal, Open. Conditions: the bytes fit memory. -/
import Derived.Test.YtbljacafmkdlmaaRef1
namespace Go.Proofs.Ytbljacafmkdlmaa
open Go.RowKit

set_option maxHeartbeats 1000000 in
theorem rOf_any (l : List UInt8) (w : World) (hl : l.length ≤ 140737488355328) :
    Calls Try.prog 47 #[.string (str l)] w fun e w' => e = .returned (.int .i64 (adler l : Int)) ∧ w = w' := by
  obtain ⟨n, hn⟩ : ∃ n, n = l.length := ⟨_, rfl⟩
  have hsz : (str l).size = n := by rw [str_size, hn]
  have hnl : n ≤ 140737488355328 := by omega
  have HN := Lib.hid hn
  clear hn hl
  go_enter Try.func47, Try.ntmps47
  go_wp2_with fail
  go_loop [3, 4, 5] (fun a b i => ∃ k : Nat, k ≤ n ∧ i = .int .i64 k ∧ a = .int .i64 ((raw (l.take k)).1 : Int) ∧ b = .int .i64 ((raw (l.take k)).2 : Int)) (fun _ _ i => n - (intOf i).toNat)
  case atStart => exact ⟨0, Nat.zero_le _, rfl, rfl, rfl⟩
  case round =>
    obtain ⟨k, hk, rfl, rfl, rfl⟩ := hrel
    have hle := raw_le (l.take k)
    have hlk : (l.take k).length ≤ k := List.length_take_le _ _
    have h1 : (raw (l.take k)).1 ≤ 1 + 255 * n := by omega
    have h2 : (raw (l.take k)).2 ≤ 65520 * k := by omega
    clear hle hlk
    by_cases hlt : k < n
    · have hkl : k < l.length := by rw [← HN.out]; exact hlt
      have hat := run_str_at (P := Try.prog) Try.underlying9 l k hkl
      have hc := l[k].toNat_lt
      have hs : raw (l.take (k + 1)) = ((raw (l.take k)).1 + l[k].toNat, (raw (l.take k)).2 + ((raw (l.take k)).1 + l[k].toNat) % 65521) := by
        rw [List.take_succ_eq_append_getElem hkl, raw_snoc]
      have HS := Lib.hid hs
      clear hs
      obtain ⟨c, hcc⟩ : ∃ c, c = l[k].toNat := ⟨_, rfl⟩
      rw [← hcc] at hat hc HS
      clear hcc
      obtain ⟨p, hp⟩ : ∃ p, p = raw (l.take k) := ⟨_, rfl⟩
      rw [← hp] at HS h1 h2 ⊢
      clear hp
      have h3 : (p.1 + c) % 65521 < 65521 := Nat.mod_lt _ (by omega)
      go_wp2_with fail
      go_round
      case rel =>
        refine ⟨k + 1, by omega, by go_num, ?_, ?_⟩
        · rw [HS.out]; go_num
        · rw [HS.out]; go_num
      case measure => simp [intOf]; omega
    · obtain rfl : k = n := by omega
      have hr := raw_mod l
      rw [List.take_of_length_le (by rw [← HN.out]; exact Nat.le_refl _)] at h1 h2 ⊢
      have HR := Lib.hid hr
      clear hr
      go_wp2_with fail
      go_ret
      refine ⟨ret_int ?_, rfl⟩
      have := HR.out
      unfold adler
      omega

theorem numB_sum (l : List UInt8) : numB 4 (adler l : Int) = be 4 (adler l) := by
  have := adler_lt l
  have h : ft (adler l : Int) 4 = true := by rw [ft_four]; simp; omega
  simp only [numB, h, show rt 4 = true from rfl, Bool.and_self, if_true, Int.toNat_natCast]
  rfl

set_option maxHeartbeats 1000000 in
theorem rSeal_any (l : List UInt8) (w : World) (hl : l.length ≤ 140737488355328) :
    Calls Try.prog 48 #[.string (str l)] w fun e w' => e = .returned (.string (str (sealed l))) ∧ Below w.heap.size w w' := by
  have hcat := run_cat (P := Try.prog) l (be 4 (adler l)) (by rw [be_length]; omega)
  go_enter Try.func48, Try.ntmps48
  go_wp2_with fail
  refine (rOf_any l w hl).mono ?_
  rintro e w1 ⟨rfl, rfl⟩
  go_wp2_with fail
  refine (num_any (adler l : Int) 4 w).mono ?_
  rintro e w1 ⟨rfl, hb⟩
  rw [numB_sum]
  go_wp2_with fail
  go_ret
  exact ⟨rfl, hb⟩

theorem str_firsts {l : List UInt8} {m : Nat} (_h : m ≤ l.length) : (str l).extract 0 m = str (l.take m) := by
  rw [str_of ((str l).extract 0 m)]
  congr 1
  simp [str]

/-- What the document opens. -/
def openedB (l : List UInt8) : List UInt8 := (opened l).getD []

set_option maxHeartbeats 1000000 in
theorem rOpen_any (l : List UInt8) (w : World) (hl : l.length ≤ 140737488355328) :
    Calls Try.prog 69 #[.string (str l)] w fun e w' => e = .returned (.tuple #[.string (str (openedB l)), .bool (opened l).isSome]) ∧ Below w.heap.size w w' := by
  obtain ⟨n, hn⟩ : ∃ n, n = l.length := ⟨_, rfl⟩
  have hsz : (str l).size = n := by rw [str_size, hn]
  have hnl : n ≤ 140737488355328 := by omega
  by_cases h4 : n < 4
  · have ho : opened l = none := by unfold opened; rw [if_neg (by omega)]
    rw [show openedB l = [] from by simp [openedB, ho], ho]
    clear ho hn
    go_enter Try.func69, Try.ntmps69
    go_wp2_with fail
    go_ret2
    exact ⟨rfl, Below.refl _ _⟩
  · have hcut : (str l).extract 0 (n - 4) = str (l.take (n - 4)) := str_firsts (by omega)
    have HN := Lib.hid hn
    clear hn
    have hlim : (l.take (n - 4)).length ≤ 140737488355328 := by rw [List.length_take]; omega
    by_cases he : sealed (l.take (n - 4)) = l
    · have ho : opened l = some (l.take (n - 4)) := by unfold opened; rw [← HN.out, if_pos ⟨by omega, he⟩]
      have heb : (sealed (l.take (n - 4)) == l) = true := by rw [beq_iff_eq]; exact he
      have HO := Lib.hid ho
      clear ho he
      go_enter Try.func69, Try.ntmps69
      go_wp2_with fail
      refine (rSeal_any (l.take (n - 4)) w hlim).mono ?_
      rintro e w1 ⟨rfl, hb⟩
      go_wp2_with fail
      go_ret2
      exact ⟨by rw [show openedB l = l.take (n - 4) from by simp [openedB, HO.out], HO.out]; rfl, hb⟩
    · have ho : opened l = none := by unfold opened; rw [← HN.out, if_neg (fun h => he h.2)]
      have heb : (sealed (l.take (n - 4)) == l) = false := by rw [beq_eq_false_iff_ne]; exact he
      have HO := Lib.hid ho
      clear ho he
      go_enter Try.func69, Try.ntmps69
      go_wp2_with fail
      refine (rSeal_any (l.take (n - 4)) w hlim).mono ?_
      rintro e w1 ⟨rfl, hb⟩
      go_wp2_with fail
      go_ret2
      exact ⟨by rw [show openedB l = [] from by simp [openedB, HO.out], HO.out]; rfl, hb⟩
end Go.Proofs.Ytbljacafmkdlmaa
