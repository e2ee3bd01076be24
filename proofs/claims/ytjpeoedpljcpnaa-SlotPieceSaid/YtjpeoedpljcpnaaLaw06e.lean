/- The law SlotPiece. Conditions: the slots' numbers are int64's; the length fits memory. -/
import Derived.Test.YtjpeoedpljcpnaaAlive06
namespace Go.Proofs.Ytjpeoedpljcpnaa
open Go.RowKit

set_option maxHeartbeats 8000000 in
theorem piece_law (A : Option Addr) (n c : Nat) (l : List Sl) (m : Int) (w : World) (hn : l.length = n) (hr : Row w A (scells l)) (hnc : n ≤ c) (hi : ∀ s ∈ l, -9223372036854775808 ≤ s.h ∧ s.h ≤ 9223372036854775807) :
    Calls Try.prog 8 #[.slice A n c, .int .i64 m] w fun e w' => e = .returned (.bool true) ∧ Below w.heap.size w w' := by
  have HN := Lib.hid hn
  have HI := Lib.hid hi
  clear hn hi
  by_cases h1 : 1000 < n
  · go_enter Try.func8, Try.ntmps8
    go_wp2_with fail
    refine (alive_any w).mono ?_
    rintro e w2 ⟨rfl, hb2⟩
    go_wp2_with fail
    go_ret
    exact ⟨rfl, hb2⟩
  by_cases h2 : m < 1
  · go_enter Try.func8, Try.ntmps8
    go_wp2_with fail
    refine (alive_any w).mono ?_
    rintro e w2 ⟨rfl, hb2⟩
    go_wp2_with fail
    go_ret
    exact ⟨rfl, hb2⟩
  by_cases h3 : (n : Int) < m
  · go_enter Try.func8, Try.ntmps8
    go_wp2_with fail
    refine (alive_any w).mono ?_
    rintro e w2 ⟨rfl, hb2⟩
    go_wp2_with fail
    go_ret
    exact ⟨rfl, hb2⟩
  obtain ⟨k, rfl⟩ := Int.eq_ofNat_of_zero_le (show 0 ≤ m by omega)
  have hk0 : 0 < k := by omega
  have hkn : k ≤ n := by omega
  have hkc : (k : Int) ≤ (c : Int) := by omega
  have hrk : Row w A (scells (l.take k)) := by
    have h := hr.take (k * 3)
    rwa [scells_take] at h
  have hlk : (l.take k).length = k := by rw [List.length_take, HN.out]; omega
  have hik : ∀ s ∈ l.take k, -9223372036854775808 ≤ s.h ∧ s.h ≤ 9223372036854775807 := fun s hs => HI.out s (List.mem_of_mem_take hs)
  have hpre := rT_pre l k (n - k)
  rw [show k + (n - k) = n by omega, ← rT_take l k k (Nat.le_refl _)] at hpre
  have hsm := rT_small (l.take k) k
  have hsm2 := rT_small l n
  have hln := rT_len l n
  have HLK := Lib.hid hlk
  have HIK := Lib.hid hik
  clear hlk hik
  go_enter Try.func8, Try.ntmps8
  go_wp2_with fail
  refine wp_region_seq false (.take 0 .copy (.take 3 .copy (.take 4 .copy (.take 5 .cut (.alone 1 (.alone 2 (.alone 6 (.alone 7 (.take 8 .copy (.take 9 .copy .fin)))))))))) (by kernel_rfl) (by kernel_rfl) (by kernel_rfl) ?_
  simp only [pre, nxt, List.getElem?_toArray, List.getElem?_cons_zero, List.getElem?_cons_succ, opAt, ghosts, List.nil_append]
  go_wp2_with fail
  refine (own_any A n c l _ HN.out hr.drew (by omega)).mono ?_
  rintro e w1 ⟨A1, c1, rfl, hown1, hb1⟩
  go_wp2_with fail
  refine next_any ?_
  go_wp2_with fail
  refine (runs_any A1 n c1 l w1 HN.out hown1.row (by omega) HI.out).mono ?_
  rintro e w2 ⟨A2, c2, rfl, hown2, hb2⟩
  go_wp2_with fail
  refine next_any ?_
  go_wp2_with fail
  refine (own_any A k c (l.take k) w2 HLK.out (((Row.drew hrk).below hb1).below hb2) (by omega)).mono ?_
  rintro e w3 ⟨A3, c3, rfl, hown3, hb3⟩
  go_wp2_with fail
  refine next_any ?_
  go_wp2_with fail
  refine (runs_any A3 k c3 (l.take k) w3 HLK.out hown3.row (by omega) HIK.out).mono ?_
  rintro e w4 ⟨A4, c4, rfl, hown4, hb4⟩
  have hrq := (hown2.row.below hb3).below hb4
  have hrp := hown4.row
  have hb04 : Below w.heap.size w w4 := below_all (Below.refl w.heap.size w).drew (below_all hb1 (below_all hb2 (below_all hb3 hb4)))
  obtain ⟨p, hp⟩ : ∃ p, p = rT (l.take k) k := ⟨_, rfl⟩
  obtain ⟨q, hq⟩ : ∃ q, q = rT l n := ⟨_, rfl⟩
  rw [← hp] at hpre hsm hrp ⊢
  rw [← hq] at hpre hsm2 hln hrq ⊢
  have hlong := hpre.long
  have HP := Lib.hid hpre
  have HS := Lib.hid hsm
  have HS2 := Lib.hid hsm2
  clear hpre hsm hsm2 hp hq hown1 hown2 hown3 hown4 hb1 hb2 hb3 hb4 hrk hr
  go_wp2_with fail
  refine next_any ?_
  go_wp2_with fail
  refine ends_normal ?_
  go_wp2_with fail
  go_loopw [40] (fun i wr => ∃ j : Nat, j ≤ p.length ∧ i = .int .i64 j ∧ Below w4.heap.size w4 wr) (fun i _ => p.length - (intOf i).toNat)
  case atStart => exact ⟨0, Nat.zero_le _, rfl, Below.refl _ _⟩
  case round =>
    obtain ⟨j, hj, rfl, hb⟩ := hrel
    by_cases hlt : j < p.length
    · have hltq : j < q.length := by omega
      obtain ⟨s1, s2, s3, s4⟩ := HP.out.same j hlt
      have hsx := HS.out p[j] (List.getElem_mem hlt)
      have hsy := HS2.out q[j] (List.getElem_mem hltq)
      obtain ⟨gp, op, rfl, hgp, p1, p2, p3⟩ := (hrp.below hb).ex hlt
      obtain ⟨gq, oq, rfl, hgq, q1, q2, q3⟩ := (hrq.below hb).ex hltq
      obtain ⟨x, hx⟩ : ∃ x, x = p[j] := ⟨_, rfl⟩
      obtain ⟨y, hy⟩ : ∃ y, y = q[j] := ⟨_, rfl⟩
      rw [← hx] at s1 s2 s3 s4 p1 p2 p3 hsx
      rw [← hy] at s1 s2 s3 s4 q1 q2 q3 hsy
      clear hx hy
      obtain ⟨xf, xn, xk⟩ := x
      obtain ⟨yf, yn, yk⟩ := y
      simp only at s1 s2 s3 s4 p1 p2 p3 q1 q2 q3 hsx hsy
      subst s1 s2
      by_cases hlast : j + 1 < p.length
      · obtain rfl : yn = xn := s3 hlast
        have hjl : ((j : Int) == (p.length : Int) - 1) = false := by
          rw [beq_eq_false_iff_ne]
          omega
        clear s3 s4
        go_wp2_with fail
        go_roundw
        case rel => exact ⟨j + 1, by omega, by go_num, (hb.alloc hb.size _).alloc (Nat.le_trans hb.size (by simp)) _⟩
        case measure => simp [intOf]; omega
      · have hjl : ((j : Int) == (p.length : Int) - 1) = true := by
          rw [beq_iff_eq]
          omega
        have hxy : ¬ yn < xn := by omega
        clear s3
        go_wp2_with fail
        go_roundw
        case rel => exact ⟨j + 1, by omega, by go_num, (hb.alloc hb.size _).alloc (Nat.le_trans hb.size (by simp)) _⟩
        case measure => simp [intOf]; omega
    · obtain rfl : j = p.length := by omega
      go_wp2_with fail
      refine (alive_any wr).mono ?_
      rintro e w6 ⟨rfl, hb6⟩
      go_wp2_with fail
      go_ret
      exact ⟨rfl, below_all hb04 (below_all hb hb6)⟩
end Go.Proofs.Ytjpeoedpljcpnaa
