/- pentimentoref04.Right: what it answers. Condition: the name's length fits memory. -/
import Derived.Test.YtophnjoaajcfjaaFr
namespace Go.Proofs.Ytophnjoaajcfjaa
open Go.RowKit

theorem contains_take (l : List UInt8) (c : UInt8) (j : Nat) (hj : j < l.length) : (l.take (j + 1)).contains c = ((l.take j).contains c || (l[j] == c)) := by
  rw [List.take_succ_eq_append_getElem hj]
  rw [Bool.eq_iff_iff]
  simp only [List.contains_eq_mem, decide_eq_true_eq, List.mem_append, List.mem_singleton, Bool.or_eq_true, beq_iff_eq]
  constructor
  · rintro (h | h)
    · exact .inl h
    · exact .inr h.symm
  · rintro (h | h)
    · exact .inl h
    · exact .inr h.symm

set_option maxHeartbeats 4000000 in
theorem rRight4_any (l : List UInt8) (w : World) (hsz : l.length ≤ 140737488355328) :
    Calls Try.prog 31 #[.string (str l)] w fun e w' => e = .returned (.bool (nameOK l)) ∧ Below w.heap.size w w' := by
  obtain ⟨n, hn⟩ : ∃ n, n = l.length := ⟨_, rfl⟩
  have hss : (str l).size = n := by rw [str_size, hn]
  have hsl : (str signs).size = 38 := rfl
  have hsl2 : signs.length = 38 := rfl
  have HN := Lib.hid hn
  have HSL := Lib.hid hsl2
  rw [← hn] at hsz
  clear hn hsl2
  go_enter Try.func31, Try.ntmps31
  go_wp2_with fail
  rw [show ({ data := #[97, 98, 99, 100, 101, 102, 103, 104, 105, 106, 107, 108, 109, 110, 111, 112, 113, 114, 115, 116, 117, 118, 119, 120, 121, 122, 48, 49, 50, 51, 52, 53, 54, 55, 56, 57, 46, 45] } : ByteArray) = str signs from rfl]
  go_loopw [4] (fun i wr => ∃ k : Nat, k ≤ n ∧ i = .int .i64 k ∧ Hid ((l.take k).all chOK = true) ∧ Below w.heap.size w wr) (fun i _ => n - (intOf i).toNat)
  case atStart => exact ⟨0, Nat.zero_le _, rfl, Lib.hid rfl, Below.refl _ _⟩
  case round =>
    obtain ⟨k, hk, rfl, hall, hb⟩ := hrel
    by_cases hlt : k < n
    · have hkl : k < l.length := by rw [← HN.out]; exact hlt
      obtain ⟨ch, hc⟩ : ∃ ch, ch = l[k]'hkl := ⟨_, rfl⟩
      have hmem : ch ∈ l := by rw [hc]; exact List.getElem_mem hkl
      have htk : (l.take (k + 1)).all chOK = ((l.take k).all chOK && chOK ch) := by rw [List.take_succ_eq_append_getElem hkl, List.all_append, ← hc]; simp
      have hi1 := fun u => run_str_at (P := Try.prog) Try.underlying9 l k hkl u
      rw [← hc] at hi1
      have HTK := Lib.hid htk
      obtain ⟨cn, hcn⟩ : ∃ cn, cn = ch.toNat := ⟨_, rfl⟩
      rw [← hcn] at hi1
      have HCN := Lib.hid hcn
      clear hc htk hcn
      go_wp2_with fail
      obtain ⟨wo, rfl⟩ : ∃ wo : World, wo = wr := ⟨_, rfl⟩
      go_loopw [5, 6] (fun f i wr => ∃ j : Nat, j ≤ 38 ∧ i = .int .i64 j ∧ f = .bool ((signs.take j).contains ch) ∧ Below w.heap.size w wr) (fun _ i _ => 38 - (intOf i).toNat)
      case atStart => exact ⟨0, Nat.zero_le _, rfl, rfl, hb⟩
      case round =>
        obtain ⟨j, hj, rfl, rfl, hb2⟩ := hrel
        by_cases hlt2 : j < 38
        · have hjl : j < signs.length := by rw [HSL.out]; exact hlt2
          have hi2 := fun u => run_str_at (P := Try.prog) Try.underlying9 signs j hjl u
          have hct := contains_take signs ch j hjl
          obtain ⟨sj, hsj⟩ : ∃ sj, sj = signs[j]'hjl := ⟨_, rfl⟩
          rw [← hsj] at hi2 hct
          obtain ⟨sn, hsn⟩ : ∃ sn, sn = sj.toNat := ⟨_, rfl⟩
          rw [← hsn] at hi2
          have heq : (sj == ch) = decide (sn = cn) := by
            rw [Bool.eq_iff_iff, beq_iff_eq, decide_eq_true_eq, hsn, HCN.out]
            exact ⟨fun h => by rw [h], fun h => UInt8.toNat_inj.1 h⟩
          rw [heq] at hct
          have HCT := Lib.hid hct
          obtain ⟨fb, hfb⟩ : ∃ fb, fb = (signs.take j).contains ch := ⟨_, rfl⟩
          rw [← hfb] at HCT ⊢
          clear hsj hsn heq hct hfb
          by_cases hsc : sn = cn
          · subst hsc
            go_wp2_with fail
            go_region
            all_goals go_wp2_with fail
            all_goals
              go_roundw
              case rel => exact ⟨j + 1, by omega, by go_num, by rw [HCT.out]; simp, hb2.drew⟩
              case measure => simp [intOf]; omega
          · have hsc2 : ((sn : Int) == (cn : Int)) = false := by
              rw [beq_eq_false_iff_ne]
              omega
            have HSC := Lib.hid hsc
            clear hsc
            go_wp2_with fail
            go_region
            all_goals go_wp2_with fail
            all_goals
              go_roundw
              case rel => exact ⟨j + 1, by omega, by go_num, by rw [HCT.out, decide_eq_false HSC.out]; simp, hb2.drew⟩
              case measure => simp [intOf]; omega
        · obtain rfl : j = 38 := by omega
          have hfull : (signs.take 38).contains ch = chOK ch := by rw [← signs_has ch]; rfl
          rw [hfull]
          clear hfull
          cases hch : chOK ch
          · have hno : nameOK l = false := by
              unfold nameOK
              have : l.all chOK = false := by
                cases h : l.all chOK
                · rfl
                · rw [List.all_eq_true.1 h _ hmem] at hch
                  cases hch
              rw [this]
              rfl
            have HNO := Lib.hid hno
            clear hno
            go_wp2_with fail
            go_ret
            exact ⟨ret_bool (by rw [HNO.out]), hb2⟩
          · have hrel2 : ∃ k' : Nat, k' ≤ n ∧ Value.int .i64 ((k : Int) + 1) = .int .i64 k' ∧ Hid ((l.take k').all chOK = true) := ⟨k + 1, hlt, by go_num, Lib.hid (by rw [HTK.out, hall.out, hch]; rfl)⟩
            have HREL2 := Lib.hid hrel2
            clear hrel2
            go_wp2_with fail
            go_roundw
            case rel =>
              obtain ⟨k', a1, a2, a3⟩ := HREL2.out
              exact ⟨k', a1, a2, a3, hb2⟩
            case measure => simp [intOf]; omega
    · obtain rfl : k = n := by omega
      have ht : l.take k = l := List.take_of_length_le (by rw [← HN.out]; exact Nat.le_refl _)
      have hall2 := hall.out
      rw [ht] at hall2
      have hnm : nameOK l = (decide (1 ≤ k) && decide (k ≤ 15)) := by unfold nameOK; rw [hall2, ← HN.out]; rfl
      have HNM := Lib.hid hnm
      clear ht hall2 hnm
      by_cases h1 : 1 ≤ k
      · go_wp2_with fail
        go_ret
        exact ⟨ret_bool (by rw [HNM.out, decide_eq_true h1]; simp; omega), hb⟩
      · go_wp2_with fail
        go_ret
        exact ⟨ret_bool (by rw [HNM.out, decide_eq_false h1]; rfl), hb⟩
end Go.Proofs.Ytophnjoaajcfjaa
