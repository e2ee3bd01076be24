/- pentimentoref01.Put and Text. Conditions: the bytes fit memory. -/
import Derived.Test.YtbljacafmkdlmaaRef1
import Derived.Test.YtbljacafmkdlmaaOct2
import Derived.Test.YtbljacafmkdlmaaBlk
import Derived.Test.YtbljacafmkdlmaaRef1
namespace Go.Proofs.Ytbljacafmkdlmaa
open Go.RowKit

theorem numB_ok {width n : Int} (h : (rt width && ft n width) = true) : numB width n = be width.toNat n.toNat ∧ (be width.toNat n.toNat == ([] : List UInt8)) = false := by
  refine ⟨by unfold numB; rw [if_pos h], ?_⟩
  rw [beq_eq_false_iff_ne]
  intro e
  have h2 := be_length width.toNat n.toNat
  rw [e] at h2
  rw [Bool.and_eq_true] at h
  rcases rt_cases h.1 with rfl | rfl | rfl | rfl <;> simp at h2
theorem numB_no {width n : Int} (h : (rt width && ft n width) = false) : numB width n = [] := by unfold numB; rw [h]; rfl
theorem fitAll_get {width : Int} {l : List Int} (h : fitAll width l = true) {k : Nat} (hk : k < l.length) : ft l[k] width = true := by
  have := List.all_eq_true.1 h l[k] (List.getElem_mem hk)
  simpa [ft] using this
theorem fitAll_succ {width : Int} {l : List Int} {k : Nat} (hk : k < l.length) : fitAll width (l.take (k + 1)) = (fitAll width (l.take k) && ft l[k] width) := by
  rw [List.take_succ_eq_append_getElem hk]
  unfold fitAll
  rw [List.all_append]
  simp [ft]
theorem fitAll_take {width : Int} {l : List Int} (k : Nat) (h : fitAll width l = true) : fitAll width (l.take k) = true := by
  unfold fitAll at h ⊢
  rw [List.all_eq_true] at h ⊢
  exact fun x hx => h x (List.mem_of_mem_take hx)

set_option maxHeartbeats 1000000 in
theorem rText_any (s : List UInt8) (width : Int) (w : World) (hsz : s.length ≤ 140737488355328) :
    Calls Try.prog 99 #[.string (str s), .int .i64 width] w fun e w' =>
      e = .returned (.tuple #[.string (str (if rt width && ft s.length width then be width.toNat s.length ++ s else [])), .bool (rt width && ft s.length width)]) ∧ Below w.heap.size w w' := by
  cases hok : rt width && ft s.length width with
  | false =>
    have h0 := numB_no hok
    go_enter Try.func99, Try.ntmps99
    go_wp2_with fail
    refine (num_any s.length width w).mono ?_
    rintro e w1 ⟨rfl, hb1⟩
    rw [h0]
    go_wp2_with fail
    go_ret2
    exact ⟨rfl, hb1⟩
  | true =>
    obtain ⟨h0, hne⟩ := numB_ok hok
    rw [Int.toNat_natCast] at h0 hne
    have hw8 : width.toNat ≤ 8 := by
      rw [Bool.and_eq_true] at hok
      rcases rt_cases hok.1 with rfl | rfl | rfl | rfl <;> decide
    have hcat := run_cat (P := Try.prog) (be width.toNat s.length) s (by rw [be_length]; omega)
    go_enter Try.func99, Try.ntmps99
    go_wp2_with fail
    refine (num_any s.length width w).mono ?_
    rintro e w1 ⟨rfl, hb1⟩
    rw [h0]
    go_wp2_with fail
    go_ret2
    exact ⟨rfl, hb1⟩

set_option maxHeartbeats 1000000 in
theorem rPut_any (width : Int) (L : Option Addr) (m cl : Nat) (l : List Int) (w : World) (hm : l.length = m) (hL : Row w L (iv l)) (hsz : m ≤ 1000000) :
    Calls Try.prog 46 #[.int .i64 width, .slice L m cl] w fun e w' =>
      e = .returned (.tuple #[.string (str (if rt width && fitAll width l then putB width.toNat l else [])), .bool (rt width && fitAll width l)]) ∧ Below w.heap.size w w' := by
  have HM := Lib.hid hm
  clear hm
  obtain ⟨ok, hok0⟩ : ∃ ok, ok = (rt width && fitAll width l) := ⟨_, rfl⟩
  obtain ⟨out, hout⟩ : ∃ out, out = (if ok then putB width.toNat l else []) := ⟨_, rfl⟩
  rw [← hok0, ← hout]
  have HOK := Lib.hid hok0
  have HOUT := Lib.hid hout
  clear hok0 hout
  go_enter Try.func46, Try.ntmps46
  go_wp2_with fail
  go_loopw [6, 7] (fun s i wr => ∃ k : Nat, k ≤ m ∧ i = .int .i64 k ∧ s = .string (str (putB width.toNat (l.take k))) ∧ (k = 0 ∨ rt width = true) ∧ fitAll width (l.take k) = true ∧ Below w.heap.size w wr) (fun _ i _ => m - (intOf i).toNat)
  case atStart => exact ⟨0, Nat.zero_le _, rfl, rfl, .inl rfl, by simp [fitAll], Below.refl _ _⟩
  case round =>
    obtain ⟨k, hk, rfl, rfl, hrt, hfit, hbel⟩ := hrel
    have HRT := Lib.hid hrt
    have HFIT := Lib.hid hfit
    clear hrt hfit
    by_cases hlt : k < m
    · have hkl : k < l.length := by rw [HM.out]; exact hlt
      obtain ⟨g, o, rfl, hg, hc⟩ := (hL.below hbel).icell hkl
      cases hok : rt width && ft l[k] width with
      | false =>
        have h0 := numB_no hok
        have hno : (rt width && fitAll width l) = false := by
          cases hh : rt width && fitAll width l with
          | false => rfl
          | true =>
            rw [Bool.and_eq_true] at hh
            rw [hh.1, fitAll_get hh.2 hkl] at hok
            cases hok
        have HNO := Lib.hid hno
        clear hno hok
        go_wp2_with fail
        refine (num_any l[k] width wr).mono ?_
        rintro e w1 ⟨rfl, hb1⟩
        rw [h0]
        go_wp2_with fail
        go_ret2
        rw [HOUT.out, HOK.out, HNO.out]
        exact ⟨rfl, hbel.trans (hb1.mono hbel.size)⟩
      | true =>
        obtain ⟨h0, hne⟩ := numB_ok hok
        rw [Bool.and_eq_true] at hok
        have hw8 : width.toNat ≤ 8 := by rcases rt_cases hok.1 with rfl | rfl | rfl | rfl <;> decide
        have hpl := putB_length width.toNat (l.take k)
        have hle : (l.take k).length * width.toNat ≤ 1000000 * 8 := Nat.mul_le_mul (by rw [List.length_take]; omega) hw8
        have hcat := run_cat (P := Try.prog) (putB width.toNat (l.take k)) (be width.toNat l[k].toNat) (by rw [be_length, hpl]; omega)
        have hs := putB_take_succ width.toNat l k hkl
        have hf2 := fitAll_succ (width := width) hkl
        have HS := Lib.hid hs
        have HF := Lib.hid hf2
        clear hs hf2 hpl hle
        go_wp2_with fail
        refine (num_any l[k] width wr).mono ?_
        rintro e w1 ⟨rfl, hb1⟩
        rw [h0]
        go_wp2_with fail
        go_roundw
        case rel => exact ⟨k + 1, by omega, by go_num, by rw [HS.out], .inr hok.1, by rw [HF.out, HFIT.out, hok.2]; rfl, hbel.trans (hb1.mono hbel.size)⟩
        case measure => simp [intOf]; omega
    · obtain rfl : k = m := by omega
      have hf : l.take k = l := List.take_of_length_le (by rw [HM.out]; exact Nat.le_refl _)
      have hfit := HFIT.out
      rw [hf] at hfit ⊢
      have HF := Lib.hid hfit
      clear hfit
      go_wp2_with fail
      refine (rRight_any _ _).mono ?_
      rintro e w' ⟨rfl, rfl⟩
      go_wp2_with fail
      go_ret2
      rw [HOUT.out, HOK.out, HF.out, Bool.and_true]
      refine ⟨?_, hbel⟩
      rcases HRT.out with rfl | hrt
      · have : l = [] := List.eq_nil_of_length_eq_zero HM.out
        subst this
        cases rt width <;> rfl
      · rw [hrt]
        rfl
end Go.Proofs.Ytbljacafmkdlmaa
