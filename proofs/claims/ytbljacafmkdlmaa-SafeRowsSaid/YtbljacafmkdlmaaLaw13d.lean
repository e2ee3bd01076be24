/- The law SafeRows. Condition: the lengths fit memory. -/
import Derived.Test.YtbljacafmkdlmaaAl13
namespace Go.Proofs.Ytbljacafmkdlmaa
set_option maxRecDepth 100000
open Go.RowKit
set_option linter.unusedSimpArgs false
set_option linter.unusedVariables false

/-- A store behind some savings: how many, and the last one. -/
structure Inv (s : St) (m : Nat) (last : List UInt8) : Prop where
  ok : s.OK
  n : s.n = 60
  room : s.room = 1000
  gen : (newestP s).2.2 = m
  load : (m = 0 ∧ loadP s = ([], 0, 130)) ∨ (0 < m ∧ loadP s = (last, m, 0))
theorem Inv.new : Inv ⟨60, 1000, [], 0⟩ 0 [] :=
  ⟨St.OK.new (by omega) (by omega) (by omega), rfl, rfl, by rw [newest_new 60 1000 (by omega)], .inl ⟨rfl, load_new 60 1000 (by omega)⟩⟩
theorem Inv.save {s : St} {m : Nat} {last b : List UInt8} (h : Inv s m last) (hb : b.length ≤ 464) (hm : m < 1073741824) : (saveP s b).2 = 0 ∧ Inv (saveP s b).1 (m + 1) b := by
  have ha : areaN s.n = 29 := by rw [h.n]; decide
  obtain ⟨k1, k2, k3, k4, k5⟩ := saveP_told h.ok b (by rw [h.n]; omega) (by rw [ha]; omega) (by rw [h.gen]; exact hm) (by rw [h.n, h.room]; omega)
  rw [h.gen] at k4 k5
  exact ⟨k1, saveP_ok h.ok b, k2.trans h.n, k3.trans h.room, k5, .inr ⟨by omega, k4⟩⟩
theorem Inv.long {s : St} {m : Nat} {last b : List UInt8} (h : Inv s m last) (hb : 464 < b.length) : saveP s b = (s, 1) := by
  have ha : areaN s.n = 29 := by rw [h.n]; decide
  have e : beginP s b = ([], 1) := by
    unfold beginP
    rw [if_pos (by rw [ha]; omega)]
  unfold saveP
  rw [e]
  rfl

set_option maxHeartbeats 1000000 in
theorem rows_law (A : Option Addr) (n c : Nat) (ps : List Piece) (w : World) (hn : ps.length = n) (hr : Row w A (pv ps)) (hn47 : n ≤ 140737488355328) (hps : Pieces w ps) (hpl : ∀ p : Piece, p ∈ ps → p.l.length ≤ p.c ∧ p.l.length ≤ 140737488355328) :
    Calls Try.prog 5 #[.slice A n c] w fun e w' => e = .returned (.bool true) ∧ Below w.heap.size w w' := by
  have HN := Lib.hid hn
  have HPS := Lib.hid hps
  have HPL := Lib.hid hpl
  have hmo := fun u => most_any 60 u (by omega) (by omega)
  rw [show (16 * areaN 60 : Nat) = 464 by decide] at hmo
  have HMO := Lib.hid hmo
  clear hn hps hpl hmo
  go_enter Try.func5, Try.ntmps5
  go_wp2_with fail
  refine (new_yes 60 1000 w (by omega)).mono ?_
  rintro e w1 ⟨f, rfl, hs1, hb1⟩
  by_cases h40 : 40 < n
  · go_wp2_with fail
    refine (alive_any _).mono ?_
    rintro e w3 ⟨rfl, hb3⟩
    go_wp2_with fail
    go_ret
    exact ⟨rfl, below_all hb1 hb3⟩
  have h41 : n ≤ 40 := by omega
  have H41 := Lib.hid h41
  have h42 : decide (40 < (n : Int)) = false := decide_eq_false (by omega)
  have h43 : decide (40 < n) = false := decide_eq_false h40
  clear h40 h41
  go_wp2_with fail
  clear h42 h43
  go_loopw [5, 6, 38] (fun nv lv i wr => ∃ (j m : Nat) (s : St) (f' : Fp) (last : List UInt8), j ≤ n ∧ i = .int .i64 j ∧ nv = .int .i64 m ∧ lv = .string (str last) ∧ m ≤ j ∧ Hid (Inv s m last) ∧ Sto wr w.heap.size f' s ∧ Below w.heap.size w wr ∧ f'.g = f.g ∧ s.l.length ≤ 8400896 * j)
    (fun _ _ i _ => n - (intOf i).toNat)
  case atStart => exact ⟨0, 0, ⟨60, 1000, [], 0⟩, f, [], Nat.zero_le _, rfl, rfl, rfl, Nat.le_refl _, Lib.hid Inv.new, hs1, hb1, rfl, Nat.zero_le _⟩
  case round =>
    obtain ⟨j, m, s, f', last, hj, rfl, rfl, rfl, hmj, HI, hs, hbr, hfg, hsl⟩ := hrel
    clear hs1 hb1
    by_cases hlt : j < n
    · have hjl : j < ps.length := by rw [HN.out]; exact hlt
      have hj40 : j < 40 := by have := H41.out; omega
      have hrr := hr.below hbr
      obtain ⟨g, o, rfl, hgw, hcs⟩ := hrr.at_ (by rw [pv_length]; omega)
      have hc0a := hcs j _ (pv_at hjl)
      have hpr0 := HPS.out _ (List.getElem_mem hjl)
      obtain ⟨hpc, hp47⟩ := HPL.out _ (List.getElem_mem hjl)
      obtain ⟨⟨Ab, cb, b⟩, hp⟩ : ∃ p, p = ps[j] := ⟨_, rfl⟩
      rw [← hp] at hc0a hpr0 hpc hp47
      simp only at hpr0 hpc hp47
      have hc0 : wr.cell? ⟨g, o + j, none⟩ = some (.slice Ab b.length cb) := hc0a
      clear hc0a
      have hpr := hpr0.below hbr
      obtain ⟨nb, hnb⟩ : ∃ nb, nb = b.length := ⟨_, rfl⟩
      rw [← hnb] at hc0 hpc hp47
      have hsv := save_any w.heap.size f' s wr hs Ab nb cb b hnb.symm hpc hpr hp47 (by omega)
      rw [hfg] at hsv
      have HNB := Lib.hid hnb
      clear hp hcs hrr
      by_cases hb : nb ≤ 464
      · obtain ⟨k1, k2⟩ := HI.out.save (b := b) (by omega) (by omega)
        have k3 := saveP_len HI.out.ok b
        obtain ⟨⟨s2, e2⟩, hse⟩ : ∃ r, r = saveP s b := ⟨_, rfl⟩
        rw [← hse] at k1 k2 k3 hsv
        simp only at k1 k2 k3
        subst k1
        have hld := fun u f2 (hu : Sto u w.heap.size f2 s2) => load_any w.heap.size f2 s2 u hu
        have hlq : loadP s2 = (b, m + 1, 0) := by
          rcases k2.load with ⟨h, _⟩ | ⟨_, h⟩
          · omega
          · exact h
        rw [hlq] at hld
        have HLD := Lib.hid hld
        have hstr := fun u (hu : Row u Ab (bv b)) => run_string (P := Try.prog) (l := b) (n := nb) HNB.out.symm 23 9 5 (c := cb) Try.underlying23 Try.underlying5 Try.underlying9 hu
        have HSTR := Lib.hid hstr
        have hstr9 := fun u (A9 : Option Addr) (c9 : Nat) (hu : Row u A9 (bv b)) => run_string (P := Try.prog) (l := b) (n := nb) HNB.out.symm 23 9 5 (c := c9) Try.underlying23 Try.underlying5 Try.underlying9 hu
        have HSTR9 := Lib.hid hstr9
        have HK2 := Lib.hid k2
        have HFG := Lib.hid hfg
        have hsl2 : s2.l.length ≤ 8400896 * (j + 1) := by omega
        have HSL2 := Lib.hid hsl2
        clear hse k2 k3 hld hlq hstr hstr9 hnb hfg HI hsl hsl2
        go_wp2_with fail
        refine hsv.mono ?_
        rintro e w4 ⟨f4, rfl, hs4, ht4⟩
        simp only at hs4
        have hb04 := hbr.trans (ht4.belowB hs)
        have hf4 : f4.g = f.g := ht4.same.trans HFG.out
        have hstr4 := HSTR.out w4 (hpr0.below hb04)
        have hld4 := HLD.out w4 f4 hs4
        rw [hf4] at hld4
        clear hsv hs ht4 hbr hpr
        go_wp2_with fail
        refine hld4.mono ?_
        rintro e w5 ⟨A9, m9, c9, rfl, hm9, _, hx9, hb9⟩
        obtain rfl : m9 = nb := by rw [← hm9]; exact HNB.out.symm
        have hs5 := hs4.below hb9
        have hb05 := below_all hb04 hb9
        have hstr5 := HSTR9.out w5 A9 c9 hx9
        have HF4 := Lib.hid hf4
        clear hld4 hstr4 hs4 hb04 hb9 hm9 hx9 hf4
        go_wp2_with fail
        go_roundw
        case rel => exact ⟨j + 1, m + 1, s2, f4, b, by omega, by go_num, by go_num, rfl, by omega, HK2, hs5, hb05, HF4.out, HSL2.out⟩
        case measure => simp [intOf]; omega
      · have hlg := HI.out.long (b := b) (by rw [← HNB.out]; omega)
        rw [hlg] at hsv
        have hld := fun u f2 (hu : Sto u w.heap.size f2 s) => load_any w.heap.size f2 s u hu
        have hb1 : decide ((nb : Int) ≤ 464) = false := decide_eq_false (by omega)
        have hb2 : decide (nb ≤ 464) = false := decide_eq_false hb
        have HFG := Lib.hid hfg
        have hsl2 : s.l.length ≤ 8400896 * (j + 1) := by omega
        have HSL2 := Lib.hid hsl2
        have hli := HI.out.load
        clear hlg hnb hfg hsl hsl2 hb
        rcases hli with ⟨rfl, hl⟩ | ⟨hmp, hl⟩
        · rw [hl] at hld
          have HLD := Lib.hid hld
          clear hl hld
          go_wp2_with fail
          refine hsv.mono ?_
          rintro e w4 ⟨f4, rfl, hs4, ht4⟩
          simp only at hs4
          have hb04 := hbr.trans (ht4.belowB hs)
          have hf4 : f4.g = f.g := ht4.same.trans HFG.out
          have hld4 := HLD.out w4 f4 hs4
          rw [hf4] at hld4
          clear hsv hs ht4 hbr hpr
          go_wp2_with fail
          refine (HMO.out _).mono ?_
          rintro e w5 ⟨rfl, rfl⟩
          go_wp2_with fail
          refine hld4.mono ?_
          rintro e w5 ⟨A9, m9, c9, rfl, hm9, _, hx9, hb9⟩
          have hs5 := hs4.below hb9
          have hb05 := below_all hb04 hb9
          have HF4 := Lib.hid hf4
          clear hld4 hs4 hb04 hb9 hm9 hx9 hf4
          go_wp2_with fail
          go_roundw
          case rel => exact ⟨j + 1, 0, s, f4, last, by omega, by go_num, rfl, rfl, by omega, HI, hs5, hb05, HF4.out, HSL2.out⟩
          case measure => simp [intOf]; omega
        · rw [hl] at hld
          have HLD := Lib.hid hld
          clear hl hld
          go_wp2_with fail
          refine hsv.mono ?_
          rintro e w4 ⟨f4, rfl, hs4, ht4⟩
          simp only at hs4
          have hb04 := hbr.trans (ht4.belowB hs)
          have hf4 : f4.g = f.g := ht4.same.trans HFG.out
          have hld4 := HLD.out w4 f4 hs4
          rw [hf4] at hld4
          clear hsv hs ht4 hbr hpr
          go_wp2_with fail
          refine (HMO.out _).mono ?_
          rintro e w5 ⟨rfl, rfl⟩
          go_wp2_with fail
          refine hld4.mono ?_
          rintro e w5 ⟨A9, m9, c9, rfl, hm9, _, hx9, hb9⟩
          have hs5 := hs4.below hb9
          have hb05 := below_all hb04 hb9
          have hstr5 := run_string (P := Try.prog) hm9 23 9 5 (c := c9) Try.underlying23 Try.underlying5 Try.underlying9 hx9
          have HF4 := Lib.hid hf4
          clear hld4 hs4 hb04 hb9 hm9 hx9 hf4
          go_wp2_with fail
          go_roundw
          case rel => exact ⟨j + 1, m, s, f4, last, by omega, by go_num, rfl, rfl, by omega, HI, hs5, hb05, HF4.out, HSL2.out⟩
          case measure => simp [intOf]; omega
    · obtain rfl : j = n := by omega
      go_wp2_with fail
      refine (alive_any _).mono ?_
      rintro e w3 ⟨rfl, hb3⟩
      go_wp2_with fail
      go_ret
      exact ⟨rfl, below_all hbr hb3⟩
end Go.Proofs.Ytbljacafmkdlmaa
