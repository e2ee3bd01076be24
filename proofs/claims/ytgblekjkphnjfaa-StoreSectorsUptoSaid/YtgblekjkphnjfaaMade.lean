/- pentimentolaw03.made. Conditions: the lengths fit memory, the script's too. -/
import Derived.Test.YtgblekjkphnjfaaStL
namespace Go.Proofs.Ytgblekjkphnjfaa
open Go.RowKit
set_option linter.unusedSimpArgs false

theorem made_no (sec : Int) (S : Option Addr) (n c : Nat) (w : World) (h : ¬ (0 ≤ sec ∧ sec ≤ 4096)) : Calls Try.prog 10 #[.int .i64 sec, .slice S n c] w fun e w' => e = .returned (.tuple #[.pointer none, .bool false]) ∧ w' = w := by
  have hnw := new_no sec 1000 w (by omega)
  clear h
  go_enter Try.func10, Try.ntmps10
  go_wp2_with fail
  refine hnw.mono ?_
  rintro e w2 ⟨rfl, rfl⟩
  go_wp2_with fail
  go_ret2
  exact ⟨rfl, rfl⟩

def MadePost (w : World) (sec : Int) (n : Nat) (e : Ending) (w' : World) : Prop :=
  ∃ (f : Fp) (s : St), e = .returned (.tuple #[.pointer (some ⟨f.g, 0, none⟩), .bool true]) ∧ Sto w' w.heap.size f s ∧ s.n = sec ∧ s.l.length ≤ 4096 * n ∧ Below w.heap.size w w'
/-- None of a script's first four calls turns how many sectors there are. -/
theorem doO_n {s : St} (o : Opn) (h : ¬ o.kind = 4) : (doO s o).1.n = s.n := by
  unfold doO
  split
  · unfold doW
    (repeat' split) <;> rfl
  split
  · rfl
  split
  · rfl
  split
  · rfl
  split
  · rfl
  · rfl

set_option maxHeartbeats 4000000 in
theorem made_any (sec : Int) (S : Option Addr) (n c : Nat) (ps : List Opv) (w : World) (hsec : 0 ≤ sec ∧ sec ≤ 4096) (hn : ps.length = n) (hr : Row w S (ocells ps)) (hn20 : n ≤ 1100000000) (hg : ∀ p ∈ ps, Opv.Good w p) :
    Calls Try.prog 10 #[.int .i64 sec, .slice S n c] w (MadePost w sec n) := by
  have HN := Lib.hid hn
  have HG := Lib.hid hg
  clear hn hg
  go_enter Try.func10, Try.ntmps10
  go_wp2_with fail
  refine (new_yes sec 1000 w ⟨hsec, by omega⟩).mono ?_
  rintro e w1 ⟨f, rfl, hs1, hb1⟩
  go_wp2_with fail
  go_loopw [23] (fun i wr => ∃ (j : Nat) (s : St) (f' : Fp), j ≤ n ∧ i = .int .i64 j ∧ f'.g = f.g ∧ Sto wr w.heap.size f' s ∧ s.n = sec ∧ s.l.length ≤ 4096 * j ∧ Below w.heap.size w wr)
    (fun i _ => n - (intOf i).toNat)
  case atStart => exact ⟨0, ⟨sec, 1000, [], 0⟩, f, Nat.zero_le _, rfl, rfl, hs1, rfl, Nat.zero_le _, hb1⟩
  case round =>
    obtain ⟨j, s, f', hj, rfl, hfg, hs, hsn, hsl, hbr⟩ := hrel
    by_cases hlt : j < n
    · have hjl : j < ps.length := by rw [HN.out]; exact hlt
      have hrr := hr.below hbr
      obtain ⟨g, o, rfl, hgw, c0, c1, c2, c3, c4⟩ := hrr.opv hjl
      have hgood := HG.out ps[j] (List.getElem_mem hjl)
      obtain ⟨p, hp⟩ : ∃ p, p = ps[j] := ⟨_, rfl⟩
      rw [← hp] at c0 c1 c2 c3 c4 hgood
      have hs1 := hs.alloc (.cells #[.int .i64 p.o.kind, .int .i64 p.o.at_, .int .i64 p.o.n, .slice p.D p.o.b.length p.dc, .slice p.K p.o.keep.length p.kc] 35)
      have hb1 := hbr.alloc hbr.size (.cells #[.int .i64 p.o.kind, .int .i64 p.o.at_, .int .i64 p.o.n, .slice p.D p.o.b.length p.dc, .slice p.K p.o.keep.length p.kc] 35)
      have HSN := Lib.hid hsn
      clear hp hrr hsn
      by_cases hk0 : 0 ≤ p.o.kind
      rotate_left
      · go_wp2_with fail
        go_roundw
        case rel => exact ⟨j + 1, s, f', by omega, by go_num, hfg, hs1, HSN.out, by omega, hb1⟩
        case measure => simp [intOf]; omega
      by_cases hk3 : p.o.kind ≤ 3
      rotate_left
      · go_wp2_with fail
        go_roundw
        case rel => exact ⟨j + 1, s, f', by omega, by go_num, hfg, hs1, HSN.out, by omega, hb1⟩
        case measure => simp [intOf]; omega
      have hlen := doO_len hs.ok p.o
      have hkn := doO_n (s := s) p.o (by omega)
      have hdoes := does_any w.heap.size f' s p.o p.D p.o.b.length p.dc p.K p.o.keep.length p.kc _ hs1 (by omega) rfl hgood.hb (by have := hgood.lb; omega) (Away.of hgood.rb hs1 (Nat.le_refl _) hb1) rfl (by have := hgood.lk; omega) (Away.of hgood.rk hs1 (Nat.le_refl _) hb1) hgood.in_.2 hgood.ia
      obtain ⟨⟨s', x, er⟩, hxe⟩ : ∃ r, r = doO s p.o := ⟨_, rfl⟩
      rw [← hxe] at hdoes hlen hkn
      rw [hfg] at hdoes
      simp only at hlen hkn
      have HKN := Lib.hid hkn
      clear hxe hgood hkn
      go_wp2_with fail
      refine hdoes.mono ?_
      rintro e w4 ⟨f4, rfl, hs4, ht4⟩
      simp only at hs4
      have hb4 := hb1.trans (ht4.belowB hs1)
      have hfg4 : f4.g = f.g := ht4.same.trans hfg
      clear hdoes ht4 hs1 hb1 c0 c1 c2 c3 c4
      go_wp2_with fail
      go_roundw
      case rel => exact ⟨j + 1, s', f4, by omega, by go_num, hfg4, hs4, HKN.out.trans HSN.out, by omega, hb4⟩
      case measure => simp [intOf]; omega
    · obtain rfl : j = n := by omega
      have HFG := Lib.hid hfg
      have HSN := Lib.hid hsn
      clear hfg hsn
      go_wp2_with fail
      go_ret2
      exact ⟨f', s, by rw [HFG.out]; rfl, hs, HSN.out, hsl, hbr⟩
end Go.Proofs.Ytgblekjkphnjfaa
