/- pentimentolaw01: write, few; plain laws on parts that were written. Conditions: the texts' lengths together fit memory. -/
import Derived.Test.YtijogfjihnbmeaaPart
import Derived.Test.YtijogfjihnbmeaaLaw01a
import Derived.Test.YtijogfjihnbmeaaLaw01d
import Derived.Test.YtijogfjihnbmeaaNmP
import Derived.Test.YtijogfjihnbmeaaRead
namespace Go.Proofs.Ytijogfjihnbmeaa
open Go.RowKit

def Pt.t (p : Pt) : List UInt8 := p.s.data.toList
theorem Pt.st (p : Pt) : p.s = str p.t := str_of p.s
def Pt.ok (p : Pt) : Bool := if p.k = 0 then rt p.wd && fitAll p.wd [p.n] else if p.k = 1 then rt p.wd && ft (p.t.length : Int) p.wd else true
def Pt.bs (p : Pt) : List UInt8 := if p.k = 0 then putB p.wd.toNat [p.n] else if p.k = 1 then be p.wd.toNat p.t.length ++ p.t else []
def Pt.out (p : Pt) : List UInt8 := if p.ok then p.bs else []
def outB (ps : List Pt) : List UInt8 := ps.flatMap Pt.out
def okAll (ps : List Pt) : Bool := ps.all Pt.ok
def totW (ps : List Pt) : Nat := (ps.map fun p => 8 + p.t.length).sum

theorem Pt.out_len (p : Pt) : p.out.length ≤ 8 + p.t.length := by
  unfold Pt.out
  cases h : p.ok
  · simp
  · simp only [if_true]
    unfold Pt.ok at h
    unfold Pt.bs
    split
    · rename_i h0
      rw [if_pos h0, Bool.and_eq_true] at h
      have : p.wd.toNat ≤ 8 := by rcases rt_cases h.1 with e | e | e | e <;> rw [e] <;> decide
      rw [putB_length]
      simp
      omega
    split
    · rename_i h0 h1
      rw [if_neg h0, if_pos h1, Bool.and_eq_true] at h
      have : p.wd.toNat ≤ 8 := by rcases rt_cases h.1 with e | e | e | e <;> rw [e] <;> decide
      rw [List.length_append, be_length]
      omega
    · simp
theorem outB_snoc (ps : List Pt) (p : Pt) : outB (ps ++ [p]) = outB ps ++ p.out := by simp [outB]
theorem okAll_snoc (ps : List Pt) (p : Pt) : okAll (ps ++ [p]) = (okAll ps && p.ok) := by simp [okAll]
theorem totW_snoc (ps : List Pt) (p : Pt) : totW (ps ++ [p]) = totW ps + (8 + p.t.length) := by simp [totW]
theorem outB_len (ps : List Pt) : (outB ps).length ≤ totW ps := by
  induction ps with
  | nil => simp [outB, totW]
  | cons p ps ih =>
    have := p.out_len
    unfold outB totW at ih ⊢
    rw [List.flatMap_cons, List.length_append, List.map_cons, List.sum_cons]
    omega
theorem totW_split (ps : List Pt) (k : Nat) (hk : k < ps.length) : totW (ps.take k) + (8 + ps[k].t.length) ≤ totW ps := by
  have h : totW (ps.take (k + 1)) ≤ totW ps := by
    conv => rhs; rw [← List.take_append_drop (k + 1) ps]
    unfold totW
    rw [List.map_append, List.sum_append]
    omega
  rw [List.take_succ_eq_append_getElem hk, totW_snoc] at h
  exact h

set_option maxHeartbeats 2000000 in
theorem write_any (A : Option Addr) (n c : Nat) (ps : List Pt) (w : World) (hn : ps.length = n) (hr : Row w A (pcells ps)) (hsz : n ≤ 140737488355328) (hW : totW ps ≤ 100000000) :
    Calls Try.prog 16 #[.slice A n c] w fun e w' => ∃ A' n' c', e = .returned (.tuple #[.slice A' n' c', .bool (okAll ps)]) ∧ (outB ps).length = n' ∧ Own w' w.heap.size 5 1 A' n' c' (bv (outB ps)) ∧ Below w.heap.size w w' := by
  have HN := Lib.hid hn
  clear hn
  go_enter Try.func16, Try.ntmps16
  go_wp2_with fail
  go_loopw [4, 5, 11] (fun v a i wr => ∃ (k : Nat) (A' : Option Addr) (n' c' : Nat), k ≤ n ∧ i = .int .i64 k ∧ v = .slice A' n' c' ∧ a = .bool (okAll (ps.take k)) ∧ Hid ((outB (ps.take k)).length = n') ∧ Own wr w.heap.size 5 1 A' n' c' (bv (outB (ps.take k))) ∧ Below w.heap.size w wr) (fun _ _ i _ => n - (intOf i).toNat)
  case atStart => exact ⟨0, none, 0, 0, Nat.zero_le _, rfl, rfl, rfl, Lib.hid rfl, Own.nil _ _ _ _ _, Below.refl _ _⟩
  case round =>
    obtain ⟨k, A', n', c', hk, rfl, rfl, rfl, hl, hown, hb⟩ := hrel
    by_cases hlt : k < n
    · have hkl : k < ps.length := by rw [HN.out]; exact hlt
      obtain ⟨g2, o2, rfl, hg2, p1, p2, p3, p4⟩ := (hr.below hb).part hkl
      have hts := totW_split ps k hkl
      have hol := outB_len (ps.take k)
      rw [hl.out] at hol
      have ho1 : outB (ps.take (k + 1)) = outB (ps.take k) ++ ps[k].out := by rw [List.take_succ_eq_append_getElem hkl, outB_snoc]
      have ho2 : okAll (ps.take (k + 1)) = (okAll (ps.take k) && ps[k].ok) := by rw [List.take_succ_eq_append_getElem hkl, okAll_snoc]
      obtain ⟨p, hp⟩ : ∃ p, p = ps[k] := ⟨_, rfl⟩
      rw [← hp] at p1 p2 p3 p4 hts ho1 ho2
      rw [p.st] at p4
      clear hp
      obtain ⟨xs, hxs⟩ : ∃ xs, xs = outB (ps.take k) := ⟨_, rfl⟩
      obtain ⟨b0, hb0⟩ : ∃ b0, b0 = okAll (ps.take k) := ⟨_, rfl⟩
      rw [← hxs] at hown ho1 hl
      rw [← hb0] at ho2 ⊢
      have HO1 := Lib.hid ho1
      have HO2 := Lib.hid ho2
      clear hxs hb0 ho1 ho2
      obtain ⟨t, ht⟩ : ∃ t, t = p.t := ⟨_, rfl⟩
      rw [← ht] at p4 hts
      have HT := Lib.hid ht
      clear ht
      have hn'8 : n' + 8 + t.length ≤ 100000000 := by omega
      clear hts hol
      have hBp := Blk.new wr 40 #[.int .i64 p.k, .int .i64 p.wd, .int .i64 p.n, .string (str t)]
      have hown1 := hown.alloc (.cells #[.int .i64 p.k, .int .i64 p.wd, .int .i64 p.n, .string (str t)] 40)
      have hb1 := hb.alloc hb.size (.cells #[.int .i64 p.k, .int .i64 p.wd, .int .i64 p.n, .string (str t)] 40)
      by_cases h0 : p.k = 0
      · obtain ⟨b1, hb1'⟩ : ∃ b1, b1 = (rt p.wd && fitAll p.wd [p.n]) := ⟨_, rfl⟩
        have hok : p.ok = b1 := by unfold Pt.ok; rw [if_pos h0, hb1']
        have hout : p.out = (if b1 then putB p.wd.toNat [p.n] else []) := by unfold Pt.out Pt.bs; rw [hok, if_pos h0]
        rw [hok] at HO2
        rw [hout] at HO1
        have hrow : Row ((wr.alloc (.cells #[.int .i64 p.k, .int .i64 p.wd, .int .i64 p.n, .string (str t)] 40)).alloc (.cells #[.int .i64 p.n] 3)) (some ⟨wr.heap.size + 1, 0, none⟩) (iv [p.n]) := by
          have h := row_new (w := wr.alloc (.cells #[.int .i64 p.k, .int .i64 p.wd, .int .i64 p.n, .string (str t)] 40)) (cs := #[.int .i64 p.n]) (e := 3)
          rw [World.size_alloc] at h
          exact h
        have hb11 := hb1.alloc hb1.size (.cells #[.int .i64 p.n] 3)
        have hP := put_any A' w.heap.size n' c' p.wd _ 1 1 [p.n] xs _ rfl hrow hb11.size (hown1.alloc _) (fun _ a ha hk => by
          injection ha with ha
          subst ha
          have := (hown.lt _ hk).2
          simp only at this
          omega) (by omega)
        rw [← hb1'] at hP
        have HP := Lib.hid hP
        rw [h0] at p1 HP hown1 hb1 hb11
        clear hok hout hb1' hP hrow h0 hBp
        go_wp2_with fail
        refine HP.out.mono ?_
        rintro e w2 ⟨A2, n2, c2, rfl, h2l, hown2, hon2, -⟩
        rw [← HO1.out] at hown2 h2l
        have hb2 : Below w.heap.size w w2 := hb11.trans (hon2.belowB (fun i hi => (hown1.lt i hi).1) hb11.size)
        cases b0
        all_goals
          cases b1
          all_goals
            go_wp2_with fail
            go_roundw
            case rel => exact ⟨k + 1, A2, n2, c2, by omega, by go_num, rfl, by rw [HO2.out]; rfl, Lib.hid h2l, hown2, hb2⟩
            case measure => simp [intOf]; omega
      by_cases h1 : p.k = 1
      · obtain ⟨b1, hb1'⟩ : ∃ b1, b1 = (rt p.wd && ft (t.length : Int) p.wd) := ⟨_, rfl⟩
        have hok : p.ok = b1 := by unfold Pt.ok; rw [if_neg h0, if_pos h1, hb1', HT.out]
        have hout : p.out = (if b1 then be p.wd.toNat t.length ++ t else []) := by unfold Pt.out Pt.bs; rw [hok, if_neg h0, if_pos h1, HT.out]
        rw [hok] at HO2
        rw [hout] at HO1
        have hP := text_any w.heap.size A' n' c' p.wd t xs (wr.alloc (.cells #[.int .i64 p.k, .int .i64 p.wd, .int .i64 p.n, .string (str t)] 40)) hb1.size hown1 (by omega)
        rw [← hb1'] at hP
        have HP := Lib.hid hP
        rw [h1] at p1 HP hown1 hb1
        clear hok hout hb1' hP h0 h1 hBp
        go_wp2_with fail
        refine HP.out.mono ?_
        rintro e w2 ⟨A2, n2, c2, rfl, h2l, hown2, hon2, -⟩
        rw [← HO1.out] at hown2 h2l
        have hb2 : Below w.heap.size w w2 := hb1.trans (hon2.belowB (fun i hi => (hown1.lt i hi).1) hb1.size)
        cases b0
        all_goals
          cases b1
          all_goals
            go_wp2_with fail
            go_roundw
            case rel => exact ⟨k + 1, A2, n2, c2, by omega, by go_num, rfl, by rw [HO2.out]; rfl, Lib.hid h2l, hown2, hb2⟩
            case measure => simp [intOf]; omega
      · have hok : p.ok = true := by unfold Pt.ok; rw [if_neg h0, if_neg h1]
        have hout : p.out = [] := by unfold Pt.out Pt.bs; rw [hok, if_neg h0, if_neg h1]; rfl
        rw [hok] at HO2
        rw [hout, List.append_nil] at HO1
        have e0 : (p.k == 0) = false := by simpa using h0
        have e1 : (p.k == 1) = false := by simpa using h1
        clear hok hout hBp
        cases b0
        all_goals
          go_wp2_with fail
          go_roundw
          case rel => exact ⟨k + 1, A', n', c', by omega, by go_num, rfl, by rw [HO2.out]; rfl, Lib.hid (by rw [HO1.out]; exact hl.out), by rw [HO1.out]; exact hown1, hb1⟩
          case measure => simp [intOf]; omega
    · obtain rfl : k = n := by omega
      have ht := List.take_of_length_le (l := ps) (i := k) (by rw [HN.out]; exact Nat.le_refl _)
      rw [ht] at hown hl ⊢
      go_wp2_with fail
      go_ret2
      exact ⟨A', n', c', rfl, hl.out, hown, hb⟩
end Go.Proofs.Ytijogfjihnbmeaa
