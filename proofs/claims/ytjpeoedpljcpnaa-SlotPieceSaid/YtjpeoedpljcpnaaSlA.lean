/- slot.All, Encode; pentimentolaw06.own, plain; pentimentoref06.Encode, All, Same. Conditions: the lengths fit memory. -/
import Derived.Test.YtjpeoedpljcpnaaSl
import Derived.Test.YtjpeoedpljcpnaaText
import Derived.Test.YtjpeoedpljcpnaaSeq
import Derived.Test.YtjpeoedpljcpnaaRef1
namespace Go.Proofs.Ytjpeoedpljcpnaa
open Go.RowKit

theorem info_slot : (Try.prog.info? 29).map (fun i => (i.zero, i.size, i.bytes)) = some (some (.agg #[.int .i64 0, .int .i64 0, .bool false]), 3, 24) := by kernel_rfl
theorem info_rslot : (Try.prog.info? 23).map (fun i => (i.zero, i.size, i.bytes)) = some (some (.agg #[.int .i64 0, .int .i64 0, .bool false]), 3, 24) := by kernel_rfl

/-- A number of four bytes, written. -/
theorem put4_any (B : Nat) (A : Option Addr) (n c : Nat) (xs : List UInt8) (x : Int) (w : World) (g : Nat) (hg : g = w.heap.size) (hB : B ≤ w.heap.size) (hown : Own w B 5 1 A n c (bv xs)) (hx : 0 ≤ x ∧ x < 4294967296) (hsz : n + 4 ≤ 140737488355328) :
    Calls Try.prog 27 #[.slice A n c, .int .i64 4, .slice (some ⟨g, 0, none⟩) 1 1] (w.alloc (.cells #[.int .i64 x] 3)) fun e w' => ∃ A' c', e = .returned (.tuple #[.slice A' (n + 4) c', .bool true]) ∧ Own w' B 5 1 A' (n + 4) c' (bv (xs ++ be 4 x.toNat)) ∧ Below B w w' := by
  subst hg
  have hrow1 : Row (w.alloc (.cells #[.int .i64 x] 3)) (some ⟨w.heap.size, 0, none⟩) (iv [x]) := row_new
  have hfit1 : fitAll 4 [x] = true := by
    simp only [fitAll, List.all_cons, List.all_nil, Bool.and_true]
    rw [ft_four]
    simp
    omega
  refine (put_yes_at B A n c 4 4 rfl _ 1 1 [x] xs _ rfl hrow1 (by simp; omega) (hown.alloc _) (by decide) hfit1 (fun a ha hk => ?_) (by omega)).mono ?_
  · injection ha with ha
    subst ha
    have := (hown.lt _ hk).2
    exact absurd this (Nat.lt_irrefl _)
  · rintro e w' ⟨A', c', rfl, h1, h2, _⟩
    refine ⟨A', c', rfl, by simpa [putB] using h1, ?_⟩
    exact ((Below.refl _ _).alloc hB _).trans (h2.belowB (fun k hk => (hown.lt k hk).1) (by simp; omega))

/-- What All answers. -/
def AllPost (w : World) (l : List Sl) (e : Ending) (w' : World) : Prop :=
  ((allR l = false ∧ e = .returned (.tuple #[.slice none 0 0, .int .i64 60])) ∨ (allR l = true ∧ ∃ A c, e = .returned (.tuple #[.slice A (4 * l.length) c, .int .i64 0]) ∧ Own w' w.heap.size 5 1 A (4 * l.length) c (bv (allB l)))) ∧ Below w.heap.size w w'

set_option maxHeartbeats 2000000 in
theorem all_any (A : Option Addr) (n c : Nat) (l : List Sl) (w : World) (hn : l.length = n) (hr : Row w A (scells l)) (hsz : n ≤ 1000000) :
    Calls Try.prog 17 #[.slice A n c] w (AllPost w l) := by
  have HN := Lib.hid hn
  clear hn
  go_enter Try.func17, Try.ntmps17
  go_wp2_with fail
  go_loopw [4, 10] (fun v i wr => ∃ (k : Nat) (A' : Option Addr) (c' : Nat), k ≤ n ∧ i = .int .i64 k ∧ v = .slice A' (4 * k) c' ∧ Hid (allR (l.take k) = true) ∧ Own wr w.heap.size 5 1 A' (4 * k) c' (bv (allB (l.take k))) ∧ Below w.heap.size w wr) (fun _ i _ => n - (intOf i).toNat)
  case atStart => exact ⟨0, none, 0, Nat.zero_le _, rfl, rfl, Lib.hid rfl, Own.nil _ _ _ _ _, Below.refl _ _⟩
  case round =>
    obtain ⟨k, A', c', hk, rfl, rfl, hall, hown, hb⟩ := hrel
    by_cases hlt : k < n
    · have hkl : k < l.length := by rw [HN.out]; exact hlt
      obtain ⟨g2, o2, rfl, hg2, p1, p2, p3⟩ := (hr.below hb).slot hkl
      have hbad : l[k].right = false → allR l = false := fun h => allR_not hkl h
      have hts : allB (l.take (k + 1)) = allB (l.take k) ++ be 4 l[k].num.toNat := by rw [List.take_succ_eq_append_getElem hkl, allB_snoc]
      have htr : l[k].right = true → allR (l.take (k + 1)) = true := fun h => by rw [List.take_succ_eq_append_getElem hkl, allR_append, hall.out, allR_cons, h]; rfl
      obtain ⟨s, hs⟩ : ∃ s, s = l[k] := ⟨_, rfl⟩
      rw [← hs] at p1 p2 p3 hbad hts htr
      clear hs
      have HBAD := Lib.hid hbad
      have HTS := Lib.hid hts
      have HTR := Lib.hid htr
      clear hbad hts htr
      have hS := fun u => sRight_any s u
      have HS := Lib.hid hS
      clear hS
      cases hright : s.right
      · go_wp2_with fail
        refine (HS.out _).mono ?_
        rw [hright]
        rintro e w2 ⟨rfl, hb2⟩
        go_wp2_with fail
        go_ret2
        exact ⟨.inl ⟨HBAD.out hright, rfl⟩, below_all (hb.alloc hb.size (.cells #[.int .i64 s.k, .int .i64 s.h, .bool s.o] 29)) hb2⟩
      · have hnum := s.num_ok hright
        have hcs := s.right_cases hright
        have hb1 : 0 ≤ s.h ∧ s.h < 512 ∧ 0 ≤ s.k ∧ s.k ≤ 2 := by omega
        have hdef : s.num = 8 * s.h + s.k + (if s.o then 4 else 0) := rfl
        have HR := Lib.hid hright
        have HDEF := Lib.hid hdef
        have HNUM := Lib.hid hnum
        obtain ⟨hb11, hb12, hb13, hb14⟩ := hb1
        clear hcs hright hdef hnum
        have hBs := Blk.new wr 29 #[.int .i64 s.k, .int .i64 s.h, .bool s.o]
        go_wp2_with fail
        refine (HS.out _).mono ?_
        rw [HR.out]
        rintro e w2 ⟨rfl, hb2⟩
        obtain ⟨⟨f1, f2, f3⟩, _, f4⟩ := (hBs.belowAll hb2).three
        have hb02 : Below w.heap.size w w2 := below_all (hb.alloc hb.size (.cells #[.int .i64 s.k, .int .i64 s.h, .bool s.o] 29)) hb2
        have hown2 := (hown.alloc (.cells #[.int .i64 s.k, .int .i64 s.h, .bool s.o] 29)).below hb2
        cases ho : s.o
        · rw [ho] at f3
          have hnm : s.num = 8 * s.h + s.k := by rw [HDEF.out, ho]; simp
          go_wp2_with fail
          refine (put4_any w.heap.size A' (4 * k) c' (allB (l.take k)) (8 * s.h + s.k) w2 _ rfl hb02.size hown2 (by omega) (by omega)).mono ?_
          rintro e w3 ⟨A3, c3, rfl, hown3, hb3⟩
          rw [← hnm, ← HTS.out] at hown3
          go_wp2_with fail
          go_roundw
          case rel => exact ⟨k + 1, A3, c3, by omega, by go_num, rfl, Lib.hid (HTR.out HR.out), hown3, hb02.trans hb3⟩
          case measure => simp [intOf]; omega
        · rw [ho] at f3
          have hnm : s.num = 8 * s.h + s.k + 4 := by rw [HDEF.out, ho]; simp
          go_wp2_with fail
          refine (put4_any w.heap.size A' (4 * k) c' (allB (l.take k)) (8 * s.h + s.k + 4) w2 _ rfl hb02.size hown2 (by omega) (by omega)).mono ?_
          rintro e w3 ⟨A3, c3, rfl, hown3, hb3⟩
          rw [← hnm, ← HTS.out] at hown3
          go_wp2_with fail
          go_roundw
          case rel => exact ⟨k + 1, A3, c3, by omega, by go_num, rfl, Lib.hid (HTR.out HR.out), hown3, hb02.trans hb3⟩
          case measure => simp [intOf]; omega
    · obtain rfl : k = n := by omega
      have ht := List.take_of_length_le (l := l) (i := k) (by rw [HN.out]; exact Nat.le_refl _)
      rw [ht] at hown hall
      go_wp2_with fail
      go_ret2
      exact ⟨.inr ⟨hall.out, A', c', by rw [HN.out]; rfl, by rw [HN.out]; exact hown⟩, hb⟩
end Go.Proofs.Ytjpeoedpljcpnaa
