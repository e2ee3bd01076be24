/- pentimentoref06.Rest. Conditions: the bytes fit memory. -/
import Derived.Test.YtjpeoedpljcpnaaSlD
namespace Go.Proofs.Ytjpeoedpljcpnaa
open Go.RowKit

def RRestPost (w : World) (b : List UInt8) (e : Ending) (w' : World) : Prop :=
  ((restF b = none ∧ e = .returned (.tuple #[.slice none 0 0, .int .i64 60])) ∨ ∃ l A c, restF b = some l ∧ e = .returned (.tuple #[.slice A l.length c, .int .i64 0]) ∧ Own w' w.heap.size 23 3 A l.length c (scells l)) ∧ Below w.heap.size w w'

theorem dec_good {b : List UInt8} (h : b.length = 4) (hr : (slOf (un b)).right = true) : decS b = slOf (un b) ∧ decE b = 0 := by
  have : oneF b = some (slOf (un b)) := by unfold oneF; rw [if_pos ⟨h, hr⟩]
  unfold decS decE
  rw [this]
  exact ⟨rfl, rfl⟩
theorem dec_bad {b : List UInt8} (hr : (slOf (un b)).right = false) : decE b = 60 := by
  have : oneF b = none := by unfold oneF; rw [if_neg]; rintro ⟨_, h⟩; rw [hr] at h; cases h
  unfold decE
  rw [this]
  rfl

set_option maxHeartbeats 4000000 in
theorem rRest_any (b : List UInt8) (n : Nat) (w : World) (hn : b.length = n) (hsz : n ≤ 1000000) :
    Calls Try.prog 21 #[.string (str b)] w (RRestPost w b) := by
  obtain ⟨i0, hi0, hz0, hz1, hz2⟩ := info_parts info_rslot
  have HN := Lib.hid hn
  clear hn
  go_enter Try.func21, Try.ntmps21
  go_wp2_with fail
  go_loopw [0, 4] (fun v0 v wr => ∃ (acc : List Sl) (l1 : List UInt8) (A' : Option Addr) (c' : Nat), v0 = .string (str l1) ∧ v = .slice A' acc.length c' ∧ Own wr w.heap.size 23 3 A' acc.length c' (scells acc) ∧ Hid (restF b = (restF l1).map (acc ++ ·)) ∧ 4 * acc.length + l1.length = n ∧ Below w.heap.size w wr) (fun _ v _ => n - lenV v)
  case atStart => exact ⟨[], b, none, 0, rfl, rfl, Own.nil _ _ _ _ _, Lib.hid (by simp), by rw [HN.out]; simp, Below.refl _ _⟩
  case round =>
    obtain ⟨acc, l1, A', c', rfl, rfl, hown, hres, hlen, hb⟩ := hrel
    by_cases hp0 : 0 < l1.length
    · by_cases hp4 : l1.length < 4
      · have hnone : restF b = none := by rw [hres.out, restF_short hp0 hp4]; rfl
        have HNONE := Lib.hid hnone
        clear hnone
        go_wp2_with fail
        go_ret2
        exact ⟨.inl ⟨HNONE.out, rfl⟩, hb⟩
      · have hbad : (slOf (un (l1.take 4))).right = false → restF b = none := fun h => by rw [hres.out, restF_bad (by omega) h]; rfl
        have hgood : (slOf (un (l1.take 4))).right = true → restF b = (restF (l1.drop 4)).map ((acc ++ [slOf (un (l1.take 4))]) ++ ·) := fun h => by
          rw [hres.out, restF_good (by omega) h, Option.map_map]
          congr 1
          funext r
          simp
        have ht4 : (l1.take 4).length = 4 := by rw [List.length_take]; omega
        have hd4 : (l1.drop 4).length = l1.length - 4 := List.length_drop
        have hD := fun u => rDec_any (l1.take 4) u (by omega)
        have HD := Lib.hid hD
        have HBAD := Lib.hid hbad
        have HGOOD := Lib.hid hgood
        have HT4 := Lib.hid ht4
        have HD4 := Lib.hid hd4
        have HFR := Lib.hid (str_front l1 4)
        have HCUT := Lib.hid (str_cut l1 4)
        clear hbad hgood ht4 hd4 hD
        cases hright : (slOf (un (l1.take 4))).right
        · have he := dec_bad hright
          have h1 := HBAD.out hright
          have HE := Lib.hid he
          have H1 := Lib.hid h1
          clear he h1 hright
          go_wp2_with fail
          rw [HFR.out]
          refine (HD.out _).mono ?_
          rw [HE.out]
          rintro e w2 ⟨rfl, hb2⟩
          go_wp2_with fail
          go_ret2
          have hb02 := below_all hb hb2
          exact ⟨.inl ⟨H1.out, rfl⟩, hb02.alloc hb02.size _⟩
        · obtain ⟨hs, he⟩ := dec_good HT4.out hright
          have h1 := HGOOD.out hright
          obtain ⟨s, hss⟩ : ∃ s, s = slOf (un (l1.take 4)) := ⟨_, rfl⟩
          rw [← hss] at hs h1
          have HE := Lib.hid he
          have HS := Lib.hid hs
          have H1 := Lib.hid h1
          clear he hs h1 hright hss
          go_wp2_with fail
          rw [HFR.out]
          refine (HD.out _).mono ?_
          rw [HE.out, HS.out]
          rintro e w2 ⟨rfl, hb2⟩
          have hown2 := hown.below hb2
          have hb02 := below_all hb hb2
          have hsrc : Src Try.prog ((w2.alloc (.cells #[.int .i64 s.k, .int .i64 s.h, .bool s.o] 23)).alloc (.cells #[.int .i64 s.k, .int .i64 s.h, .bool s.o] 23)) 39 (.slice (some ⟨w2.heap.size + 1, 0, none⟩) 1 1) 3 1 s.cells := by
            have h := Src.new (P := Try.prog) (w := w2.alloc (.cells #[.int .i64 s.k, .int .i64 s.h, .bool s.o] 23)) (tx := 39) (e := 23) (cs := #[.int .i64 s.k, .int .i64 s.h, .bool s.o]) (size := 3) (m := 1) (c := 1) Try.underlying39 rfl (by simp [Value.oneCell'])
            rw [World.size_alloc] at h
            exact h
          have hp4' : (4 : Int) ≤ (l1.length : Int) := by omega
          go_wp2_with (at_builtin; refine wpList_app _ rfl _ _ 39 39 rfl w.heap.size 23 i0 _ 3 24 Try.underlying39 hi0 hz0 hz1 hz2 rfl A' acc.length c' _ rfl ((hown2.alloc _).alloc _) _ 1 _ rfl hsrc (by simp only [maxLen]; omega) (by omega) (Nat.le_trans hb02.size (by simp; omega)) ?_; intro A5 c5 w5 hown5 hg5 hb5; rw [← scells_snoc] at hown5)
          try rw [HCUT.out]
          go_wp2_with fail
          go_roundw
          case rel =>
            refine ⟨acc ++ [s], l1.drop 4, A5, c5, ?_, by rw [List.length_append]; rfl, by rw [List.length_append]; exact hown5, Lib.hid H1.out, by rw [HD4.out, List.length_append, List.length_singleton]; omega, ((hb02.alloc hb02.size _).alloc (Nat.le_trans hb02.size (by simp)) _).grown hg5 (Nat.le_trans hb02.size (by simp; omega)) (fun i hi => (hown2.lt i hi).1)⟩
            first | rfl | (rw [HCUT.out])
          case measure =>
            simp [lenV]
            omega
    · have hl0 : l1 = [] := List.eq_nil_of_length_eq_zero (by omega)
      have hsome : restF b = some acc := by rw [hres.out, hl0, restF_nil]; simp
      have HS := Lib.hid hsome
      clear hsome
      subst hl0
      go_wp2_with fail
      go_ret2
      exact ⟨.inr ⟨acc, A', c', HS.out, rfl, hown⟩, hb⟩
end Go.Proofs.Ytjpeoedpljcpnaa
