/- slot.Encode; pentimentolaw06.own, plain; pentimentoref06.Encode, All, Same. Conditions: the lengths fit memory. -/
import Derived.Test.YtjpeoedpljcpnaaSlA
namespace Go.Proofs.Ytjpeoedpljcpnaa
open Go.RowKit

theorem AllPost.lift {w w1 w' : World} {l : List Sl} {e : Ending} (hb : Below w.heap.size w w1) (h : AllPost w1 l e w') : AllPost w l e w' :=
  ⟨h.1.imp id (fun ⟨h1, A, c, h2, h3⟩ => ⟨h1, A, c, h2, h3.less hb.size⟩), below_all hb h.2⟩

theorem encode_any (s : Sl) (w : World) :
    Calls Try.prog 10 #[.agg #[.int .i64 s.k, .int .i64 s.h, .bool s.o]] w (AllPost w [s]) := by
  have hrow : Row ((w.alloc (.cells #[.int .i64 s.k, .int .i64 s.h, .bool s.o] 29)).alloc (.cells #[.int .i64 s.k, .int .i64 s.h, .bool s.o] 29)) (some ⟨w.heap.size + 1, 0, none⟩) (scells [s]) := by
    have h := row_new (w := w.alloc (.cells #[.int .i64 s.k, .int .i64 s.h, .bool s.o] 29)) (cs := #[.int .i64 s.k, .int .i64 s.h, .bool s.o]) (e := 29)
    rw [World.size_alloc] at h
    exact h
  have hb : Below w.heap.size w ((w.alloc (.cells #[.int .i64 s.k, .int .i64 s.h, .bool s.o] 29)).alloc (.cells #[.int .i64 s.k, .int .i64 s.h, .bool s.o] 29)) := ((Below.refl _ _).alloc (Nat.le_refl _) _).alloc (by simp) _
  go_enter Try.func10, Try.ntmps10
  go_wp2_with fail
  refine (all_any _ 1 1 [s] _ rfl hrow (by omega)).mono ?_
  rintro e w1 ⟨⟨h1, rfl⟩ | ⟨h1, A, c, rfl, h2⟩, hb1⟩
  · go_wp2_with fail
    go_ret2
    exact AllPost.lift hb ⟨.inl ⟨h1, rfl⟩, hb1⟩
  · go_wp2_with fail
    go_ret2
    exact AllPost.lift hb ⟨.inr ⟨h1, A, c, rfl, h2⟩, hb1⟩

set_option maxHeartbeats 1000000 in
theorem own_any (A : Option Addr) (n c : Nat) (l : List Sl) (w : World) (hn : l.length = n) (hr : Row w A (scells l)) (hsz : n ≤ 1000000) :
    Calls Try.prog 18 #[.slice A n c] w fun e w' => ∃ A' c', e = .returned (.slice A' n c') ∧ Own w' w.heap.size 29 3 A' n c' (scells l) ∧ Below w.heap.size w w' := by
  obtain ⟨i0, hi0, hz0, hz1, hz2⟩ := info_parts info_slot
  have HN := Lib.hid hn
  clear hn
  go_enter Try.func18, Try.ntmps18
  go_wp2_with fail
  go_loopw [3, 8] (fun v i wr => ∃ (k : Nat) (A' : Option Addr) (c' : Nat), k ≤ n ∧ i = .int .i64 k ∧ v = .slice A' k c' ∧ Own wr w.heap.size 29 3 A' k c' (scells (l.take k)) ∧ Below w.heap.size w wr) (fun _ i _ => n - (intOf i).toNat)
  case atStart => exact ⟨0, none, 0, Nat.zero_le _, rfl, rfl, Own.nil _ _ _ _ _, Below.refl _ _⟩
  case round =>
    obtain ⟨k, A', c', hk, rfl, rfl, hown, hb⟩ := hrel
    by_cases hlt : k < n
    · have hkl : k < l.length := by rw [HN.out]; exact hlt
      obtain ⟨g2, o2, rfl, hg2, p1, p2, p3⟩ := (hr.below hb).slot hkl
      have hts : scells (l.take (k + 1)) = scells (l.take k) ++ l[k].cells := by rw [List.take_succ_eq_append_getElem hkl, scells_snoc]
      obtain ⟨s, hs⟩ : ∃ s, s = l[k] := ⟨_, rfl⟩
      rw [← hs] at p1 p2 p3 hts
      clear hs
      have HTS := Lib.hid hts
      clear hts
      have hsrc : Src Try.prog ((wr.alloc (.cells #[.int .i64 s.k, .int .i64 s.h, .bool s.o] 23)).alloc (.cells #[.int .i64 s.k, .int .i64 s.h, .bool s.o] 29)) 41 (.slice (some ⟨wr.heap.size + 1, 0, none⟩) 1 1) 3 1 s.cells := by
        have h := Src.new (P := Try.prog) (w := wr.alloc (.cells #[.int .i64 s.k, .int .i64 s.h, .bool s.o] 23)) (tx := 41) (e := 29) (cs := #[.int .i64 s.k, .int .i64 s.h, .bool s.o]) (size := 3) (m := 1) (c := 1) Try.underlying41 rfl (by simp [Value.oneCell'])
        rw [World.size_alloc] at h
        exact h
      go_wp2_with (at_builtin; refine wpList_app _ rfl _ _ 41 41 rfl w.heap.size 29 i0 _ 3 24 Try.underlying41 hi0 hz0 hz1 hz2 rfl A' k c' _ rfl ((hown.alloc _).alloc _) _ 1 _ rfl hsrc (by simp only [maxLen]; omega) (by omega) (Nat.le_trans hb.size (by simp; omega)) ?_; intro A3 c3 w3 hown3 hg3 hb3; rw [← HTS.out] at hown3)
      go_roundw
      case rel => exact ⟨k + 1, A3, c3, by omega, by go_num, rfl, hown3, ((hb.alloc hb.size _).alloc (Nat.le_trans hb.size (by simp)) _).grown hg3 (Nat.le_trans hb.size (by simp; omega)) (fun i hi => (hown.lt i hi).1)⟩
      case measure => simp [intOf]; omega
    · obtain rfl : k = n := by omega
      rw [List.take_of_length_le (by rw [HN.out]; exact Nat.le_refl _)] at hown
      go_wp2_with fail
      go_ret
      exact ⟨_, _, rfl, hown, hb⟩

set_option maxHeartbeats 1000000 in
theorem plain_any (A : Option Addr) (n c : Nat) (l : List Sl) (w : World) (hn : l.length = n) (hr : Row w A (scells l)) (hsz : n ≤ 1000000) :
    Calls Try.prog 23 #[.slice A n c] w fun e w' => ∃ A' c', e = .returned (.slice A' n c') ∧ Own w' w.heap.size 23 3 A' n c' (scells l) ∧ Below w.heap.size w w' := by
  obtain ⟨i0, hi0, hz0, hz1, hz2⟩ := info_parts info_rslot
  have HN := Lib.hid hn
  clear hn
  go_enter Try.func23, Try.ntmps23
  go_wp2_with fail
  go_loopw [3, 8] (fun v i wr => ∃ (k : Nat) (A' : Option Addr) (c' : Nat), k ≤ n ∧ i = .int .i64 k ∧ v = .slice A' k c' ∧ Own wr w.heap.size 23 3 A' k c' (scells (l.take k)) ∧ Below w.heap.size w wr) (fun _ i _ => n - (intOf i).toNat)
  case atStart => exact ⟨0, none, 0, Nat.zero_le _, rfl, rfl, Own.nil _ _ _ _ _, Below.refl _ _⟩
  case round =>
    obtain ⟨k, A', c', hk, rfl, rfl, hown, hb⟩ := hrel
    by_cases hlt : k < n
    · have hkl : k < l.length := by rw [HN.out]; exact hlt
      obtain ⟨g2, o2, rfl, hg2, p1, p2, p3⟩ := (hr.below hb).slot hkl
      have hts : scells (l.take (k + 1)) = scells (l.take k) ++ l[k].cells := by rw [List.take_succ_eq_append_getElem hkl, scells_snoc]
      obtain ⟨s, hs⟩ : ∃ s, s = l[k] := ⟨_, rfl⟩
      rw [← hs] at p1 p2 p3 hts
      clear hs
      have HTS := Lib.hid hts
      clear hts
      have hsrc : Src Try.prog ((wr.alloc (.cells #[.int .i64 s.k, .int .i64 s.h, .bool s.o] 29)).alloc (.cells #[.int .i64 s.k, .int .i64 s.h, .bool s.o] 23)) 39 (.slice (some ⟨wr.heap.size + 1, 0, none⟩) 1 1) 3 1 s.cells := by
        have h := Src.new (P := Try.prog) (w := wr.alloc (.cells #[.int .i64 s.k, .int .i64 s.h, .bool s.o] 29)) (tx := 39) (e := 23) (cs := #[.int .i64 s.k, .int .i64 s.h, .bool s.o]) (size := 3) (m := 1) (c := 1) Try.underlying39 rfl (by simp [Value.oneCell'])
        rw [World.size_alloc] at h
        exact h
      go_wp2_with (at_builtin; refine wpList_app _ rfl _ _ 39 39 rfl w.heap.size 23 i0 _ 3 24 Try.underlying39 hi0 hz0 hz1 hz2 rfl A' k c' _ rfl ((hown.alloc _).alloc _) _ 1 _ rfl hsrc (by simp only [maxLen]; omega) (by omega) (Nat.le_trans hb.size (by simp; omega)) ?_; intro A3 c3 w3 hown3 hg3 hb3; rw [← HTS.out] at hown3)
      go_roundw
      case rel => exact ⟨k + 1, A3, c3, by omega, by go_num, rfl, hown3, ((hb.alloc hb.size _).alloc (Nat.le_trans hb.size (by simp)) _).grown hg3 (Nat.le_trans hb.size (by simp; omega)) (fun i hi => (hown.lt i hi).1)⟩
      case measure => simp [intOf]; omega
    · obtain rfl : k = n := by omega
      rw [List.take_of_length_le (by rw [HN.out]; exact Nat.le_refl _)] at hown
      go_wp2_with fail
      go_ret
      exact ⟨_, _, rfl, hown, hb⟩

theorem numB4 {x : Int} (h : 0 ≤ x ∧ x < 4294967296) : numB 4 x = be 4 x.toNat := by
  unfold numB
  rw [ft_four, if_pos (by simp [rt]; omega)]
  rfl

/-- What the reference's Encode answers. -/
def encS (s : Sl) : List UInt8 := if s.right then be 4 s.num.toNat else []
def encE (s : Sl) : Int := if s.right then 0 else 60

set_option maxHeartbeats 1000000 in
theorem rEnc_any (s : Sl) (w : World) :
    Calls Try.prog 11 #[.agg #[.int .i64 s.k, .int .i64 s.h, .bool s.o]] w fun e w' => e = .returned (.tuple #[.string (str (encS s)), .int .i64 (encE s)]) ∧ Below w.heap.size w w' := by
  have hS := fun u => rRight6_any s u
  have HS := Lib.hid hS
  clear hS
  cases hright : s.right
  · have h1 : encS s = [] := by unfold encS; rw [hright]; rfl
    have h2 : encE s = 60 := by unfold encE; rw [hright]; rfl
    rw [h1, h2]
    clear h1 h2
    go_enter Try.func11, Try.ntmps11
    go_wp2_with fail
    refine (HS.out _).mono ?_
    rw [hright]
    rintro e w2 ⟨rfl, hb2⟩
    go_wp2_with fail
    go_ret2
    exact ⟨rfl, below_all ((Below.refl _ _).alloc (Nat.le_refl _) (.cells #[.int .i64 s.k, .int .i64 s.h, .bool s.o] 23)) hb2⟩
  · have h1 : encS s = be 4 s.num.toNat := by unfold encS; rw [hright]; rfl
    have h2 : encE s = 0 := by unfold encE; rw [hright]; rfl
    rw [h1, h2]
    clear h1 h2
    have hnum := s.num_ok hright
    have hcs := s.right_cases hright
    have hb1 : 0 ≤ s.h ∧ s.h < 512 ∧ 0 ≤ s.k ∧ s.k ≤ 2 := by omega
    have hdef : s.num = 8 * s.h + s.k + (if s.o then 4 else 0) := rfl
    have HR := Lib.hid hright
    have HDEF := Lib.hid hdef
    have HNUM := Lib.hid hnum
    obtain ⟨hb11, hb12, hb13, hb14⟩ := hb1
    clear hcs hright hdef hnum
    have hBs := Blk.new w 23 #[.int .i64 s.k, .int .i64 s.h, .bool s.o]
    have hbA := (Below.refl w.heap.size w).alloc (Nat.le_refl _) (.cells #[.int .i64 s.k, .int .i64 s.h, .bool s.o] 23)
    go_enter Try.func11, Try.ntmps11
    go_wp2_with fail
    refine (HS.out _).mono ?_
    rw [HR.out]
    rintro e w2 ⟨rfl, hb2⟩
    obtain ⟨⟨f1, f2, f3⟩, _, f4⟩ := (hBs.belowAll hb2).three
    have hb02 := below_all hbA hb2
    cases ho : s.o
    · rw [ho] at f3
      have hnm : s.num = 8 * s.h + s.k := by rw [HDEF.out, ho]; simp
      have HNM := Lib.hid hnm
      clear hnm
      go_wp2_with fail
      refine (num_any (8 * s.h + s.k) 4 w2).mono ?_
      rw [numB4 (by omega), ← HNM.out]
      rintro e w3 ⟨rfl, hb3⟩
      go_wp2_with fail
      go_ret2
      exact ⟨rfl, below_all hb02 hb3⟩
    · rw [ho] at f3
      have hnm : s.num = 8 * s.h + s.k + 4 := by rw [HDEF.out, ho]; simp
      have HNM := Lib.hid hnm
      clear hnm
      go_wp2_with fail
      refine (num_any (8 * s.h + s.k + 4) 4 w2).mono ?_
      rw [numB4 (by omega), ← HNM.out]
      rintro e w3 ⟨rfl, hb3⟩
      go_wp2_with fail
      go_ret2
      exact ⟨rfl, below_all hb02 hb3⟩

set_option maxHeartbeats 1000000 in
theorem rAll_any (A : Option Addr) (n c : Nat) (l : List Sl) (w : World) (hn : l.length = n) (hr : Row w A (scells l)) (hsz : n ≤ 1000000) :
    Calls Try.prog 19 #[.slice A n c] w fun e w' => e = .returned (.tuple #[.string (str (if allR l then allB l else [])), .int .i64 (if allR l then 0 else 60)]) ∧ Below w.heap.size w w' := by
  have HN := Lib.hid hn
  clear hn
  obtain ⟨out, hout⟩ : ∃ out, out = (if allR l then allB l else []) := ⟨_, rfl⟩
  obtain ⟨err, herr⟩ : ∃ err : Int, err = (if allR l then 0 else 60) := ⟨_, rfl⟩
  rw [← hout, ← herr]
  have HOUT := Lib.hid hout
  have HERR := Lib.hid herr
  clear hout herr
  go_enter Try.func19, Try.ntmps19
  go_wp2_with fail
  go_loopw [4, 5] (fun v i wr => ∃ k : Nat, k ≤ n ∧ i = .int .i64 k ∧ v = .string (str (allB (l.take k))) ∧ Hid (allR (l.take k) = true) ∧ Below w.heap.size w wr) (fun _ i _ => n - (intOf i).toNat)
  case atStart => exact ⟨0, Nat.zero_le _, rfl, rfl, Lib.hid rfl, Below.refl _ _⟩
  case round =>
    obtain ⟨k, hk, rfl, rfl, hall, hb⟩ := hrel
    by_cases hlt : k < n
    · have hkl : k < l.length := by rw [HN.out]; exact hlt
      obtain ⟨g2, o2, rfl, hg2, p1, p2, p3⟩ := (hr.below hb).slot hkl
      have hbad : l[k].right = false → allR l = false := fun h => allR_not hkl h
      have hts : allB (l.take (k + 1)) = allB (l.take k) ++ be 4 l[k].num.toNat := by rw [List.take_succ_eq_append_getElem hkl, allB_snoc]
      have htr : l[k].right = true → allR (l.take (k + 1)) = true := fun h => by rw [List.take_succ_eq_append_getElem hkl, allR_append, hall.out, allR_cons, h]; rfl
      have htl : (allB (l.take k)).length ≤ 4 * n := by rw [allB_length, List.length_take]; omega
      obtain ⟨s, hs⟩ : ∃ s, s = l[k] := ⟨_, rfl⟩
      rw [← hs] at p1 p2 p3 hbad hts htr
      clear hs
      have HBAD := Lib.hid hbad
      have HTS := Lib.hid hts
      have HTR := Lib.hid htr
      clear hbad hts htr
      have hS := fun u => rEnc_any s u
      have HS := Lib.hid hS
      clear hS
      cases hright : s.right
      · have h1 : encS s = [] := by unfold encS; rw [hright]; rfl
        have h2 : encE s = 60 := by unfold encE; rw [hright]; rfl
        have H1 := Lib.hid h1
        have H2 := Lib.hid h2
        clear h1 h2
        go_wp2_with fail
        refine (HS.out _).mono ?_
        rw [H1.out, H2.out]
        rintro e w2 ⟨rfl, hb2⟩
        go_wp2_with fail
        go_ret2
        have h3 := HBAD.out hright
        exact ⟨by rw [HOUT.out, HERR.out, h3]; rfl, below_all hb hb2⟩
      · have h1 : encS s = be 4 s.num.toNat := by unfold encS; rw [hright]; rfl
        have h2 : encE s = 0 := by unfold encE; rw [hright]; rfl
        have H1 := Lib.hid h1
        have H2 := Lib.hid h2
        clear h1 h2
        obtain ⟨x, hx⟩ : ∃ x, x = be 4 s.num.toNat := ⟨_, rfl⟩
        have hxl : x.length = 4 := by rw [hx, be_length]
        rw [← hx] at H1 HTS
        clear hx
        have hcat := run_cat (P := Try.prog) (allB (l.take k)) x (by omega)
        rw [← HTS.out] at hcat
        go_wp2_with fail
        refine (HS.out _).mono ?_
        rw [H1.out, H2.out]
        rintro e w2 ⟨rfl, hb2⟩
        go_wp2_with fail
        go_roundw
        case rel => exact ⟨k + 1, by omega, by go_num, rfl, Lib.hid (HTR.out hright), below_all hb hb2⟩
        case measure => simp [intOf]; omega
    · obtain rfl : k = n := by omega
      have ht := List.take_of_length_le (l := l) (i := k) (by rw [HN.out]; exact Nat.le_refl _)
      rw [ht] at hall ⊢
      go_wp2_with fail
      go_ret2
      exact ⟨by rw [HOUT.out, HERR.out, hall.out]; rfl, hb⟩

set_option maxHeartbeats 2000000 in
theorem same_any (A A2 : Option Addr) (n c n2 c2 : Nat) (l l2 : List Sl) (w : World) (hn : l.length = n) (hr : Row w A (scells l)) (hn2 : l2.length = n2) (hr2 : Row w A2 (scells l2)) (hsz : n ≤ 1000000) (he : l = l2) :
    Calls Try.prog 22 #[.slice A n c, .slice A2 n2 c2] w fun e w' => e = .returned (.bool true) ∧ Below w.heap.size w w' := by
  subst he
  have HN := Lib.hid hn
  obtain rfl : n2 = n := by rw [← hn, ← hn2]
  clear hn hn2
  go_enter Try.func22, Try.ntmps22
  go_wp2_with fail
  go_loopw [5] (fun i wr => ∃ k : Nat, k ≤ n2 ∧ i = .int .i64 k ∧ Below w.heap.size w wr) (fun i _ => n2 - (intOf i).toNat)
  case atStart => exact ⟨0, Nat.zero_le _, rfl, Below.refl _ _⟩
  case round =>
    obtain ⟨k, hk, rfl, hb⟩ := hrel
    by_cases hlt : k < n2
    · have hkl : k < l.length := by rw [HN.out]; exact hlt
      obtain ⟨g, o, rfl, hg, p1, p2, p3⟩ := (hr.below hb).slot hkl
      obtain ⟨g2, o2, rfl, hg2, q1, q2, q3⟩ := (hr2.below hb).slot hkl
      obtain ⟨s, hs⟩ : ∃ s, s = l[k] := ⟨_, rfl⟩
      rw [← hs] at p1 p2 p3 q1 q2 q3
      clear hs
      go_wp2_with fail
      refine wp_region_seq true (.take 0 .copy (.take 1 .copy (.take 2 .addr (.take 3 .load (.take 4 .copy (.take 5 .copy (.take 6 .addr (.take 7 .load (.alone 8 .fin))))))))) (by kernel_rfl) (by kernel_rfl) (by kernel_rfl) ?_
      simp only [pre, nxt, List.getElem?_toArray, List.getElem?_cons_zero, List.getElem?_cons_succ, opAt, ghosts, List.nil_append]
      go_wp2_with fail
      refine next_keep (Keep.refl _) ?_
      go_wp2_with fail
      refine ends_normal ?_
      go_wp2_with fail
      go_roundw
      case rel => exact ⟨k + 1, by omega, by go_num, hb.drew⟩
      case measure => simp [intOf]; omega
    · obtain rfl : k = n2 := by omega
      go_wp2_with fail
      go_ret
      exact ⟨rfl, hb⟩
end Go.Proofs.Ytjpeoedpljcpnaa
