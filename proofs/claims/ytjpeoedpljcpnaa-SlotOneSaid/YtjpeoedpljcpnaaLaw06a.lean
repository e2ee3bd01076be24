/- The laws SlotMany, SlotBack, SlotJoin. Conditions: the lengths fit memory. -/
import Derived.Test.YtjpeoedpljcpnaaAlive06
namespace Go.Proofs.Ytjpeoedpljcpnaa
open Go.RowKit

theorem AllPost.uni {w w' : World} {l : List Sl} {e : Ending} (h : AllPost w l e w') : ∃ A m c bs, e = .returned (.tuple #[.slice A m c, .int .i64 (if allR l then 0 else 60)]) ∧ bs.length = m ∧ Row w' A (bv bs) ∧ bs = (if allR l then allB l else []) ∧ Below w.heap.size w w' := by
  obtain ⟨⟨h1, rfl⟩ | ⟨h1, A, c, rfl, hown⟩, hb⟩ := h
  · exact ⟨none, 0, 0, [], by rw [h1]; rfl, rfl, .inl rfl, by rw [h1]; rfl, hb⟩
  · exact ⟨A, _, c, allB l, by rw [h1]; rfl, by rw [allB_length], hown.row, by rw [h1]; rfl, hb⟩
theorem RestPost.uni {w w' : World} {b : List UInt8} {e : Ending} (h : RestPost w b e w') : ∃ A c l, e = .returned (.tuple #[.slice A l.length c, .int .i64 (if (restF b).isSome then 0 else 60)]) ∧ Row w' A (scells l) ∧ l = (restF b).getD [] ∧ Below w.heap.size w w' := by
  obtain ⟨⟨h1, rfl⟩ | ⟨l, A, c, h1, rfl, hown⟩, hb⟩ := h
  · exact ⟨none, 0, [], by rw [h1]; rfl, .inl rfl, by rw [h1]; rfl, hb⟩
  · exact ⟨A, c, l, by rw [h1]; rfl, hown.row, by rw [h1]; rfl, hb⟩
theorem RRestPost.uni {w w' : World} {b : List UInt8} {e : Ending} (h : RRestPost w b e w') : ∃ A c l, e = .returned (.tuple #[.slice A l.length c, .int .i64 (if (restF b).isSome then 0 else 60)]) ∧ Row w' A (scells l) ∧ l = (restF b).getD [] ∧ Below w.heap.size w w' := by
  obtain ⟨⟨h1, rfl⟩ | ⟨l, A, c, h1, rfl, hown⟩, hb⟩ := h
  · exact ⟨none, 0, [], by rw [h1]; rfl, .inl rfl, by rw [h1]; rfl, hb⟩
  · exact ⟨A, c, l, by rw [h1]; rfl, hown.row, by rw [h1]; rfl, hb⟩
theorem rest_len {b : List UInt8} : ((restF b).getD []).length ≤ b.length := by
  cases h : restF b with
  | none => simp
  | some l =>
    obtain ⟨_, h2⟩ := restF_some b.length b l (Nat.le_refl _) h
    have := allB_length l
    rw [h2] at this
    simp only [Option.getD_some]
    omega

set_option maxHeartbeats 4000000 in
theorem many_law (A A2 : Option Addr) (n c n2 c2 : Nat) (l : List Sl) (b : List UInt8) (w : World) (hn : l.length = n) (hr : Row w A (scells l)) (hn2 : b.length = n2) (hr2 : Row w A2 (bv b)) :
    Calls Try.prog 4 #[.slice A n c, .slice A2 n2 c2] w fun e w' => e = .returned (.bool true) ∧ Below w.heap.size w w' := by
  have HN := Lib.hid hn
  have HN2 := Lib.hid hn2
  clear hn hn2
  by_cases h1 : 1000 < n
  · go_enter Try.func4, Try.ntmps4
    go_wp2_with fail
    refine (alive_any w).mono ?_
    rintro e w2 ⟨rfl, hb2⟩
    go_wp2_with fail
    go_ret
    exact ⟨rfl, hb2⟩
  by_cases h2 : 5000 < n2
  · go_enter Try.func4, Try.ntmps4
    go_wp2_with fail
    refine (alive_any w).mono ?_
    rintro e w2 ⟨rfl, hb2⟩
    go_wp2_with fail
    go_ret
    exact ⟨rfl, hb2⟩
  go_enter Try.func4, Try.ntmps4
  go_wp2_with fail
  refine (own_any A n c l w HN.out hr (by omega)).mono ?_
  rintro e w1 ⟨A1, c1, rfl, hown1, hb1⟩
  go_wp2_with fail
  refine (all_any A1 n c1 l w1 HN.out hown1.row (by omega)).mono ?_
  rintro e w3 hp3
  obtain ⟨Ax, mx, cx, xs, rfl, hxl, hxr, hxs, hb3⟩ := hp3.uni
  have hr3 := (hr.below hb1).below hb3
  have hrA := rAll_any A n c l w3 HN.out hr3 (by omega)
  rw [← hxs] at hrA
  obtain ⟨er, her⟩ : ∃ er : Int, er = (if allR l then 0 else 60) := ⟨_, rfl⟩
  rw [← her] at hrA ⊢
  have HXL := Lib.hid hxl
  clear her hxs hp3 hxl
  go_wp2_with fail
  refine hrA.mono ?_
  rintro e w4 ⟨rfl, hb4⟩
  have hxr4 := hxr.below hb4
  have hr24 := ((hr2.below hb1).below hb3).below hb4
  go_wp2_with fail
  refine (rest_any A2 n2 c2 b w4 HN2.out hr24 (by omega)).mono ?_
  rintro e w5 hp5
  obtain ⟨A5, c5, l5, rfl, hr5, hl5, hb5⟩ := hp5.uni
  have hxr5 := hxr4.below hb5
  have hr25 := hr24.below hb5
  have hs5 := run_string (P := Try.prog) HN2.out 24 9 5 (c := c2) Try.underlying24 Try.underlying5 Try.underlying9 hr25
  obtain ⟨eg, heg⟩ : ∃ eg : Int, eg = (if (restF b).isSome then 0 else 60) := ⟨_, rfl⟩
  rw [← heg]
  have HEG := Lib.hid heg
  have HL5 := Lib.hid hl5
  have hlen5 : l5.length ≤ n2 := by rw [hl5, ← HN2.out]; exact rest_len
  clear heg hl5 hp5
  go_wp2_with fail
  refine (rRest_any b n2 w5 HN2.out (by omega)).mono ?_
  rintro e w6 hp6
  obtain ⟨A6, c6, l6, rfl, hr6, hl6, hb6⟩ := hp6.uni
  obtain rfl : l5 = l6 := HL5.out.trans hl6.symm
  rw [← HEG.out]
  clear hl6 hp6
  have hxr6 := hxr5.below hb6
  have hr56 := hr5.below hb6
  go_wp2_with fail
  refine (alive_any w6).mono ?_
  rintro e w7 ⟨rfl, hb7⟩
  have hxr7 := hxr6.below hb7
  have hs7 := run_string (P := Try.prog) HXL.out 24 9 5 (c := cx) Try.underlying24 Try.underlying5 Try.underlying9 hxr7
  go_wp2_with fail
  refine (plain_any A5 l5.length c5 l5 w7 rfl (hr56.below hb7) (by omega)).mono ?_
  rintro e w8 ⟨A8, c8, rfl, hown8, hb8⟩
  go_wp2_with fail
  refine (same_any A8 A6 l5.length c8 l5.length c6 l5 l5 w8 rfl hown8.row rfl ((hr6.below hb7).below hb8) (by omega) rfl).mono ?_
  rintro e w9 ⟨rfl, hb9⟩
  go_wp2_with fail
  go_ret
  exact ⟨rfl, below_all hb1 (below_all hb3 (below_all hb4 (below_all hb5 (below_all hb6 (below_all hb7 (below_all hb8 hb9))))))⟩
end Go.Proofs.Ytjpeoedpljcpnaa
