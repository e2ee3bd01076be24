/- slot.Rest, Decode. Conditions: the bytes fit memory. -/
import Derived.Test.YtjpeoedpljcpnaaSlB
import Derived.Test.YtjpeoedpljcpnaaNmP
namespace Go.Proofs.Ytjpeoedpljcpnaa
open Go.RowKit

theorem slOf_int (x : Nat) : slOf x = ⟨(x : Int) % 4, (x : Int) / 8, decide (4 ≤ (x : Int) % 8)⟩ := by
  unfold slOf
  congr 1
  exact decide_eq_decide.2 (by omega)
theorem scells_put (l : List Sl) (s : Sl) : scells l ++ (#[.int .i64 s.k, .int .i64 s.h, .bool s.o] : Array Value).toList = scells (l ++ [s]) := by rw [scells_snoc]; rfl

theorem Rd.lt {w : World} {g : Nat} {l : List UInt8} {e : Int} (h : Rd w g l e) : g < w.heap.size := by
  obtain ⟨_, _, _, h1, _⟩ := h
  exact h1.lt

def lenV : Value → Nat
  | .slice _ n _ => n
  | _ => 0

/-- What Rest answers. -/
def RestPost (w : World) (b : List UInt8) (e : Ending) (w' : World) : Prop :=
  ((restF b = none ∧ e = .returned (.tuple #[.slice none 0 0, .int .i64 60])) ∨ ∃ l A c, restF b = some l ∧ e = .returned (.tuple #[.slice A l.length c, .int .i64 0]) ∧ Own w' w.heap.size 29 3 A l.length c (scells l)) ∧ Below w.heap.size w w'

set_option maxHeartbeats 4000000 in
theorem rest_any (A : Option Addr) (n c : Nat) (b : List UInt8) (w : World) (hn : b.length = n) (hr : Row w A (bv b)) (hsz : n ≤ 1000000) :
    Calls Try.prog 20 #[.slice A n c] w (RestPost w b) := by
  obtain ⟨i0, hi0, hz0, hz1, hz2⟩ := info_parts info_slot
  have HN := Lib.hid hn
  clear hn
  go_enter Try.func20, Try.ntmps20
  go_wp2_with fail
  refine (newReader_any A n c b w HN.out hr (by omega)).mono ?_
  rintro e w1 ⟨gr, rfl, hgr, hrd1, hb1⟩
  go_wp2_with fail
  go_loopw [4] (fun v wr => ∃ (acc : List Sl) (l1 : List UInt8) (A' : Option Addr) (c' : Nat), v = .slice A' acc.length c' ∧ Rd wr gr l1 0 ∧ Own wr w.heap.size 29 3 A' acc.length c' (scells acc) ∧ (∀ k, ownB A' c' = some k → k ≠ gr) ∧ Hid (restF b = (restF l1).map (acc ++ ·)) ∧ 4 * acc.length + l1.length = n ∧ Below w.heap.size w wr) (fun v _ => n - lenV v)
  case atStart => exact ⟨[], b, none, 0, rfl, hrd1, Own.nil _ _ _ _ _, (fun k hk => by simp [ownB] at hk), Lib.hid (by simp), by rw [HN.out]; simp, hb1⟩
  case round =>
    obtain ⟨acc, l1, A', c', rfl, hrd, hown, hne, hres, hlen, hb⟩ := hrel
    obtain ⟨p, hp⟩ : ∃ p, p = l1.length := ⟨_, rfl⟩
    rw [← hp] at hlen
    have HP := Lib.hid hp
    clear hp
    have hL := left_any gr l1 0 wr hrd
    rw [← HP.out] at hL
    go_wp2_with fail
    refine hL.mono ?_
    rintro e w2 ⟨rfl, rfl⟩
    clear hL
    by_cases hp0 : 0 < p
    · by_cases hp4 : p < 4
      · have hN := rnum_any gr l1 0 4 wr hrd
        rw [show (4 : Int) = ((4 : Nat) : Int) from rfl, nm_short l1 4 (by decide) (by rw [← HP.out]; exact hp4)] at hN
        have hnone : restF b = none := by rw [hres.out, restF_short (by rw [← HP.out]; exact hp0) (by rw [← HP.out]; exact hp4)]; rfl
        have HNONE := Lib.hid hnone
        have HNN := Lib.hid hN
        clear hnone hN
        go_wp2_with fail
        refine HNN.out.mono ?_
        rintro e w2 ⟨rfl, hrd2, hon2⟩
        have hb2 : Below w.heap.size w w2 := below_only hb (Nat.le_refl _) hgr hon2
        go_wp2_with fail
        refine (err_any gr l1 10 _ (hrd2.alloc _)).mono ?_
        rintro e w3 ⟨rfl, rfl⟩
        go_wp2_with fail
        go_ret2
        exact ⟨.inl ⟨HNONE.out, rfl⟩, hb2.alloc hb2.size _⟩
      · have hN := rnum_any gr l1 0 4 wr hrd
        rw [show (4 : Int) = ((4 : Nat) : Int) from rfl, nm_yes l1 4 (by decide) (by omega) (by rw [← HP.out]; omega)] at hN
        have hbad : (slOf (un (l1.take 4))).right = false → restF b = none := fun h => by rw [hres.out, restF_bad (by rw [← HP.out]; omega) h]; rfl
        have hgood : (slOf (un (l1.take 4))).right = true → restF b = (restF (l1.drop 4)).map ((acc ++ [slOf (un (l1.take 4))]) ++ ·) := fun h => by
          rw [hres.out, restF_good (by rw [← HP.out]; omega) h, Option.map_map]
          congr 1
          funext r
          simp
        have hxlt : un (l1.take 4) < 4294967296 := by
          have h1 := un_lt (l1.take 4)
          rw [List.length_take, Nat.min_eq_left (by rw [← HP.out]; omega)] at h1
          exact h1
        have hdl : (l1.drop 4).length = p - 4 := by rw [List.length_drop, HP.out]
        obtain ⟨x, hx⟩ : ∃ x, x = un (l1.take 4) := ⟨_, rfl⟩
        rw [← hx] at hN hbad hgood hxlt
        obtain ⟨l2, hl2⟩ : ∃ l2, l2 = l1.drop 4 := ⟨_, rfl⟩
        rw [← hl2] at hN hgood hdl
        have HBAD := Lib.hid hbad
        have HGOOD := Lib.hid hgood
        have HNN := Lib.hid hN
        have HDL := Lib.hid hdl
        clear hbad hgood hN hx hl2 hdl
        go_wp2_with fail
        refine HNN.out.mono ?_
        rintro e w2 ⟨rfl, hrd2, hon2⟩
        go_wp2_with fail
        have hb2 : Below w.heap.size w w2 := below_only hb (Nat.le_refl _) hgr hon2
        have hown2 := hown.only hon2 hne
        have hsl := slOf_int x
        rw [hsl] at HBAD HGOOD
        clear hsl
        obtain ⟨xk, hxk⟩ : ∃ xk : Int, xk = (x : Int) % 4 := ⟨_, rfl⟩
        obtain ⟨xh, hxh⟩ : ∃ xh : Int, xh = (x : Int) / 8 := ⟨_, rfl⟩
        obtain ⟨xo, hxo⟩ : ∃ xo, xo = decide (4 ≤ (x : Int) % 8) := ⟨_, rfl⟩
        rw [← hxk, ← hxh, ← hxo] at HBAD HGOOD ⊢
        clear hxk hxh hxo
        have hS := fun u => sRight_any ⟨xk, xh, xo⟩ u
        have HS := Lib.hid hS
        clear hS
        have hrd3 := hrd2.alloc (.cells #[.int .i64 xk, .int .i64 xh, .bool xo] 29)
        have hBx := Blk.new w2 29 #[.int .i64 xk, .int .i64 xh, .bool xo]
        have hown3 := hown2.alloc (.cells #[.int .i64 xk, .int .i64 xh, .bool xo] 29)
        have hb3 := hb2.alloc hb2.size (.cells #[.int .i64 xk, .int .i64 xh, .bool xo] 29)
        have hs23 := World.size_alloc w2 (.cells #[.int .i64 xk, .int .i64 xh, .bool xo] 29)
        obtain ⟨w3, hw3⟩ : ∃ w3, w3 = w2.alloc (.cells #[.int .i64 xk, .int .i64 xh, .bool xo] 29) := ⟨_, rfl⟩
        rw [← hw3] at hrd3 hBx hown3 hb3 ⊢
        clear hw3 hs23
        refine (err_any gr l2 0 w3 hrd3).mono ?_
        rintro e w4 ⟨rfl, rfl⟩
        obtain ⟨⟨f1, f2, f3⟩, _, f4⟩ := hBx.three
        cases hright : (Sl.right ⟨xk, xh, xo⟩)
        · have h1 := HBAD.out hright
          have H1 := Lib.hid h1
          clear h1
          go_wp2_with fail
          refine (HS.out _).mono ?_
          rw [hright]
          rintro e w4 ⟨rfl, hb4⟩
          go_wp2_with fail
          go_ret2
          exact ⟨.inl ⟨H1.out, rfl⟩, below_all hb3 hb4⟩
        · have h1 := HGOOD.out hright
          have H1 := Lib.hid h1
          clear h1
          go_wp2_with fail
          refine (HS.out _).mono ?_
          rw [hright]
          rintro e w4 ⟨rfl, hb4⟩
          obtain ⟨⟨f1', f2', f3'⟩, _, f4'⟩ := (hBx.belowAll hb4).three
          have hown4 := hown3.below hb4
          have hrd4 := hrd3.only hb4
          have hb04 := below_all hb3 hb4
          have hgl := hrd4.lt
          have hne4 : ∀ k, ownB A' c' = some k → k ≠ gr := hne
          go_wp2_with (at_builtin; refine wpList_app _ rfl _ _ 41 41 rfl w.heap.size 29 i0 _ 3 24 Try.underlying41 hi0 hz0 hz1 hz2 rfl A' acc.length c' _ rfl (hown4.alloc _) _ 1 _ rfl (Src.new Try.underlying41 rfl (by simp [Value.oneCell'])) (by simp only [maxLen]; omega) (by omega) (Nat.le_trans hb04.size (by simp)) ?_; intro A5 c5 w5 hown5 hg5 hb5; rw [scells_put acc ⟨xk, xh, xo⟩] at hown5)
          go_roundw
          case rel =>
            refine ⟨acc ++ [⟨xk, xh, xo⟩], l2, A5, c5, by rw [List.length_append]; rfl, ?_, by rw [List.length_append]; exact hown5, ?_, Lib.hid H1.out, ?_, (hb04.alloc hb04.size _).grown hg5 (Nat.le_trans hb04.size (by simp)) (fun i hi => (hown4.lt i hi).1)⟩
            · refine (hrd4.alloc _).grown hg5 (fun e => hne4 _ e rfl) (fun k hk => ?_)
              obtain ⟨cur, lh, hh⟩ := (hown4.alloc (.cells #[.int .i64 xk, .int .i64 xh, .bool xo] 29)).ty k hk
              exact ⟨cur, _, lh, hh, by decide⟩
            · intro k hk
              rcases hb5 with h | h
              · rw [h] at hk
                exact hne4 k hk
              · rw [h] at hk
                injection hk with hk
                rw [← hk, World.size_alloc]
                omega
            · rw [HDL.out, List.length_append, List.length_singleton]
              omega
          case measure =>
            simp [lenV]
            omega
    · have hl0 : l1 = [] := List.eq_nil_of_length_eq_zero (by rw [← HP.out]; omega)
      have hsome : restF b = some acc := by rw [hres.out, hl0, restF_nil]; simp
      have HS := Lib.hid hsome
      clear hl0 hsome
      go_wp2_with fail
      go_ret2
      exact ⟨.inr ⟨acc, A', c', HS.out, rfl, hown⟩, hb⟩
end Go.Proofs.Ytjpeoedpljcpnaa
