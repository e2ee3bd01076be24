/- pentimentolaw03.does, few. Conditions: the lengths fit memory; the numbers are int64's. -/
import Derived.Test.YtgblekjkphnjfaaRdo
namespace Go.Proofs.Ytgblekjkphnjfaa
open Go.RowKit
set_option linter.unusedSimpArgs false

def WrPost (w : World) (B : Nat) (f : Fp) (r : St × Int) (e : Ending) (w' : World) : Prop := ∃ f', e = .returned (.int .i64 r.2) ∧ Sto w' B f' r.1 ∧ Turned w w' f f'
theorem write_any (B : Nat) (f : Fp) (s : St) (w : World) (h : Sto w B f s) (at_ : Int) (A : Option Addr) (m c : Nat) (b : List UInt8) (hm : b.length = m) (hmc : m ≤ c) (hm63 : m ≤ 9223372036854775807) (hr : Away w A (bv b) (Foot f)) (hsz : s.l.length + 4096 ≤ 5000000000000) :
    Calls Try.prog 17 #[.pointer (some ⟨f.g, 0, none⟩), .int .i64 at_, .slice A m c] w (WrPost w B f (doW s at_ b)) := by
  by_cases hno : m = 0 ∨ m % 16 ≠ 0 ∨ insideB s.n at_ ((m / 16 : Nat) : Int) = false
  · refine (write_no B f s w h at_ A m c b hm hm63 hno).mono ?_
    rintro e w' ⟨rfl, rfl⟩
    have e1 : (doW s at_ b).1 = s := by
      unfold doW
      split
      · rfl
      · rename_i h1
        rw [if_pos]
        rw [hm] at h1 ⊢
        rcases hno with h2 | h2 | h2
        · exact absurd (.inl h2) h1
        · exact absurd (.inr h2) h1
        · exact h2
    exact ⟨f, rfl, by rw [e1]; exact h, Turned.refl _ _⟩
  · have h1 : ¬ m = 0 := fun h => hno (.inl h)
    have h2 : m % 16 = 0 := by
      by_cases h2 : m % 16 = 0
      · exact h2
      · exact absurd (.inr (.inl h2)) hno
    have h3 : insideB s.n at_ ((m / 16 : Nat) : Int) = true := by
      cases h3 : insideB s.n at_ ((m / 16 : Nat) : Int)
      · exact absurd (.inr (.inr h3)) hno
      · rfl
    have hof := insideB_of h3
    have hn1 := h.ok.n1
    exact write_yes B f s w h at_ A m c b hm hmc hr (m / 16) (by omega) (by omega) h3 (by omega)

def DoesPost (w : World) (B : Nat) (f : Fp) (r : St × List UInt8 × Int) (e : Ending) (w' : World) : Prop :=
  ∃ f', e = .returned (.tuple #[.string (str r.2.1), .int .i64 r.2.2]) ∧ Sto w' B f' r.1 ∧ Turned w w' f f'

set_option maxHeartbeats 4000000 in
theorem does_any (B : Nat) (f : Fp) (s : St) (o : Opn) (D : Option Addr) (q cb : Nat) (K : Option Addr) (p ck : Nat) (w : World) (h : Sto w B f s) (hsz : s.l.length + 4096 ≤ 5000000000000)
    (hq : o.b.length = q) (hqc : q ≤ cb) (hqm : q ≤ 9000000000000000000) (hrb : Away w D (bv o.b) (Foot f)) (hp : o.keep.length = p) (hpm : p ≤ 9000000000000000000) (hrk : Away w K (iv o.keep) (Foot f))
    (ho : o.n ≤ 9223372036854775807) (hat : -9223372036854775808 ≤ o.at_ ∧ o.at_ ≤ 9223372036854775807) :
    Calls Try.prog 15 #[.pointer (some ⟨f.g, 0, none⟩), .agg #[.int .i64 o.kind, .int .i64 o.at_, .int .i64 o.n, .slice D q cb, .slice K p ck]] w (DoesPost w B f (doO s o)) := by
  have hb0 : Below w.heap.size w (w.alloc (.cells #[.int .i64 o.kind, .int .i64 o.at_, .int .i64 o.n, .slice D q cb, .slice K p ck] 35)) := (Below.refl _ _).alloc (Nat.le_refl _) _
  have h1 := h.alloc (.cells #[.int .i64 o.kind, .int .i64 o.at_, .int .i64 o.n, .slice D q cb, .slice K p ck] 35)
  have hrb1 := hrb.below hb0
  have hrk1 := hrk.below hb0
  have hG := Blk.new w 35 #[.int .i64 o.kind, .int .i64 o.at_, .int .i64 o.n, .slice D q cb, .slice K p ck]
  obtain ⟨d0, d1, d2, d3, d4⟩ := hG.five
  have hdo : ∃ dd, dd = doO s o := ⟨_, rfl⟩
  obtain ⟨dd, hdd⟩ := hdo
  rw [← hdd]
  have HDD := Lib.hid hdd
  have HB0 := Lib.hid hb0
  have H1 := Lib.hid h1
  clear hdd hG
  by_cases hk0 : o.kind = 0
  · have he : doO s o = ((doW s o.at_ o.b).1, [], (doW s o.at_ o.b).2) := by unfold doO; rw [if_pos hk0]
    have HE := Lib.hid he
    have hcall := write_any B f s _ h1 o.at_ D q cb o.b hq hqc (by omega) hrb1 hsz
    have HC := Lib.hid hcall
    clear he hcall h h1 hrb hrk hrb1 hrk1 hq hp hb0
    go_enter Try.func15, Try.ntmps15
    rw [hk0] at HC H1 HB0
    go_wp2_with fail
    refine HC.out.mono ?_
    rintro e w2 ⟨f', rfl, hs2, ht2⟩
    go_wp2_with fail
    go_ret2
    rw [HDD.out, HE.out]
    exact ⟨f', rfl, hs2, ht2.after HB0.out⟩
  by_cases hk1 : o.kind = 1
  · have he : doO s o = (s, (rdS s o.at_ o.n).1, (rdS s o.at_ o.n).2) := by unfold doO; rw [if_neg hk0]; rw [if_pos hk1]
    have HE := Lib.hid he
    have hcall := read_any B f s _ h1 o.at_ o.n hat ho
    have HC := Lib.hid hcall
    clear he hcall h h1 hrb hrk hrb1 hrk1 hq hp hb0
    go_enter Try.func15, Try.ntmps15
    rw [hk1] at HC H1 HB0
    go_wp2_with fail
    obtain ⟨r1, hr1⟩ : ∃ r1, r1 = (rdS s o.at_ o.n).1 := ⟨_, rfl⟩
    obtain ⟨r2, hr2⟩ : ∃ r2, r2 = (rdS s o.at_ o.n).2 := ⟨_, rfl⟩
    rw [← hr1, ← hr2] at HC HE
    clear hr1 hr2
    refine HC.out.mono ?_
    rintro e w2 ⟨A2, m2, c2, rfl, hl2, hown2, hb2⟩
    have hcv := run_string (P := Try.prog) hl2 29 9 5 (c := c2) Try.underlying29 Try.underlying5 Try.underlying9 hown2.row
    clear hl2 hown2
    go_wp2_with fail
    go_ret2
    rw [HDD.out, HE.out]
    exact ⟨f, rfl, H1.out.below hb2, (Turned.refl _ _).below (below_all HB0.out hb2)⟩
  by_cases hk2 : o.kind = 2
  · have he : doO s o = (doF s, [], 0) := by unfold doO; rw [if_neg hk0]; rw [if_neg hk1]; rw [if_pos hk2]
    have HE := Lib.hid he
    have hcall := flush_any B f s _ h1
    have HC := Lib.hid hcall
    clear he hcall h h1 hrb hrk hrb1 hrk1 hq hp hb0
    go_enter Try.func15, Try.ntmps15
    rw [hk2] at HC H1 HB0
    go_wp2_with fail
    refine HC.out.mono ?_
    rintro e w2 ⟨f', rfl, hs2, ht2⟩
    go_wp2_with fail
    go_ret2
    rw [HDD.out, HE.out]
    exact ⟨f', rfl, hs2, ht2.after HB0.out⟩
  by_cases hk3 : o.kind = 3
  · have he : doO s o = (doC s o.keep, [], 0) := by unfold doO; rw [if_neg hk0]; rw [if_neg hk1]; rw [if_neg hk2]; rw [if_pos hk3]
    have HE := Lib.hid he
    have hcall := crash_any B f s _ h1 K p ck o.keep hp hrk1 (by omega)
    have HC := Lib.hid hcall
    clear he hcall h h1 hrb hrk hrb1 hrk1 hq hp hb0
    go_enter Try.func15, Try.ntmps15
    rw [hk3] at HC H1 HB0
    go_wp2_with fail
    refine HC.out.mono ?_
    rintro e w2 ⟨f', rfl, hs2, ht2⟩
    go_wp2_with fail
    go_ret2
    rw [HDD.out, HE.out]
    exact ⟨f', rfl, hs2, ht2.after HB0.out⟩
  by_cases hk4 : o.kind = 4
  · have he : doO s o = ((doZ s o.n).1, [], (doZ s o.n).2) := by unfold doO; rw [if_neg hk0]; rw [if_neg hk1]; rw [if_neg hk2]; rw [if_neg hk3]; rw [if_pos hk4]
    have HE := Lib.hid he
    have hcall := resize_any B f s _ h1 o.n
    have HC := Lib.hid hcall
    clear he hcall h h1 hrb hrk hrb1 hrk1 hq hp hb0
    go_enter Try.func15, Try.ntmps15
    rw [hk4] at HC H1 HB0
    go_wp2_with fail
    obtain ⟨z1, hz1⟩ : ∃ z1, z1 = (doZ s o.n).1 := ⟨_, rfl⟩
    obtain ⟨z2, hz2⟩ : ∃ z2, z2 = (doZ s o.n).2 := ⟨_, rfl⟩
    rw [← hz1, ← hz2] at HC HE
    clear hz1 hz2
    refine HC.out.mono ?_
    rintro e w2 ⟨f', rfl, hs2, ht2⟩
    go_wp2_with fail
    go_ret2
    rw [HDD.out, HE.out]
    exact ⟨f', rfl, hs2, ht2.after HB0.out⟩
  by_cases hk5 : o.kind = 5
  · have he : doO s o = (doR s o.n, [], 0) := by unfold doO; rw [if_neg hk0]; rw [if_neg hk1]; rw [if_neg hk2]; rw [if_neg hk3]; rw [if_neg hk4]; rw [if_pos hk5]
    have HE := Lib.hid he
    have hcall := room_any B f s _ h1 o.n
    have HC := Lib.hid hcall
    clear he hcall h h1 hrb hrk hrb1 hrk1 hq hp hb0
    go_enter Try.func15, Try.ntmps15
    rw [hk5] at HC H1 HB0
    go_wp2_with fail
    refine HC.out.mono ?_
    rintro e w2 ⟨rfl, hs2, ht2⟩
    go_wp2_with fail
    go_ret2
    rw [HDD.out, HE.out]
    exact ⟨f, rfl, hs2, ht2.after HB0.out⟩
  have he : doO s o = (s, [], 0) := by unfold doO; rw [if_neg hk0, if_neg hk1, if_neg hk2, if_neg hk3, if_neg hk4, if_neg hk5]
  have HE := Lib.hid he
  clear he h h1 hrb hrk hrb1 hrk1 hq hp hb0
  go_enter Try.func15, Try.ntmps15
  go_wp2_with fail
  go_ret2
  rw [HDD.out, HE.out]
  exact ⟨f, rfl, H1.out, (Turned.refl _ _).below HB0.out⟩
end Go.Proofs.Ytgblekjkphnjfaa
