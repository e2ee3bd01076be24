/- octets.Reader: NewReader, take, Num, Text, Skip, Left, Err, End. Conditions: the reader's block is known; a length that is taken is no negative one unless it is said to be amiss. -/
import Derived.Test.YtbljacafmkdlmaaMgA
import Derived.Test.YtbljacafmkdlmaaBlk
import Derived.Test.YtbljacafmkdlmaaSeq
import Derived.Laws.BitsLemmas
namespace Go.Proofs.Ytbljacafmkdlmaa
open Go.RowKit

/-- The slice's block is another one than g, unless nothing is in it. -/
def Apt (A : Option Addr) (g : Nat) (l : List UInt8) : Prop := l = [] ∨ ∀ a, A = some a → a.block ≠ g
theorem Row.away {w w' : World} {A : Option Addr} {g : Nat} {l : List UInt8} (h : Row w A (bv l)) (ha : Apt A g l) (hb : Only w w' (· = g)) : Row w' A (bv l) := by
  rcases ha with rfl | ha
  · exact .inl rfl
  · exact h.only hb ha
theorem Apt.take {A : Option Addr} {g : Nat} {l : List UInt8} (h : Apt A g l) (n : Nat) : Apt A g (l.take n) := by
  rcases h with rfl | h
  · exact .inl (by simp)
  · exact .inr h
theorem Apt.drop {A : Option Addr} {g : Nat} {l : List UInt8} (h : Apt A g l) (n : Nat) : Apt A g (l.drop n) := by
  rcases h with rfl | h
  · exact .inl (by simp)
  · exact .inr h
theorem Apt.map {A : Option Addr} {g : Nat} {l : List UInt8} (h : Apt A g l) (n : Nat) : Apt (A.map (·.add n)) g l := by
  rcases h with rfl | h
  · exact .inl rfl
  · refine .inr fun a ha => ?_
    cases A with
    | none => cases ha
    | some b =>
      have e : a = b.add n := by simpa using ha.symm
      rw [e]
      have e2 : (b.add n).block = b.block := by unfold Addr.add; split <;> rfl
      rw [e2]
      exact h b rfl
theorem Apt.of_lt {w : World} {A : Option Addr} {l : List UInt8} (h : Row w A (bv l)) : Apt A w.heap.size l := by
  by_cases hl : l = []
  · exact .inl hl
  · obtain ⟨g, o, rfl, hg, _⟩ := h.at_ (by rw [bv_length]; exact List.length_pos_iff.2 hl)
    refine .inr fun a ha => ?_
    injection ha with ha
    subst ha
    show g ≠ _
    omega

/-- The slice's block is one of bytes, unless nothing is in it. -/
def Byt (w : World) (A : Option Addr) (l : List UInt8) : Prop := l = [] ∨ ∀ a, A = some a → ∃ cur lh, w.heap[a.block]? = some (.cells cur 5 lh)
section
variable {w w' : World} {A : Option Addr} {g : Nat} {l : List UInt8}
theorem Byt.away {F : Nat → Prop} (h : Byt w A l) (ha : l = [] ∨ ∀ a, A = some a → ¬ F a.block) (hb : Only w w' F) : Byt w' A l := by
  rcases h with h | h
  · exact .inl h
  rcases ha with ha | ha
  · exact .inl ha
  · refine .inr fun a e => ?_
    obtain ⟨cur, lh, hh⟩ := h a e
    exact ⟨cur, lh, (hb.block a.block (Array.getElem?_eq_some_iff.1 hh).1 (ha a e)).trans hh⟩
theorem Byt.below (h : Byt w A l) (hb : Below w.heap.size w w') : Byt w' A l := h.away (F := fun _ => False) (.inr fun _ _ h => h) (Only.of_below hb _)
theorem Byt.take (h : Byt w A l) (n : Nat) : Byt w A (l.take n) := by
  rcases h with rfl | h
  · exact .inl (by simp)
  · exact .inr h
theorem Byt.drop (h : Byt w A l) (n : Nat) : Byt w A (l.drop n) := by
  rcases h with rfl | h
  · exact .inl (by simp)
  · exact .inr h
theorem Byt.map (h : Byt w A l) (n : Nat) : Byt w (A.map (·.add n)) l := by
  rcases h with rfl | h
  · exact .inl rfl
  · refine .inr fun a ha => ?_
    cases A with
    | none => cases ha
    | some b =>
      have e : a = b.add n := by simpa using ha.symm
      rw [e]
      have e2 : (b.add n).block = b.block := by unfold Addr.add; split <;> rfl
      rw [e2]
      exact h b rfl
theorem Byt.own {B n c : Nat} (h : Own w B 5 1 A n c (bv l)) : Byt w A l := by
  obtain ⟨hl, hn, _, h | ⟨g, cur, lo, hi, rfl, _, hh, _⟩⟩ := h
  · exact .inl (List.eq_nil_of_length_eq_zero (by rw [bv_length] at hl; omega))
  · refine .inr fun a ha => ?_
    injection ha with ha
    subst ha
    exact ⟨cur, (lo, hi), hh⟩
end

/-- A reader: what is left, and its error. -/
def Rd (w : World) (g : Nat) (l : List UInt8) (e : Int) : Prop :=
  ∃ A n c, Blk w g 146 #[.slice A n c, .int .i64 e] ∧ l.length = n ∧ n ≤ c ∧ Row w A (bv l) ∧ Apt A g l ∧ Byt w A l

theorem Rd.only {w w' : World} {g : Nat} {l : List UInt8} {e : Int} (h : Rd w g l e) (hb : Below w.heap.size w w') : Rd w' g l e := by
  obtain ⟨A, n, c, h1, h2, h3, h4, h5⟩ := h
  exact ⟨A, n, c, h1.belowAll hb, h2, h3, h4.below hb, h5.1, h5.2.below hb⟩
theorem Own.ty {w : World} {B : Nat} {e : TypeId} {size : Nat} {A : Option Addr} {n c : Nat} {xs : List Value} (h : Own w B e size A n c xs) : ∀ k, ownB A c = some k → ∃ cur lh, w.heap[k]? = some (.cells cur e lh) := by
  intro k hk
  obtain ⟨_, _, _, h | ⟨g, cur, lo, hi, rfl, _, hh, _⟩⟩ := h
  · subst h
    simp [ownB] at hk
  · unfold ownB at hk
    split at hk
    · cases hk
    · injection hk with hk
      subst hk
      exact ⟨cur, (lo, hi), hh⟩
/-- A change of a block of other things than bytes, not the reader's. -/
theorem Rd.away {w w' : World} {g : Nat} {l : List UInt8} {e : Int} {F : Nat → Prop} (h : Rd w g l e) (hb : Only w w' F) (hg : ¬ F g) (hF : ∀ k, F k → ∃ cur e' lh, w.heap[k]? = some (.cells cur e' lh) ∧ e' ≠ 5) : Rd w' g l e := by
  obtain ⟨A, n, c, h1, h2, h3, h4, h5, h6⟩ := h
  have hA : l = [] ∨ ∀ a, A = some a → ¬ F a.block := h6.imp id fun h a ha hf => by
    obtain ⟨cur, lh, hh⟩ := h a ha
    obtain ⟨cur', e', lh', hh', hne⟩ := hF _ hf
    rw [hh] at hh'
    injection hh' with hh'
    injection hh' with _ ht
    exact hne ht.symm
  refine ⟨A, n, c, h1.only hb hg, h2, h3, ?_, h5, h6.away hA hb⟩
  rcases hA with rfl | hA
  · exact .inl rfl
  · exact h4.only hb hA
theorem Rd.grown {w w' : World} {g : Nat} {l : List UInt8} {e : Int} {row : Option Nat} (h : Rd w g l e) (hb : w.grownBy w' row) (hg : row ≠ some g) (hF : ∀ k, row = some k → ∃ cur e' lh, w.heap[k]? = some (.cells cur e' lh) ∧ e' ≠ 5) : Rd w' g l e :=
  h.away (F := fun k => row = some k) ((Only.refl w _).grown hb (fun _ hk => .inl hk)) hg hF
theorem Rd.drew {w : World} {g : Nat} {l : List UInt8} {e : Int} (h : Rd w g l e) : Rd w.drew g l e := h
theorem Rd.alloc {w : World} {g : Nat} {l : List UInt8} {e : Int} (h : Rd w g l e) (o : Obj) : Rd (w.alloc o) g l e := h.only ((Below.refl _ _).alloc (Nat.le_refl _) o)

set_option maxHeartbeats 400000 in
theorem keep_any (h g : Nat) (A : Option Addr) (n c : Nat) (e2 : Int) (w : World) (hh : w.cell? ⟨h, 0, none⟩ = some (.pointer (some ⟨g, 0, none⟩))) (hb : Blk w g 146 #[.slice A n c, .int .i64 0]) :
    Calls Try.prog 100 #[.int .i64 e2, .pointer (some ⟨h, 0, none⟩)] w fun e w' => e = .returned (.slice none 0 0) ∧ w' = w.setCell ⟨g, 1, none⟩ (.int .i64 e2) := by
  have h1 := hb.cell 1
  have h2 := hb.frozen 1
  simp only [List.getElem?_toArray, List.getElem?_cons_zero, List.getElem?_cons_succ] at h1
  go_enter Try.func100, Try.ntmps100
  go_wp2_with fail
  go_ret
  exact ⟨rfl, rfl⟩

/-- take: what is left, the error, what is got. -/
def tk (l : List UInt8) (e : Int) (n : Int) (amiss : Bool) : List UInt8 × Int × List UInt8 :=
  if e ≠ 0 then (l, e, []) else if amiss = true then (l, 1, []) else if (l.length : Int) < n then (l, 10, []) else (l.drop n.toNat, 0, l.take n.toNat)

/-- What a call of a reader leaves behind: its slice, the reader, all else as it was. -/
def Took (w w' : World) (g : Nat) (t : List UInt8 × Int × List UInt8) (A : Option Addr) (m c : Nat) : Prop :=
  t.2.2.length = m ∧ m ≤ c ∧ Row w' A (bv t.2.2) ∧ Apt A g t.2.2 ∧ Rd w' g t.1 t.2.1 ∧ Only w w' (· = g)

set_option maxHeartbeats 1000000 in
theorem take_err (g : Nat) (l : List UInt8) (e0 : Int) (n : Int) (amiss : Bool) (w : World) (h : Rd w g l e0) (he : e0 ≠ 0) :
    Calls Try.prog 84 #[.pointer (some ⟨g, 0, none⟩), .int .i64 n, .bool amiss] w fun e w' => ∃ A m c, e = .returned (.slice A m c) ∧ Took w w' g (tk l e0 n amiss) A m c := by
  have ht : tk l e0 n amiss = (l, e0, []) := by unfold tk; rw [if_pos he]
  rw [ht]
  have h' := h
  obtain ⟨A, n0, c, hb, hn, hnc, hr, hA⟩ := h'
  have hb1 := hb.alloc (.cells #[.pointer (some ⟨g, 0, none⟩)] 115)
  have h1 := hb1.cell 1
  simp only [List.getElem?_toArray, List.getElem?_cons_zero, List.getElem?_cons_succ] at h1
  have he1 : (e0 != 0) = true := by simpa using he
  go_enter Try.func84, Try.ntmps84
  go_wp2_with fail
  go_ret
  exact ⟨none, 0, 0, rfl, rfl, Nat.le_refl _, .inl rfl, .inl rfl, h.alloc _, (Only.refl _ _).alloc _⟩

theorem Rd.setErr {w : World} {g : Nat} {l : List UInt8} {e : Int} (h : Rd w g l e) (e2 : Int) : Rd (w.setCell ⟨g, 1, none⟩ (.int .i64 e2)) g l e2 := by
  obtain ⟨A, n, c, hb, hn, hnc, hr, hA⟩ := h
  refine ⟨A, n, c, ?_, hn, hnc, hr.away hA.1 (Only.setCell (F := (· = g)) (Only.refl _ _) (p := ⟨g, 1, none⟩) (.inl rfl) _), hA.1, hA.2.away (F := (· = g)) hA.1 (Only.setCell (F := (· = g)) (Only.refl _ _) (p := ⟨g, 1, none⟩) (.inl rfl) _)⟩
  exact hb.set_ 1 (.int .i64 e2)

set_option maxHeartbeats 1000000 in
theorem take_no (g : Nat) (l : List UInt8) (n : Int) (amiss : Bool) (w : World) (h : Rd w g l 0) (he : amiss = true ∨ (l.length : Int) < n) :
    Calls Try.prog 84 #[.pointer (some ⟨g, 0, none⟩), .int .i64 n, .bool amiss] w fun e w' => ∃ A m c, e = .returned (.slice A m c) ∧ Took w w' g (tk l 0 n amiss) A m c := by
  have h' := h
  obtain ⟨A, n0, c, hb, hn, hnc, hr, hA⟩ := h'
  have hb1 := hb.alloc (.cells #[.pointer (some ⟨g, 0, none⟩)] 115)
  have h1 := hb1.cell 1
  have h0 := hb1.cell 0
  simp only [List.getElem?_toArray, List.getElem?_cons_zero, List.getElem?_cons_succ] at h0 h1
  cases amiss with
  | true =>
    have ht : tk l 0 n true = (l, 1, []) := by simp [tk]
    rw [ht]
    go_enter Try.func84, Try.ntmps84
    go_wp2_with fail
    refine (keep_any _ g A n0 c _ _ (by rw [World.cell?_alloc_new]; rfl) hb1).mono ?_
    rintro e w2 ⟨rfl, rfl⟩
    go_wp2_with fail
    go_ret
    exact ⟨none, 0, 0, rfl, rfl, Nat.le_refl _, .inl rfl, .inl rfl, (h.alloc _).setErr _, Only.setCell (F := (· = g)) ((Only.refl _ _).alloc _) (p := ⟨g, 1, none⟩) (.inl rfl) _⟩
  | false =>
    have hlt : (l.length : Int) < n := by rcases he with h | h; cases h; exact h
    have ht : tk l 0 n false = (l, 10, []) := by simp [tk, hlt]
    rw [ht]
    rw [hn] at hlt
    go_enter Try.func84, Try.ntmps84
    go_wp2_with fail
    refine (keep_any _ g A n0 c _ _ (by rw [World.cell?_alloc_new]; rfl) hb1).mono ?_
    rintro e w2 ⟨rfl, rfl⟩
    go_wp2_with fail
    go_ret
    exact ⟨none, 0, 0, rfl, rfl, Nat.le_refl _, .inl rfl, .inl rfl, (h.alloc _).setErr _, Only.setCell (F := (· = g)) ((Only.refl _ _).alloc _) (p := ⟨g, 1, none⟩) (.inl rfl) _⟩

theorem Rd.setB {w : World} {g : Nat} {l : List UInt8} {e : Int} (h : Rd w g l e) {A : Option Addr} {n c : Nat} {l2 : List UInt8} (hn : l2.length = n) (hc : n ≤ c) (hr : Row w A (bv l2)) (hA : Apt A g l2) (hB : Byt w A l2) :
    Rd (w.setCell ⟨g, 0, none⟩ (.slice A n c)) g l2 e := by
  obtain ⟨A0, n0, c0, hb, _⟩ := h
  refine ⟨A, n, c, ?_, hn, hc, hr.away hA (Only.setCell (F := (· = g)) (Only.refl _ _) (p := ⟨g, 0, none⟩) (.inl rfl) _), hA, hB.away (F := (· = g)) hA (Only.setCell (F := (· = g)) (Only.refl _ _) (p := ⟨g, 0, none⟩) (.inl rfl) _)⟩
  exact hb.set_ 0 (.slice A n c)

set_option maxHeartbeats 1000000 in
theorem take_yes (g : Nat) (l : List UInt8) (n : Nat) (w : World) (h : Rd w g l 0) (hle : n ≤ l.length) :
    Calls Try.prog 84 #[.pointer (some ⟨g, 0, none⟩), .int .i64 (n : Int), .bool false] w fun e w' => ∃ A m c, e = .returned (.slice A m c) ∧ Took w w' g (tk l 0 n false) A m c := by
  have ht : tk l 0 n false = (l.drop n, 0, l.take n) := by simp [tk]; omega
  rw [ht]
  have h' := h
  obtain ⟨A, n0, c, hb, hn, hnc, hr, hA⟩ := h'
  have hb1 := hb.alloc (.cells #[.pointer (some ⟨g, 0, none⟩)] 115)
  have h1 := hb1.cell 1
  have h0 := hb1.cell 0
  simp only [List.getElem?_toArray, List.getElem?_cons_zero, List.getElem?_cons_succ] at h0 h1
  rw [hn] at hle
  have hle' : (n : Int) ≤ (n0 : Int) := by omega
  have hnp : (0 : Int) ≤ (n : Int) := by omega
  have hlc : (n : Int) ≤ (c : Int) := by omega
  go_enter Try.func84, Try.ntmps84
  go_wp2_with fail
  have hrn := hr.drop n c (by rw [bv_length]; omega)
  rw [bv_drop] at hrn
  have hf0 := hb1.frozen 0
  have hrt := hr.take n
  rw [bv_take] at hrt
  have hlt : (l.take n).length = n := by rw [List.length_take]; omega
  have hld : (l.drop n).length = n0 - n := by rw [List.length_drop]; omega
  have hwr : ∀ u, Only w ((w.alloc (.cells #[.pointer (some ⟨g, 0, none⟩)] 115)).setCell ⟨g, 0, none⟩ u) (· = g) := fun u => Only.setCell (F := (· = g)) ((Only.refl _ _).alloc _) (p := ⟨g, 0, none⟩) (.inl rfl) _
  by_cases hcn : c = n
  · rw [if_pos hcn] at hrn
    go_region
    go_wp2_with fail
    go_ret
    exact ⟨A, n, c, rfl, hlt, by omega, (hrt.away (hA.1.take n) (hwr _)).drew, hA.1.take n, ((h.alloc _).setB hld (by omega) (hrn.alloc _) (hA.1.drop n) ((hA.2.below ((Below.refl _ _).alloc (Nat.le_refl _) _)).drop n)).drew, (hwr _).drew⟩
  · rw [if_neg hcn] at hrn
    go_region
    go_wp2_with fail
    go_ret
    exact ⟨A, n, c, rfl, hlt, by omega, (hrt.away (hA.1.take n) (hwr _)).drew, hA.1.take n, ((h.alloc _).setB hld (by omega) (hrn.alloc _) ((hA.1.drop n).map n) (((hA.2.below ((Below.refl _ _).alloc (Nat.le_refl _) _)).drop n).map n)).drew, (hwr _).drew⟩

theorem rtake_any (g : Nat) (l : List UInt8) (e0 n : Int) (amiss : Bool) (w : World) (h : Rd w g l e0) (hn : amiss = false → 0 ≤ n) :
    Calls Try.prog 84 #[.pointer (some ⟨g, 0, none⟩), .int .i64 n, .bool amiss] w fun e w' => ∃ A m c, e = .returned (.slice A m c) ∧ Took w w' g (tk l e0 n amiss) A m c := by
  by_cases he : e0 = 0
  · subst he
    by_cases hb : amiss = true ∨ (l.length : Int) < n
    · exact take_no g l n amiss w h hb
    · have ha : amiss = false := by
        cases amiss
        · rfl
        · exact absurd (.inl rfl) hb
      subst ha
      have h0 := hn rfl
      have h1 : ¬ (l.length : Int) < n := fun h => hb (.inr h)
      obtain ⟨k, rfl⟩ := Int.eq_ofNat_of_zero_le h0
      exact take_yes g l k w h (by omega)
  · exact take_err g l e0 n amiss w h he

set_option maxHeartbeats 400000 in
theorem err_any (g : Nat) (l : List UInt8) (e0 : Int) (w : World) (h : Rd w g l e0) :
    Calls Try.prog 61 #[.pointer (some ⟨g, 0, none⟩)] w fun e w' => e = .returned (.int .i64 e0) ∧ w = w' := by
  obtain ⟨A, n, c, hb, hn, hnc, hr, hA⟩ := h
  have h1 := hb.cell 1
  simp only [List.getElem?_toArray, List.getElem?_cons_zero, List.getElem?_cons_succ] at h1
  go_enter Try.func61, Try.ntmps61
  go_wp2_with fail
  go_ret
  exact ⟨rfl, rfl⟩

set_option maxHeartbeats 400000 in
theorem left_any (g : Nat) (l : List UInt8) (e0 : Int) (w : World) (h : Rd w g l e0) :
    Calls Try.prog 63 #[.pointer (some ⟨g, 0, none⟩)] w fun e w' => e = .returned (.int .i64 (l.length : Int)) ∧ w = w' := by
  obtain ⟨A, n, c, hb, hn, hnc, hr, hA⟩ := h
  have h0 := hb.cell 0
  simp only [List.getElem?_toArray, List.getElem?_cons_zero] at h0
  rw [hn]
  go_enter Try.func63, Try.ntmps63
  go_wp2_with fail
  go_ret
  exact ⟨rfl, rfl⟩

def endOf (l : List UInt8) (e : Int) : Int := if e = 0 ∧ 0 < l.length then 11 else e

set_option maxHeartbeats 400000 in
theorem end_any (g : Nat) (l : List UInt8) (e0 : Int) (w : World) (h : Rd w g l e0) :
    Calls Try.prog 88 #[.pointer (some ⟨g, 0, none⟩)] w fun e w' => e = .returned (.int .i64 (endOf l e0)) ∧ w = w' := by
  obtain ⟨A, n, c, hb, hn, hnc, hr, hA⟩ := h
  have h0 := hb.cell 0
  have h1 := hb.cell 1
  simp only [List.getElem?_toArray, List.getElem?_cons_zero, List.getElem?_cons_succ] at h0 h1
  unfold endOf
  rw [hn]
  by_cases he : e0 = 0
  · subst he
    by_cases hp : 0 < n
    · have hp' : (0 : Int) < (n : Int) := by omega
      rw [if_pos ⟨rfl, hp⟩]
      go_enter Try.func88, Try.ntmps88
      go_wp2_with fail
      go_ret
      exact ⟨rfl, rfl⟩
    · rw [if_neg (fun h => hp h.2)]
      obtain rfl : n = 0 := by omega
      go_enter Try.func88, Try.ntmps88
      go_wp2_with fail
      go_ret
      exact ⟨rfl, rfl⟩
  · rw [if_neg (fun h => he h.1)]
    have he1 : (e0 == 0) = false := by simpa using he
    go_enter Try.func88, Try.ntmps88
    go_wp2_with fail
    go_ret
    exact ⟨rfl, rfl⟩

theorem Took.rd {w w' : World} {g : Nat} {t : List UInt8 × Int × List UInt8} {A : Option Addr} {m c : Nat} (h : Took w w' g t A m c) : Rd w' g t.1 t.2.1 := h.2.2.2.2.1

theorem un_append (a b : List UInt8) : un (a ++ b) = un a * 256 ^ b.length + un b := by
  refine snoc_ind (p := fun b => un (a ++ b) = un a * 256 ^ b.length + un b) (by simp [un_nil]) (fun b x ih => ?_) b
  rw [← List.append_assoc, un_snoc, ih, un_snoc, List.length_append, List.length_singleton, Nat.pow_succ]
  have : un a * (256 ^ b.length * 256) = (un a * 256 ^ b.length) * 256 := by rw [Nat.mul_assoc]
  omega
theorem un_take_le (l : List UInt8) (k : Nat) : un (l.take k) ≤ un l := by
  have h := un_append (l.take k) (l.drop k)
  rw [List.take_append_drop] at h
  rw [h]
  have : 0 < 256 ^ (l.drop k).length := Nat.pow_pos (by omega)
  have := Nat.le_mul_of_pos_right (un (l.take k)) this
  omega
theorem un_small (l : List UInt8) (h : l.length ≤ 8) (h8 : ∀ (hl : l.length = 8), l[0].toNat < 64) : un l < 4611686018427387904 := by
  by_cases hl : l.length = 8
  · have h0 := h8 hl
    have e : l = l.take 1 ++ l.drop 1 := (List.take_append_drop 1 l).symm
    have e1 : l.take 1 = [l[0]] := by rw [List.take_succ_eq_append_getElem (by omega)]; simp
    have h2 := un_append (l.take 1) (l.drop 1)
    have h3 := un_lt (l.drop 1)
    have hl7 : (l.drop 1).length = 7 := by rw [List.length_drop, hl]
    rw [hl7] at h2 h3
    rw [← e, e1] at h2
    have h4 : un [l[0]] = l[0].toNat := by simp [un]
    rw [h4] at h2
    have : (256 : Nat) ^ 7 = 72057594037927936 := by decide
    omega
  · have h3 := un_lt l
    have h4 : (256 : Nat) ^ l.length ≤ 256 ^ 7 := Nat.pow_le_pow_right (by omega) (by omega)
    have : (256 : Nat) ^ 7 = 72057594037927936 := by decide
    omega

/-- Num: what is left, the error, the number. -/
def nm (l : List UInt8) (e : Int) (width : Int) : List UInt8 × Int × Nat :=
  let t := tk l e width (!rt width)
  if t.2.2.length = 8 ∧ 64 ≤ un (t.2.2.take 1) then (t.1, 1, 0) else (t.1, t.2.1, un t.2.2)

theorem tk_len (l : List UInt8) (e n : Int) (b : Bool) : (tk l e n b).2.2.length ≤ n.toNat := by
  unfold tk
  split
  · exact Nat.zero_le _
  split
  · exact Nat.zero_le _
  split
  · exact Nat.zero_le _
  · rw [List.length_take]; omega
theorem tk_amiss (l : List UInt8) (e n : Int) : (tk l e n true).2.2 = [] := by
  unfold tk
  split
  · rfl
  · rfl

theorem un_one (l : List UInt8) (h : 0 < l.length) : un (l.take 1) = l[0].toNat := by
  rw [List.take_succ_eq_append_getElem h]
  simp [un]

/-- The loop of Num, in Nat. -/
theorem shl_or (a c : Nat) (hc : c < 256) : (a * 256) ||| c = a * 256 + c := by
  have := Nat.two_pow_add_eq_or_of_lt (i := 8) (b := c) hc a
  rw [Nat.mul_comm a 256]
  exact this.symm

theorem or_i64 (a y : Nat) (hy : y < 256) (h : a * 256 + y < 4611686018427387904) : bits .or .i64 ((a : Int) * 256) (y : Int) = ((a * 256 + y : Nat) : Int) := by
  rw [bits_join .i64 62 (by decide) (fun n h0 h1 => by
    have h2 : n < 4611686018427387904 := h1
    rw [IntKind.wrap_i64]; omega) 8 _ _ (by omega) (by omega) (by show _ < (4611686018427387904 : Int); omega) (by omega) (by show _ < (256 : Int); omega) (by show _ < (4611686018427387904 : Int); omega)]
  omega

set_option maxHeartbeats 1000000 in
theorem rnum_any (g : Nat) (l : List UInt8) (e0 width : Int) (w : World) (h : Rd w g l e0) :
    Calls Try.prog 85 #[.pointer (some ⟨g, 0, none⟩), .int .i64 width] w fun e w' => e = .returned (.int .i64 ((nm l e0 width).2.2 : Int)) ∧ Rd w' g (nm l e0 width).1 (nm l e0 width).2.1 ∧ Only w w' (· = g) := by
  have hT := rtake_any g l e0 width (!rt width) w h (by
    intro hr
    have hr2 : rt width = true := by simpa using hr
    rcases rt_cases hr2 with rfl | rfl | rfl | rfl <;> decide)
  have hx8 : (tk l e0 width (!rt width)).2.2.length ≤ 8 := by
    cases hr : rt width with
    | false => show (tk l e0 width true).2.2.length ≤ 8; rw [tk_amiss]; decide
    | true =>
      rcases rt_cases hr with rfl | rfl | rfl | rfl
      all_goals exact Nat.le_trans (tk_len _ _ _ _) (by decide)
  obtain ⟨t, htt⟩ : ∃ t, t = tk l e0 width (!rt width) := ⟨_, rfl⟩
  have hnm : nm l e0 width = if t.2.2.length = 8 ∧ 64 ≤ un (t.2.2.take 1) then (t.1, 1, 0) else (t.1, t.2.1, un t.2.2) := by rw [htt]; rfl
  rw [hnm]
  rw [← htt] at hT hx8
  have HT := Lib.hid hT
  clear hnm htt hT
  by_cases hbad : t.2.2.length = 8 ∧ 64 ≤ un (t.2.2.take 1)
  · rw [if_pos hbad]
    obtain ⟨h8, h64⟩ := hbad
    rw [un_one _ (by omega)] at h64
    have h64' : (64 : Int) ≤ ((t.2.2[0]'(by omega)).toNat : Int) := by omega
    clear h64
    go_enter Try.func85, Try.ntmps85
    go_wp2_with fail
    refine (right_any width w).mono ?_
    rintro e w1 ⟨rfl, rfl⟩
    go_wp2_with fail
    refine HT.out.mono ?_
    rintro e w1 ⟨A, m, c, rfl, hm, hmc, hr, hA, hrd, hon⟩
    obtain rfl : m = 8 := by omega
    obtain ⟨g2, o2, rfl, hg2, hc2⟩ := hr.bcell (k := 0) (by omega)
    rw [Nat.add_zero] at hc2
    have hrd' := hrd
    obtain ⟨A3, n3, c3, hb3, _⟩ := hrd
    have hf3 := hb3.frozen 1
    have h3 := hb3.cell 1
    simp only [List.getElem?_toArray, List.getElem?_cons_zero, List.getElem?_cons_succ] at h3
    go_wp2_with fail
    go_ret
    have hh : Rd w1 g t.1 t.2.1 := hrd'
    exact ⟨rfl, hh.setErr _, hon.setCell (p := ⟨g, 1, none⟩) (.inl rfl) _⟩
  · rw [if_neg hbad]
    have hsm : un t.2.2 < 4611686018427387904 := un_small _ hx8 (fun h8 => by
      rw [← un_one _ (by omega)]
      have : ¬ 64 ≤ un (t.2.2.take 1) := fun h => hbad ⟨h8, h⟩
      omega)
    go_enter Try.func85, Try.ntmps85
    go_wp2_with fail
    refine (right_any width w).mono ?_
    rintro e w1 ⟨rfl, rfl⟩
    go_wp2_with fail
    refine HT.out.mono ?_
    rintro e w1 ⟨A, m, c, rfl, hm, hmc, hr, hA, hrd, hon⟩
    have hm8 : m ≤ 8 := by omega
    by_cases hm0 : m = 0
    · have h8 : ((m : Int) == 8) = false := by simp; omega
      subst hm0
      have he : t.2.2 = [] := List.eq_nil_of_length_eq_zero hm
      go_wp2_with fail
      go_loopw [5, 29] (fun v i wr => v = .int .i64 0 ∧ i = .int .i64 0 ∧ wr = w1) (fun _ _ _ => 0)
      case atStart => exact ⟨rfl, rfl, rfl⟩
      case round =>
        obtain ⟨rfl, rfl, rfl⟩ := hrel
        go_wp2_with fail
        go_ret
        exact ⟨by rw [he]; rfl, hrd, hon⟩
    obtain ⟨g2, o2, rfl, hg2, hcs⟩ := hr.at_ (by rw [bv_length]; omega)
    have hx0 : ∃ x0 : Nat, w1.cell? ⟨g2, o2, none⟩ = some (.int .u8 (x0 : Int)) ∧ (m = 8 → ¬ (64 : Int) ≤ (x0 : Int)) := by
      refine ⟨_, hcs 0 _ (bv_at (by omega)), fun hm2 => ?_⟩
      have := un_one t.2.2 (by omega)
      have h2 : ¬ 64 ≤ un (t.2.2.take 1) := fun h => hbad ⟨by omega, h⟩
      omega
    obtain ⟨x0, hc0, h64⟩ := hx0
    have HSM := Lib.hid hsm
    have HM := Lib.hid hm
    clear hbad hsm hm HT hr
    by_cases h8 : m = 8
    · have h64' := h64 h8
      subst h8
      go_wp2_with fail
      go_loopw [5, 29] (fun v i wr => ∃ j : Nat, j ≤ 8 ∧ v = .int .i64 (un (t.2.2.take j) : Nat) ∧ i = .int .i64 j ∧ wr = w1) (fun _ i _ => 8 - (intOf i).toNat)
      case atStart => exact ⟨0, by omega, rfl, rfl, rfl⟩
      case round =>
        obtain ⟨j, hj, rfl, rfl, rfl⟩ := hrel
        by_cases hjl : j < 8
        · have hjl2 : j < t.2.2.length := by rw [HM.out]; exact hjl
          have hcj := hcs j _ (bv_at hjl2)
          have hun : un (t.2.2.take (j + 1)) = un (t.2.2.take j) * 256 + t.2.2[j].toNat := by rw [List.take_succ_eq_append_getElem hjl2, un_snoc]
          have hle := un_take_le t.2.2 (j + 1)
          have hx := t.2.2[j].toNat_lt
          have hlim := HSM.out
          obtain ⟨y, hy⟩ : ∃ y, y = t.2.2[j].toNat := ⟨_, rfl⟩
          obtain ⟨a, ha⟩ : ∃ a, a = un (t.2.2.take j) := ⟨_, rfl⟩
          rw [← hy] at hcj hun hx
          rw [← ha] at hun ⊢
          have HUN := Lib.hid hun
          have hb1 : a * 256 + y < 4611686018427387904 := by omega
          clear hle hlim hun hy ha
          go_wp2_with fail
          go_roundw
          case rel => exact ⟨j + 1, by omega, by rw [HUN.out, or_i64 a y hx hb1], by go_num, trivial⟩
          case measure => simp [intOf]; omega
        · obtain rfl : j = 8 := by omega
          have hf : t.2.2.take 8 = t.2.2 := List.take_of_length_le (by rw [HM.out]; omega)
          rw [hf]
          go_wp2_with fail
          go_ret
          exact ⟨rfl, hrd, hon⟩
    · have hm8' : ((m : Int) == 8) = false := by simp; omega
      go_wp2_with fail
      go_loopw [5, 29] (fun v i wr => ∃ j : Nat, j ≤ m ∧ v = .int .i64 (un (t.2.2.take j) : Nat) ∧ i = .int .i64 j ∧ wr = w1) (fun _ i _ => m - (intOf i).toNat)
      case atStart => exact ⟨0, by omega, rfl, rfl, rfl⟩
      case round =>
        obtain ⟨j, hj, rfl, rfl, rfl⟩ := hrel
        by_cases hjl : j < m
        · have hjl2 : j < t.2.2.length := by rw [HM.out]; exact hjl
          have hcj := hcs j _ (bv_at hjl2)
          have hun : un (t.2.2.take (j + 1)) = un (t.2.2.take j) * 256 + t.2.2[j].toNat := by rw [List.take_succ_eq_append_getElem hjl2, un_snoc]
          have hle := un_take_le t.2.2 (j + 1)
          have hx := t.2.2[j].toNat_lt
          have hlim := HSM.out
          obtain ⟨y, hy⟩ : ∃ y, y = t.2.2[j].toNat := ⟨_, rfl⟩
          obtain ⟨a, ha⟩ : ∃ a, a = un (t.2.2.take j) := ⟨_, rfl⟩
          rw [← hy] at hcj hun hx
          rw [← ha] at hun ⊢
          have HUN := Lib.hid hun
          have hb1 : a * 256 + y < 4611686018427387904 := by omega
          clear hle hlim hun hy ha
          go_wp2_with fail
          go_roundw
          case rel => exact ⟨j + 1, by omega, by rw [HUN.out, or_i64 a y hx hb1], by go_num, trivial⟩
          case measure => simp [intOf]; omega
        · obtain rfl : j = m := by omega
          have hf : t.2.2.take j = t.2.2 := List.take_of_length_le (by rw [HM.out]; exact Nat.le_refl _)
          rw [hf]
          go_wp2_with fail
          go_ret
          exact ⟨rfl, hrd, hon⟩

/-- Text: what is left, the error, the text. -/
def tx (l : List UInt8) (e : Int) (width : Int) : List UInt8 × Int × List UInt8 := tk (nm l e width).1 (nm l e width).2.1 (nm l e width).2.2 false

set_option maxHeartbeats 1000000 in
theorem rtext_any (g : Nat) (l : List UInt8) (e0 width : Int) (w : World) (h : Rd w g l e0) :
    Calls Try.prog 60 #[.pointer (some ⟨g, 0, none⟩), .int .i64 width] w fun e w' => e = .returned (.string (str (tx l e0 width).2.2)) ∧ Rd w' g (tx l e0 width).1 (tx l e0 width).2.1 ∧ Only w w' (· = g) := by
  go_enter Try.func60, Try.ntmps60
  go_wp2_with fail
  refine (rnum_any g l e0 width w h).mono ?_
  rintro e w1 ⟨rfl, hrd1, hon1⟩
  go_wp2_with fail
  refine (rtake_any g _ _ _ false w1 hrd1 (by intro _; omega)).mono ?_
  rintro e w2 ⟨A, m, c, rfl, hm, hmc, hr, hA, hrd2, hon2⟩
  have hcv := run_string (P := Try.prog) hm 23 9 5 (c := c) Try.underlying23 Try.underlying5 Try.underlying9 hr
  go_wp2_with fail
  go_ret
  exact ⟨rfl, hrd2, hon1.trans hon2 (fun i _ h => h)⟩

set_option maxHeartbeats 1000000 in
theorem newReader_any (A : Option Addr) (n c : Nat) (l : List UInt8) (w : World) (hn : l.length = n) (hr : Row w A (bv l)) (hsz : n ≤ 140737488355328) :
    Calls Try.prog 59 #[.slice A n c] w fun e w' => ∃ g, e = .returned (.pointer (some ⟨g, 0, none⟩)) ∧ w.heap.size ≤ g ∧ Rd w' g l 0 ∧ Below w.heap.size w w' := by
  obtain ⟨i0, hi0, hz0, hz1, hz2⟩ := info_parts info_u8
  have hsrc : Src Try.prog (w.alloc (.cells #[] 5)) 23 (.slice A n c) 1 n (bv l) := Src.slice Try.underlying23 (hr.alloc _) (by rw [bv_length, hn, Nat.mul_one]) (bv_one l)
  have HN := Lib.hid hn
  clear hn
  go_enter Try.func59, Try.ntmps59
  go_wp2_with (at_builtin; refine wpList_app _ rfl _ _ 23 23 rfl w.heap.size 5 i0 _ 1 1 Try.underlying23 hi0 hz0 hz1 hz2 rfl _ 0 0 [] rfl (Own.nil _ _ _ _ _) _ n (bv l) rfl hsrc (by simp only [maxLen]; omega) (by omega) (by simp) ?_; intro A3 c3 w3 hown3 hg3 hb3; rw [Nat.zero_add, List.nil_append] at hown3; rw [Nat.zero_add])
  go_ret
  have hb4 : Below w.heap.size w w3 := ((Below.refl _ _).alloc (Nat.le_refl _) _).grown hg3 (by simp) (fun i hi => by simp [ownB] at hi)
  refine ⟨w3.heap.size, rfl, hb4.size, ⟨A3, n, c3, Blk.new _ _ _, HN.out, hown3.2.1, hown3.row.alloc _, Apt.of_lt hown3.row, (Byt.own hown3).below ((Below.refl _ _).alloc (Nat.le_refl _) _)⟩, hb4.alloc hb4.size _⟩
end Go.Proofs.Ytbljacafmkdlmaa
