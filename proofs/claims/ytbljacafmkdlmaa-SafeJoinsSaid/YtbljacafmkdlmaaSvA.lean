/- Savers in memory: what of the memory one is; the functions that a saver keeps. Condition: a store as one lies in memory. -/
import Derived.Test.YtbljacafmkdlmaaMgM
import Derived.Test.YtbljacafmkdlmaaSeqS
namespace Go.Proofs.Ytbljacafmkdlmaa
set_option maxRecDepth 100000
open Go.RowKit
set_option linter.unusedSimpArgs false

/-- What one of a saver's functions does. -/
def FnOK (w : World) (sg : Nat) : SOp → Value → Prop
  | .flush, v => ∃ gs, v = .func (.func 38) #[] #[.pointer (some ⟨gs, 0, none⟩)] ∧ Blk w gs 24 #[.pointer (some ⟨sg, 0, none⟩)]
  | .write a b, v => ∃ gs ga gx A m c, v = .func (.func 41) #[] #[.pointer (some ⟨gs, 0, none⟩), .pointer (some ⟨ga, 0, none⟩), .pointer (some ⟨gx, 0, none⟩)] ∧
      Blk w gs 24 #[.pointer (some ⟨sg, 0, none⟩)] ∧ Blk w ga 3 #[.int .i64 a] ∧ Blk w gx 23 #[.slice A m c] ∧ b.length = m ∧ m ≤ c ∧ m ≤ 1000000 ∧ Row w A (bv b) ∧ Byt w A b
/-- A block that is no part of what those functions keep. -/
def Far4 (w : World) (k : Nat) : Prop := ∀ cs t lh, w.heap[k]? = some (.cells cs t lh) → t ≠ 24 ∧ t ≠ 3 ∧ t ≠ 23 ∧ t ≠ 5
theorem Blk.far4 {w : World} {g : Nat} {t : TypeId} {cs : Array Value} (h : Blk w g t cs) (ht : t ≠ 24 ∧ t ≠ 3 ∧ t ≠ 23 ∧ t ≠ 5) : Far4 w g := by
  intro cs' t' lh e
  unfold Blk at h
  rw [h] at e
  injection e with e
  injection e with _ e
  rw [← e]
  exact ht
theorem Mp.no_cells {w : World} {b : Nat} {D : DataW Unit} (h : Mp w b D) : ∀ cs t lh, w.heap[b]? ≠ some (.cells cs t lh) := by
  intro cs t lh e
  obtain ⟨es, clock, h1, _⟩ := h
  rw [h1] at e
  cases e
/-- A store's blocks are of two types, or maps. -/
theorem Sto.types {w : World} {B : Nat} {f : Fp} {s : St} (h : Sto w B f s) {k : Nat} (hk : Foot f k) {cs : Array Value} {t : TypeId} {lh : Nat × Nat} (e : w.heap[k]? = some (.cells cs t lh)) : t = 108 ∨ t = 135 := by
  rcases hk with hk | hk | hk | hk
  · subst hk
    have hb := h.blk
    unfold Blk at hb
    rw [hb] at e
    injection e with e
    injection e with _ e
    exact .inl e.symm
  · subst hk
    exact absurd e (h.safe.no_cells _ _ _)
  · subst hk
    exact absurd e (h.seen.no_cells _ _ _)
  · obtain ⟨_, _, _, h4 | ⟨g4, cur4, lo4, hi4, he4, _, hh4, _⟩⟩ := h.own
    · rw [h4] at hk; simp [ownB] at hk
    · by_cases hc4 : f.c = 0
      · rw [hc4] at hk; simp [ownB] at hk
      · rw [he4, ownB_some (by omega)] at hk
        injection hk with hk
        rw [← hk, hh4] at e
        injection e with e
        injection e with _ e
        exact .inr e.symm
theorem Sto.far4 {w : World} {B : Nat} {f : Fp} {s : St} (h : Sto w B f s) : ∀ k, Foot f k → Far4 w k := by
  intro k hk cs t lh e
  rcases h.types hk e with rfl | rfl <;> decide
theorem Sto.not_of {w : World} {B : Nat} {f : Fp} {s : St} (h : Sto w B f s) {g : Nat} {t : TypeId} {cs : Array Value} (hb : Blk w g t cs) (h1 : t ≠ 108) (h2 : t ≠ 135) : ¬ Foot f g := fun hf => by
  rcases h.types hf hb with e | e
  · exact h1 e
  · exact h2 e
theorem Sto.not_own {w : World} {B B2 : Nat} {f : Fp} {s : St} {e : TypeId} {size : Nat} {A : Option Addr} {n c : Nat} {xs : List Value} (h : Sto w B f s) (ho : Own w B2 e size A n c xs) (h1 : e ≠ 108) (h2 : e ≠ 135) : ∀ k, ownB A c = some k → ¬ Foot f k := by
  intro k hk hf
  obtain ⟨_, _, _, h0 | ⟨g, cur, lo, hi, rfl, _, hh, _⟩⟩ := ho
  · subst h0; simp [ownB] at hk
  · by_cases hc : c = 0
    · subst hc; simp [ownB] at hk
    · rw [ownB_some (by omega)] at hk
      injection hk with hk
      subst hk
      rcases h.types hf hh with e' | e'
      · exact h1 e'
      · exact h2 e'
theorem Own.far4 {w : World} {B : Nat} {e : TypeId} {size : Nat} {A : Option Addr} {n c : Nat} {xs : List Value} (ho : Own w B e size A n c xs) (ht : e ≠ 24 ∧ e ≠ 3 ∧ e ≠ 23 ∧ e ≠ 5) : ∀ k, ownB A c = some k → Far4 w k := by
  intro k hk cs t lh e2
  obtain ⟨_, _, _, h0 | ⟨g, cur, lo, hi, rfl, _, hh, _⟩⟩ := ho
  · subst h0; simp [ownB] at hk
  · by_cases hc : c = 0
    · subst hc; simp [ownB] at hk
    · rw [ownB_some (by omega)] at hk
      injection hk with hk
      subst hk
      rw [hh] at e2
      injection e2 with e2
      injection e2 with _ e2
      rw [← e2]
      exact ht
theorem Blk.keep4 {w w' : World} {F : Nat → Prop} {g : Nat} {t : TypeId} {cs : Array Value} (h : Blk w g t cs) (ho : Only w w' F) (hF : ∀ k, F k → Far4 w k) (ht : t = 24 ∨ t = 3 ∨ t = 23 ∨ t = 5) : Blk w' g t cs :=
  h.only ho (fun hf => by
    have h4 := hF g hf _ _ _ h
    rcases ht with e | e | e | e
    · exact h4.1 e
    · exact h4.2.1 e
    · exact h4.2.2.1 e
    · exact h4.2.2.2 e)
theorem FnOK.only {w w' : World} {F : Nat → Prop} {sg : Nat} {o : SOp} {v : Value} (h : FnOK w sg o v) (ho : Only w w' F) (hF : ∀ k, F k → Far4 w k) : FnOK w' sg o v := by
  cases o with
  | flush =>
    obtain ⟨gs, rfl, hb⟩ := h
    exact ⟨gs, rfl, hb.keep4 ho hF (.inl rfl)⟩
  | write a b =>
    obtain ⟨gs, ga, gx, A, m, c, rfl, h1, h2, h3, hm, hmc, hm5, hr, hb⟩ := h
    have hbb : b ≠ [] → ∀ a', A = some a' → ¬ F a'.block := fun hx a' ha hf => by
      rcases hb with hb | hb
      · exact hx hb
      · obtain ⟨cur, lh, e⟩ := hb a' ha
        exact (hF _ hf _ _ _ e).2.2.2 rfl
    refine ⟨gs, ga, gx, A, m, c, rfl, h1.keep4 ho hF (.inl rfl), h2.keep4 ho hF (.inr (.inl rfl)), h3.keep4 ho hF (.inr (.inr (.inl rfl))), hm, hmc, hm5, ?_, ?_⟩
    · by_cases hx : b = []
      · subst hx; exact Row.nil _ _
      · exact hr.only ho (hbb hx)
    · rcases hb with hb0 | hb1
      · exact .inl hb0
      · by_cases hx : b = []
        · exact .inl hx
        · refine .inr fun a' ha => ?_
          obtain ⟨cur, lh, e⟩ := hb1 a' ha
          have hlt : a'.block < w.heap.size := (Array.getElem?_eq_some_iff.1 e).1
          exact ⟨cur, lh, (ho.block _ hlt (hbb hx a' ha)).trans e⟩
theorem FnOK.below {w w' : World} {sg : Nat} {o : SOp} {v : Value} (h : FnOK w sg o v) (hb : Below w.heap.size w w') : FnOK w' sg o v := h.only (Only.of_below hb (fun _ => False)) (fun _ hf => hf.elim)

inductive Fns (w : World) (sg : Nat) : List SOp → List Value → Prop
  | nil : Fns w sg [] []
  | cons {o : SOp} {v : Value} {l : List SOp} {vs : List Value} : FnOK w sg o v → Fns w sg l vs → Fns w sg (o :: l) (v :: vs)
theorem Fns.only {w w' : World} {F : Nat → Prop} {sg : Nat} {l : List SOp} {vs : List Value} (h : Fns w sg l vs) (ho : Only w w' F) (hF : ∀ k, F k → Far4 w k) : Fns w' sg l vs := by
  induction h with
  | nil => exact .nil
  | cons h1 _ ih => exact .cons (h1.only ho hF) ih
theorem Fns.under {w w' : World} {sg : Nat} {l : List SOp} {vs : List Value} (h : Fns w sg l vs) (hb : Below w.heap.size w w') : Fns w' sg l vs := h.only (Only.of_below hb (fun _ => False)) (fun _ hf => hf.elim)
theorem Fns.snoc {w : World} {sg : Nat} {l : List SOp} {vs : List Value} {o : SOp} {v : Value} (h : Fns w sg l vs) (h1 : FnOK w sg o v) : Fns w sg (l ++ [o]) (vs ++ [v]) := by
  induction h with
  | nil => exact .cons h1 .nil
  | cons h2 _ ih => exact .cons h2 ih
theorem Fns.length {w : World} {sg : Nat} {l : List SOp} {vs : List Value} (h : Fns w sg l vs) : vs.length = l.length := by
  induction h with
  | nil => rfl
  | cons _ _ ih => rw [List.length_cons, List.length_cons, ih]
theorem FnOK.one {w : World} {sg : Nat} {o : SOp} {v : Value} (h : FnOK w sg o v) : v.oneCell' = true := by
  cases o with
  | flush => obtain ⟨gs, rfl, _⟩ := h; rfl
  | write a b => obtain ⟨gs, ga, gx, A, m, c, rfl, _⟩ := h; rfl

/-- A saver: where it lies, which store it serves, what it has still to do, its last error. -/
def Sv (w : World) (gv sg : Nat) (l : List SOp) (e : Int) : Prop :=
  ∃ A c vs, Blk w gv 86 #[.slice A l.length c, .int .i64 e] ∧ l.length ≤ c ∧ Fns w sg l vs ∧ Row w A vs ∧ (vs ≠ [] → ∀ a, A = some a → ∃ cur lh, w.heap[a.block]? = some (.cells cur 87 lh))
theorem Sv.lt {w : World} {gv sg : Nat} {l : List SOp} {e : Int} (h : Sv w gv sg l e) : gv < w.heap.size := by
  obtain ⟨A, c, vs, hb, _⟩ := h
  exact hb.lt
/-- What does not turn a saver. -/
theorem Sv.only {w w' : World} {gv sg : Nat} {l : List SOp} {e : Int} {F : Nat → Prop} (h : Sv w gv sg l e) (ho : Only w w' F) (hF : ∀ k, F k → Far4 w k) (hg : ¬ F gv) (hA : ∀ k cur lh, F k → w.heap[k]? ≠ some (.cells cur 87 lh)) : Sv w' gv sg l e := by
  obtain ⟨A, c, vs, hb, hc, hf, hr, hk⟩ := h
  have hn : vs ≠ [] → ∀ a, A = some a → ¬ F a.block := fun hx a ha hf => by
    obtain ⟨cur, lh, e⟩ := hk hx a ha
    exact hA _ _ _ hf e
  refine ⟨A, c, vs, hb.only ho hg, hc, hf.only ho hF, ?_, fun hx a ha => ?_⟩
  · by_cases hx : vs = []
    · subst hx; exact Row.nil _ _
    · exact hr.only ho (hn hx)
  · obtain ⟨cur, lh, e⟩ := hk hx a ha
    have hlt : a.block < w.heap.size := (Array.getElem?_eq_some_iff.1 e).1
    exact ⟨cur, lh, (ho.block _ hlt (hn hx a ha)).trans e⟩
theorem Sv.below {w w' : World} {gv sg : Nat} {l : List SOp} {e : Int} (h : Sv w gv sg l e) (hb : Below w.heap.size w w') : Sv w' gv sg l e := h.only (Only.of_below hb (fun _ => False)) (fun _ hf => hf.elim) (fun hf => hf.elim) (fun _ _ _ hf => hf.elim)
theorem Sv.turned {w w' : World} {gv sg : Nat} {l : List SOp} {e : Int} {B : Nat} {f f' : Fp} {s : St} (h : Sv w gv sg l e) (hs : Sto w B f s) (ht : Turned w w' f f') : Sv w' gv sg l e := by
  have h' := h
  obtain ⟨A, c, vs, hb, _⟩ := h'
  refine h.only ht.only hs.far4 (hs.not_of hb (by decide) (by decide)) (fun k cur lh hf e => ?_)
  rcases hs.types hf e with e | e
  · exact absurd e (by decide)
  · exact absurd e (by decide)

/-! ## the functions that are kept -/
set_option maxHeartbeats 1000000 in
theorem flushC_any (B : Nat) (f : Fp) (s : St) (gs : Nat) (w : World) (h : Sto w B f s) (hg : Blk w gs 24 #[.pointer (some ⟨f.g, 0, none⟩)]) :
    Calls Try.prog 38 #[.pointer (some ⟨gs, 0, none⟩)] w (WrPost w B f (doF s, 0)) := by
  have c0 := hg.cell 0
  simp only [List.getElem?_toArray, List.getElem?_cons_zero] at c0
  have hfl := flush_any B f s w h
  clear h hg
  go_enter Try.func38, Try.ntmps38
  go_wp2_with fail
  refine hfl.mono ?_
  rintro e w1 ⟨f', rfl, hs1, ht1⟩
  go_wp2_with fail
  go_ret
  exact ⟨f', rfl, hs1, ht1⟩

set_option maxHeartbeats 1000000 in
theorem writeC_any (B : Nat) (f : Fp) (s : St) (gs ga gx : Nat) (a : Int) (A : Option Addr) (m c : Nat) (b : List UInt8) (w : World) (h : Sto w B f s) (hg : Blk w gs 24 #[.pointer (some ⟨f.g, 0, none⟩)]) (ha : Blk w ga 3 #[.int .i64 a]) (hx : Blk w gx 23 #[.slice A m c])
    (hm : b.length = m) (hmc : m ≤ c) (hm5 : m ≤ 1000000) (hr : Row w A (bv b)) (hb : Byt w A b) (hsz : s.l.length + 4096 ≤ 5000000000000) :
    Calls Try.prog 41 #[.pointer (some ⟨gs, 0, none⟩), .pointer (some ⟨ga, 0, none⟩), .pointer (some ⟨gx, 0, none⟩)] w (WrPost w B f (doW s a b)) := by
  have c0 := hg.cell 0
  have c1 := ha.cell 0
  have c2 := hx.cell 0
  simp only [List.getElem?_toArray, List.getElem?_cons_zero] at c0 c1 c2
  have haw : Away w A (bv b) (Foot f) := ⟨hr, fun hx a' ha hf => by
    rcases hb with hb | hb
    · exact hx (by rw [hb]; rfl)
    · obtain ⟨cur, lh, e⟩ := hb a' ha
      rcases h.types hf e with e | e
      · exact absurd e (by decide)
      · exact absurd e (by decide)⟩
  have hwr := write_any B f s w h a A m c b hm hmc (by omega) haw hsz
  clear h hg ha hx hm hr hb haw
  go_enter Try.func41, Try.ntmps41
  go_wp2_with fail
  refine hwr.mono ?_
  rintro e w1 ⟨f', rfl, hs1, ht1⟩
  go_wp2_with fail
  go_ret
  exact ⟨f', rfl, hs1, ht1⟩
end Go.Proofs.Ytbljacafmkdlmaa
