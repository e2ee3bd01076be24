/- What the law SafeAll carries from step to step. Conditions: where a bound is named. -/
import Derived.Test.YtbljacafmkdlmaaMd13
import Derived.Test.YtbljacafmkdlmaaRfS
namespace Go.Proofs.Ytbljacafmkdlmaa
set_option maxRecDepth 100000
open Go.RowKit
set_option linter.unusedSimpArgs false
set_option linter.unusedVariables false

/-- The blocks that a step turns: the store's and the saver's. -/
def Turns (f : Fp) (gv : Nat) : Nat → Prop := fun k => Foot f k ∨ k = gv
theorem turns_far4 {w : World} {B gv sg : Nat} {f : Fp} {s : St} {l : List SOp} {e : Int} (h : Sto w B f s) (hv : Sv w gv sg l e) : ∀ k, Turns f gv k → Far4 w k := by
  obtain ⟨A, c, vs, hb, _⟩ := hv
  intro k hk
  rcases hk with hk | rfl
  · exact h.far4 k hk
  · exact hb.far4 (by decide)
theorem turns_type {w : World} {B gv sg : Nat} {f : Fp} {s : St} {l : List SOp} {e : Int} (h : Sto w B f s) (hv : Sv w gv sg l e) {k : Nat} (hk : Turns f gv k) {cs : Array Value} {t : TypeId} {lh : Nat × Nat} (ht : w.heap[k]? = some (.cells cs t lh)) : t ≠ 45 ∧ t ≠ 27 := by
  rcases hk with hk | rfl
  · rcases h.types hk ht with rfl | rfl <;> decide
  · obtain ⟨A, c, vs, hb, _⟩ := hv
    unfold Blk at hb
    rw [hb] at ht
    injection ht with ht
    injection ht with _ ht
    subst ht
    decide

/-- The document's calls in memory. -/
structure OpRow (w : World) (A : Option Addr) (l : List SOp) (qs : List Opv) : Prop where
  ins : OpvIns w l qs
  row : Row w A (ocells qs)
  typ : qs ≠ [] → ∀ a, A = some a → ∃ cur lh, w.heap[a.block]? = some (.cells cur 45 lh)
theorem OpRow.only {w w' : World} {F : Nat → Prop} {A : Option Addr} {l : List SOp} {qs : List Opv} (h : OpRow w A l qs) (ho : Only w w' F) (h4 : ∀ k, F k → Far4 w k) (ht : ∀ k cs t lh, F k → w.heap[k]? = some (.cells cs t lh) → t ≠ 45) : OpRow w' A l qs := by
  have hn : qs ≠ [] → ∀ a, A = some a → ¬ F a.block := fun hx a ha hf => by
    obtain ⟨cur, lh, e⟩ := h.typ hx a ha
    exact ht _ _ _ _ hf e rfl
  refine ⟨h.ins.only ho h4, ?_, fun hx a ha => ?_⟩
  · by_cases hx : qs = []
    · subst hx; exact Row.nil _ _
    · exact h.row.only ho (hn hx)
  · obtain ⟨cur, lh, e⟩ := h.typ hx a ha
    have hlt : a.block < w.heap.size := (Array.getElem?_eq_some_iff.1 e).1
    exact ⟨cur, lh, (ho.block _ hlt (hn hx a ha)).trans e⟩
theorem OpRow.below {w w' : World} {A : Option Addr} {l : List SOp} {qs : List Opv} (h : OpRow w A l qs) (hb : Below w.heap.size w w') : OpRow w' A l qs :=
  h.only (Only.of_below hb (fun _ => False)) (fun _ hf => hf.elim) (fun _ _ _ _ hf => hf.elim)

structure Job (w wr : World) (g8 gv fg : Nat) (ops rest : List SOp) (er : Int) (qs : List Opv) (Al : Option Addr) (f : Fp) (s : St) (r : St) (A : Option Addr) (m c N : Nat) : Prop where
  sto : Sto wr w.heap.size f s
  same : f.g = fg
  rok : r.OK
  blk : Blk wr g8 27 #[.int .i64 r.n, .int .i64 r.room, .slice A m c, .int .i64 r.k]
  len : r.l.length = m
  fit : m ≤ N
  row : Away wr A (rcells r.l) (Turns f gv)
  far : rcells r.l ≠ [] → ∀ a, A = some a → a.block ≠ g8
  sv : Sv wr gv fg rest er
  ops : OpRow wr Al ops qs
  bel : Below w.heap.size w wr
  lo8 : w.heap.size ≤ g8
  lov : w.heap.size ≤ gv

section
variable {w wr w' : World} {g8 gv fg : Nat} {ops rest rest' : List SOp} {er er' : Int} {qs : List Opv} {Al : Option Addr} {f f' : Fp} {s s' r r' : St} {A A' : Option Addr} {m m' c c' N N' : Nat}
theorem Job.below (h : Job w wr g8 gv fg ops rest er qs Al f s r A m c N) (hb : Below wr.heap.size wr w') : Job w w' g8 gv fg ops rest er qs Al f s r A m c N :=
  ⟨h.sto.below hb, h.same, h.rok, h.blk.belowAll hb, h.len, h.fit, h.row.below hb, h.far, h.sv.below hb, h.ops.below hb, below_all h.bel hb, h.lo8, h.lov⟩
theorem Job.alloc (h : Job w wr g8 gv fg ops rest er qs Al f s r A m c N) (o : Obj) : Job w (wr.alloc o) g8 gv fg ops rest er qs Al f s r A m c N := h.below ((Below.refl _ _).alloc (Nat.le_refl _) o)
theorem Job.drew (h : Job w wr g8 gv fg ops rest er qs Al f s r A m c N) : Job w wr.drew g8 gv fg ops rest er qs Al f s r A m c N := h.below (Below.refl _ wr).drew
/-- One step of the saver. -/
theorem Job.step (h : Job w wr g8 gv fg ops rest er qs Al f s r A m c N) (hs : Sto w' w.heap.size f' s') (hv : Sv w' gv fg rest' er') (ho : Only wr w' (fun k => Foot f k ∨ k = gv)) (hg : ∀ k, Foot f' k → Foot f k ∨ wr.heap.size ≤ k) (hf : f'.g = f.g) :
    Job w w' g8 gv fg ops rest' er' qs Al f' s' r A m c N := by
  have h4 := turns_far4 h.sto h.sv
  have hty := fun k cs t lh (hk : Turns f gv k) e => @turns_type wr w.heap.size gv fg f s rest er h.sto h.sv k hk cs t lh e
  have h8 : ¬ Turns f gv g8 := fun hk => (hty g8 _ _ _ hk h.blk).2 rfl
  refine ⟨hs, hf.trans h.same, h.rok, h.blk.only ho h8, h.len, h.fit, ⟨h.row.only ho, fun hx a ha hF => ?_⟩, h.far, hv, h.ops.only ho h4 (fun k cs t lh hk e => (hty k cs t lh hk e).1), h.bel.trans (ho.belowB (fun k hk => ?_) h.bel.size), h.lo8, h.lov⟩
  · rcases hF with hF | hF
    · rcases hg _ hF with hF | hF
      · exact h.row.2 hx a ha (.inl hF)
      · have := h.row.1.lt hx a ha
        omega
    · exact h.row.2 hx a ha (.inr hF)
  · rcases hk with hk | rfl
    · exact (h.sto.foot k hk).1
    · exact h.lov
/-- The document's store is another one: its row came from a call, its block is written. -/
theorem Job.next {w2 : World} (h : Job w wr g8 gv fg ops rest er qs Al f s r A m c N) (hn : RNew wr w2 A r.l A' r'.l) (hb : Below wr.heap.size wr w2) (hok : r'.OK) (hl : r'.l.length = m') (hN : m' ≤ N') (ho : Only w2 w' (fun i => i = g8))
    (hblk : Blk w' g8 27 #[.int .i64 r'.n, .int .i64 r'.room, .slice A' m' c', .int .i64 r'.k]) : Job w w' g8 gv fg ops rest er qs Al f s r' A' m' c' N' := by
  have h2 := h.below hb
  have h8v : g8 ≠ gv := by
    obtain ⟨Av, cv, vs, hbv, _⟩ := h2.sv
    exact h2.blk.ne_ hbv (by decide)
  have h8f : ¬ Foot f g8 := h2.sto.apart h2.blk (by decide) (by decide)
  have h84 : Far4 w2 g8 := h2.blk.far4 (by decide)
  have hlt8 := h.blk.lt
  have hltv := h.sv.lt
  have hfar : rcells r'.l ≠ [] → ∀ a, A' = some a → a.block ≠ g8 ∧ ¬ Turns f gv a.block := fun hx a ha => by
    obtain ⟨_, ⟨e1, e2⟩ | h3⟩ := hn
    · subst e1
      rw [e2] at hx
      exact ⟨h.far hx a ha, h.row.2 hx a ha⟩
    · have h4 := h3 hx a ha
      refine ⟨by omega, fun hF => ?_⟩
      rcases hF with hF | hF
      · have := (h.sto.foot _ hF).2
        omega
      · omega
  have h8ty : ∀ k cs t lh, k = g8 → w2.heap[k]? = some (.cells cs t lh) → t ≠ 45 := fun k cs t lh hk e => by
    subst hk
    have hb8 := h2.blk
    unfold Blk at hb8
    rw [hb8] at e
    injection e with e
    injection e with _ e
    subst e
    decide
  refine ⟨h2.sto.only ho (fun k hk e => h8f (e ▸ hk)), h.same, hok, hblk, hl, hN, ⟨?_, fun hx a ha => (hfar hx a ha).2⟩, fun hx a ha => (hfar hx a ha).1, ?_, h2.ops.only ho (fun k hk => hk ▸ h84) h8ty, h2.bel.trans (ho.belowB (fun k hk => by rw [hk]; exact h.lo8) h2.bel.size), h.lo8, h.lov⟩
  · by_cases hx : rcells r'.l = []
    · rw [hx]; exact Row.nil _ _
    · exact hn.1.only ho (fun a ha => (hfar hx a ha).1)
  · refine h2.sv.only ho (fun k hk => hk ▸ h84) (fun e => h8v e.symm) (fun k cur lh hk e => ?_)
    subst hk
    have hb8 := h2.blk
    unfold Blk at hb8
    rw [hb8] at e
    injection e with e
    injection e with _ e
    exact absurd e (by decide)
end

theorem step_ok {s : St} {o : SOp} {r : List SOp} (h : (doS s o).2 = 0) : stepV (s, o :: r, 0) = ((doS s o).1, r, 0) := if_pos h
theorem step_no {s : St} {o : SOp} {r : List SOp} (h : ¬ (doS s o).2 = 0) : stepV (s, o :: r, 0) = ((doS s o).1, [], (doS s o).2) := if_neg h
theorem begin_len {s : St} (h : s.OK) (b : List UInt8) : (beginP s b).1.length ≤ 2051 := ops_len h b
end Go.Proofs.Ytbljacafmkdlmaa
