/- A saver's calls, as rows of the document's calls in memory; bytes of a string. Conditions: where a bound is named. -/
import Derived.Test.YtbljacafmkdlmaaRfA
import Derived.Test.YtbljacafmkdlmaaSvA
import Derived.Test.YtbljacafmkdlmaaOpO
import Derived.Laws.IdiomStrings
namespace Go.Proofs.Ytbljacafmkdlmaa
set_option maxRecDepth 100000
open Go.RowKit
set_option linter.unusedSimpArgs false
set_option linter.unusedVariables false

/-- '[]byte(s)'. -/
theorem conv_any (u : World) (l : List UInt8) (n : Nat) (hn : l.length = n) :
    ∃ c u', (convert 9 23 (.string (str l))).run Try.prog u = .ok (.slice (some ⟨u.heap.size, 0, none⟩) n c) u' ∧ n ≤ c ∧ Row u' (some ⟨u.heap.size, 0, none⟩) (bv l) ∧ Byt u' (some ⟨u.heap.size, 0, none⟩) l ∧ Below u.heap.size u u' := by
  have h := run_bytes_of_string (P := Try.prog) u 9 23 5 (str l) Try.underlying9 Try.underlying23 Try.underlying5
  rw [str_size, hn] at h
  refine ⟨_, _, h, grownCap_ge _ _ _ _, ?_, ?_, (Below.refl _ u).drew.alloc (Nat.le_refl _) _⟩
  · refine .inr ⟨_, 0, rfl, fun j v hv => ?_⟩
    have hj : j < l.length := by
      have h1 := (List.getElem?_eq_some_iff.1 hv).1
      rw [bv_length] at h1
      exact h1
    rw [bv_at hj] at hv
    injection hv with hv
    show World.cell? _ ⟨u.drew.heap.size, 0 + j, none⟩ = _
    rw [cell_of_row _ _ _ _ _ _ (heap_alloc_new u.drew _), Nat.zero_add, bytesRow_at _ _ _ (by simpa [str] using hj), ← hv]
    simp [str]
  · refine .inr fun a ha => ?_
    injection ha with ha
    subst ha
    exact ⟨_, _, heap_alloc_new u.drew _⟩

/-- One of a saver's calls, laid as the document's. -/
structure OpvIn (w : World) (o : SOp) (p : Opv) : Prop where
  op : p.o = opnOf o
  k0 : p.K = none
  row : Row w p.D (bv p.o.b)
  byt : Byt w p.D p.o.b
  cap : p.o.b.length ≤ p.dc
  len : p.o.b.length ≤ 1000000
  ia : -9223372036854775808 ≤ p.o.at_ ∧ p.o.at_ ≤ 9223372036854775807
theorem OpvIn.only {w w' : World} {o : SOp} {p : Opv} {F : Nat → Prop} (h : OpvIn w o p) (ho : Only w w' F) (hF : ∀ k, F k → Far4 w k) : OpvIn w' o p := by
  have hbb : p.o.b ≠ [] → ∀ a', p.D = some a' → ¬ F a'.block := fun hx a' ha hf => by
    rcases h.byt with hb | hb
    · exact hx hb
    · obtain ⟨cur, lh, e⟩ := hb a' ha
      exact (hF _ hf _ _ _ e).2.2.2 rfl
  refine ⟨h.op, h.k0, ?_, ?_, h.cap, h.len, h.ia⟩
  · by_cases hx : p.o.b = []
    · rw [hx]; exact Row.nil _ _
    · exact h.row.only ho (hbb hx)
  · rcases h.byt with hb0 | hb1
    · exact .inl hb0
    · by_cases hx : p.o.b = []
      · exact .inl hx
      · refine .inr fun a' ha => ?_
        obtain ⟨cur, lh, e⟩ := hb1 a' ha
        have hlt : a'.block < w.heap.size := (Array.getElem?_eq_some_iff.1 e).1
        exact ⟨cur, lh, (ho.block _ hlt (hbb hx a' ha)).trans e⟩
theorem OpvIn.below {w w' : World} {o : SOp} {p : Opv} (h : OpvIn w o p) (hb : Below w.heap.size w w') : OpvIn w' o p := h.only (Only.of_below hb (fun _ => False)) (fun _ hf => hf.elim)
theorem OpvIn.keep0 {w : World} {o : SOp} {p : Opv} (h : OpvIn w o p) : p.o.keep = [] ∧ p.o.n = 0 := by
  rw [h.op]
  cases o <;> exact ⟨rfl, rfl⟩

inductive OpvIns (w : World) : List SOp → List Opv → Prop
  | nil : OpvIns w [] []
  | cons {o : SOp} {p : Opv} {l : List SOp} {ps : List Opv} : OpvIn w o p → OpvIns w l ps → OpvIns w (o :: l) (p :: ps)
theorem OpvIns.only {w w' : World} {F : Nat → Prop} {l : List SOp} {ps : List Opv} (h : OpvIns w l ps) (ho : Only w w' F) (hF : ∀ k, F k → Far4 w k) : OpvIns w' l ps := by
  induction h with
  | nil => exact .nil
  | cons h1 _ ih => exact .cons (h1.only ho hF) ih
theorem OpvIns.under {w w' : World} {l : List SOp} {ps : List Opv} (h : OpvIns w l ps) (hb : Below w.heap.size w w') : OpvIns w' l ps := h.only (Only.of_below hb (fun _ => False)) (fun _ hf => hf.elim)
theorem OpvIns.snoc {w : World} {l : List SOp} {ps : List Opv} {o : SOp} {p : Opv} (h : OpvIns w l ps) (h1 : OpvIn w o p) : OpvIns w (l ++ [o]) (ps ++ [p]) := by
  induction h with
  | nil => exact .cons h1 .nil
  | cons h2 _ ih => exact .cons h2 ih
theorem OpvIns.length {w : World} {l : List SOp} {ps : List Opv} (h : OpvIns w l ps) : ps.length = l.length := by
  induction h with
  | nil => rfl
  | cons _ _ ih => rw [List.length_cons, List.length_cons, ih]
theorem OpvIns.get {w : World} {l : List SOp} {ps : List Opv} (h : OpvIns w l ps) : ∀ {i : Nat} (hi : i < ps.length) (hl : i < l.length), OpvIn w l[i] ps[i] := by
  induction h with
  | nil => intro i hi; simp at hi
  | cons h1 _ ih =>
    intro i hi hl
    cases i with
    | zero => exact h1
    | succ i => exact ih (by simpa using hi) (by simpa using hl)
theorem ocells_snoc (ps : List Opv) (p : Opv) : ocells (ps ++ [p]) = ocells ps ++ p.cells := by simp [ocells]

/-- Calls laid one behind the other, a store's block beside them. -/
structure RSt (w : World) (B g0 : Nat) (cs : Array Value) (l : List SOp) (n : Nat) (A : Option Addr) (c : Nat) (ps : List Opv) : Prop where
  len : l.length = n
  own : Own w B 45 5 A n c (ocells ps)
  ins : OpvIns w l ps
  blk : Blk w g0 27 cs
theorem RSt.below {w w' : World} {B g0 : Nat} {cs : Array Value} {l : List SOp} {n : Nat} {A : Option Addr} {c : Nat} {ps : List Opv} (h : RSt w B g0 cs l n A c ps) (hb : Below w.heap.size w w') : RSt w' B g0 cs l n A c ps :=
  ⟨h.len, h.own.below hb, h.ins.under hb, h.blk.belowAll hb⟩
theorem RSt.app {w w2 w3 : World} {B g0 : Nat} {cs : Array Value} {l : List SOp} {n : Nat} {A A' : Option Addr} {c c' : Nat} {ps : List Opv} (h : RSt w B g0 cs l n A c ps) (hb : Below w.heap.size w w2) {o : SOp} {p : Opv} (hp : OpvIn w2 o p) {news : List Value} (hn : news = p.cells)
    (hown : Own w3 B 45 5 A' (n + 1) c' (ocells ps ++ news)) (hg : w2.grownBy w3 (ownB A c)) : RSt w3 B g0 cs (l ++ [o]) (n + 1) A' c' (ps ++ [p]) := by
  have h2 := h.below hb
  have ho : Only w2 w3 (fun k => ownB A c = some k) := (Only.refl w2 _).grown hg (fun k hk => .inl hk)
  have hF : ∀ k, ownB A c = some k → Far4 w2 k := h2.own.far4 (by decide)
  refine ⟨by rw [List.length_append, h.len]; rfl, ?_, (h2.ins.only ho hF).snoc (hp.only ho hF), h2.blk.only ho (fun hk => h2.own.blk_ne h2.blk (by decide) _ hk rfl)⟩
  rw [ocells_snoc, ← hn]
  exact hown
theorem RSt.size {w : World} {B g0 : Nat} {cs : Array Value} {l : List SOp} {n : Nat} {A : Option Addr} {c : Nat} {ps : List Opv} (h : RSt w B g0 cs l n A c ps) : g0 < w.heap.size := h.blk.lt

/-- What Steps answers. -/
def RStepsPost (w : World) (r : List SOp × Int) (e : Ending) (w' : World) : Prop :=
  Below w.heap.size w w' ∧ ∃ A n c ps, e = .returned (.tuple #[.slice A n c, .int .i64 r.2]) ∧ r.1.length = n ∧ n ≤ c ∧ OpvIns w' r.1 ps ∧ Row w' A (ocells ps) ∧ (ps ≠ [] → ∀ a, A = some a → ∃ cur lh, w'.heap[a.block]? = some (.cells cur 45 lh))
theorem RStepsPost.none_ {w w' : World} {er : Int} (hb : Below w.heap.size w w') : RStepsPost w ([], er) (.returned (.tuple #[.slice none 0 0, .int .i64 er])) w' :=
  ⟨hb, none, 0, 0, [], rfl, rfl, Nat.le_refl _, .nil, Row.nil _ _, fun h => absurd rfl h⟩
theorem RSt.post {w w' : World} {B g0 : Nat} {cs : Array Value} {l : List SOp} {n : Nat} {A : Option Addr} {c : Nat} {ps : List Opv} (h : RSt w' B g0 cs l n A c ps) (hb : Below w.heap.size w w') : RStepsPost w (l, 0) (.returned (.tuple #[.slice A n c, .int .i64 0])) w' := by
  refine ⟨hb, A, n, c, ps, rfl, h.len, h.own.2.1, h.ins, h.own.row, fun hx a ha => ?_⟩
  obtain ⟨hl, hnc, _, h0 | ⟨g, cur, lo, hi, he, _, hh, _⟩⟩ := h.own
  · subst h0
    have h1 : l.length = 0 := by have := h.len; omega
    have h2 := h.ins.length
    exact absurd (List.eq_nil_of_length_eq_zero (by omega)) hx
  · rw [ha] at he
    injection he with he
    subst he
    exact ⟨cur, _, hh⟩
end Go.Proofs.Ytbljacafmkdlmaa
