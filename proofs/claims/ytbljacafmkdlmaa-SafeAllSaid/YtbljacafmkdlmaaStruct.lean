/- A slice of structs that came in, opened to its cells. Over any program. Condition: each field is one cell. -/
import Derived.Test.YtbljacafmkdlmaaBlk
import Derived.Deep.Slices
import Derived.Deep.Fields
import Derived.ChangeSame
import Derived.ProofKit
import Derived.OpenShut
import Derived.SizedLaws
namespace Go.Proofs.Ytbljacafmkdlmaa
open Go.RowKit Go.ChangeShapes Go.WideShapes Go.Deep

theorem choose_list {α : Type} {R : Nat → α → Prop} : ∀ n, (∀ i, i < n → ∃ x, R i x) → ∃ l : List α, l.length = n ∧ ∀ i (h : i < l.length), R i l[i]
  | 0, _ => ⟨[], rfl, fun i h => by simp at h⟩
  | n + 1, h => by
    obtain ⟨l, hl, hr⟩ := choose_list n (fun i hi => h i (by omega))
    obtain ⟨x, hx⟩ := h n (by omega)
    refine ⟨l ++ [x], by simp [hl], fun i hi => ?_⟩
    rw [List.length_append, List.length_singleton] at hi
    by_cases hin : i < l.length
    · rw [List.getElem_append_left hin]
      exact hr i hin
    · obtain rfl : i = l.length := by omega
      rw [List.getElem_append_right (by omega)]
      simp only [Nat.sub_self, List.getElem_cons_zero]
      rw [hl]
      exact hx

section
variable {H : Type} {enc : TypeId × Value → H} {P : Program} {W : World} {base b0 : Nat} {r : Reach} {t e : TypeId} {v : Value} {d : DataW H} {ps : List MemPlace} {fs : Array Field}

theorem open_structs (ht : P.underlying t = some (.slice e)) (he : P.underlying e = some (.struct fs)) (hone : oneCellFields P fs = true) (hC : P.cellsOf e = fs.size) (hpos : 0 < fs.size) (hval : Value.okWide P W r b0 t v)
    (h : DataW.Trod enc P W base (fun _ => true) true t v d ps) :
    ∃ A n c, v = .slice A n c ∧ n ≤ c ∧ c ≤ maxLen ∧ (n = 0 ∨ ∃ g o, A = some ⟨g, o, none⟩ ∧ ∃ (D : Nat → DataW H) (spare : List (DataW H)), d = .slice ((List.range n).map D) spare ∧
      ∀ i, i < n → ∃ (ys : List (DataW H × List MemPlace)) (k : Nat), D i = .agg (ys.map (·.1)) ∧ ys.length = fs.size ∧
        ∀ (j : Nat) (f : Field), fs[j]? = some f → ∃ (u : Value) (y : DataW H × List MemPlace), W.cell? ⟨g, o + (i * fs.size + j), none⟩ = some u ∧ ys[j]? = some y ∧ DataW.trod enc P W base (fun _ => true) true k f.type [u] = some y) := by
  obtain ⟨A, n, c, rfl⟩ := okWide_slice ht hval
  obtain ⟨fuel, hf⟩ := h
  rcases open_slice ht hf with ⟨hcs, _⟩ | ⟨a, len, cap, m, k, D, Pl, hcs, hb, hl, hm, hmm, hx, hi⟩
  · simp [Value.cells] at hcs
    obtain ⟨rfl, rfl, rfl⟩ := hcs
    exact ⟨none, 0, 0, rfl, Nat.le_refl _, Nat.zero_le _, .inl rfl⟩
  · simp [Value.cells] at hcs
    obtain ⟨rfl, rfl, rfl⟩ := hcs
    refine ⟨some a, n, c, rfl, hl, hm, ?_⟩
    by_cases h0 : n = 0
    · exact .inl h0
    right
    simp only [if_true] at hmm
    have key : ∀ i, i < n → ∃ (ys : List (DataW H × List MemPlace)) (k : Nat), D i = .agg (ys.map (·.1)) ∧ ys.length = fs.size ∧
        ∀ (j : Nat) (f : Field), fs[j]? = some f → ∃ (u : Value) (y : DataW H × List MemPlace), W.cell? (a.add (i * fs.size + j)) = some u ∧ ys[j]? = some y ∧ DataW.trod enc P W base (fun _ => true) true k f.type [u] = some y := by
      intro i hin
      obtain ⟨cs', hc, ht'⟩ := hi i (by omega)
      rw [hC] at hc
      obtain ⟨ys, k', _, hy, hlen, hyl, hfl⟩ := DataW.trod_struct he ht'
      obtain ⟨_, hcl, hat⟩ := World.cells?_some hc
      simp only [Prod.mk.injEq] at hy
      refine ⟨ys, k', hy.1, hyl, fun j f hj => ?_⟩
      obtain ⟨ho, hk⟩ := hone_of hone j f hj
      have hjl : j < fs.size := (Array.getElem?_eq_some_iff.1 hj).1
      have hcell := hat j hjl
      have hv : cs'[j]? = some (cs'[j]'(by omega)) := List.getElem?_eq_getElem (by omega)
      have h1 := hfl j f hj
      rw [ho, hk] at h1
      have h2 : (cs'.drop j).take 1 = [cs'[j]'(by omega)] := by
        rw [List.drop_eq_getElem_cons (by omega)]
        rfl
      rw [h2] at h1
      have hys : ys[j]? = some (ys[j]'(by omega)) := List.getElem?_eq_getElem (by omega)
      exact ⟨_, _, by rw [← Go.Deep.add_add, hcell, hv], hys, h1.trans hys⟩
    have hsp : a.spot = none := by
      obtain ⟨ys, k', _, _, hfl⟩ := key 0 (by omega)
      obtain ⟨u, y, hu, _⟩ := hfl 0 fs[0] (Array.getElem?_eq_getElem hpos)
      unfold World.cell? at hu
      have hadd : a.add (0 * fs.size + 0) = a := by simp [Addr.add]
      rw [hadd] at hu
      split at hu
      · cases hs : a.spot with
        | none => rfl
        | some _ => simp [hs] at hu
      · cases hu
    obtain ⟨g, o, s⟩ := a
    obtain rfl : s = none := hsp
    simp only [Prod.mk.injEq] at hx
    refine ⟨g, o, rfl, D, _, hx.1, fun i hin => ?_⟩
    obtain ⟨ys, k', h1, h2, h3⟩ := key i hin
    refine ⟨ys, k', h1, h2, fun j f hj => ?_⟩
    obtain ⟨u, y, h4, h5, h6⟩ := h3 j f hj
    rw [addr_add] at h4
    exact ⟨u, y, h4, h5, h6⟩
end
end Go.Proofs.Ytbljacafmkdlmaa
