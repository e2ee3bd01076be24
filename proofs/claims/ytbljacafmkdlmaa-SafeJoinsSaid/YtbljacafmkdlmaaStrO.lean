/- An argument that is a row of texts, opened. No condition. -/
import Derived.Test.YtbljacafmkdlmaaMgB
import Derived.Test.YtbljacafmkdlmaaChecked
import Derived.Test.YtbljacafmkdlmaaJnB
import Derived.Deep.Fields
import Derived.ChangeArms
namespace Go.Proofs.Ytbljacafmkdlmaa
set_option maxRecDepth 100000
open Go.RowKit Go.ChangeShapes Go.WideShapes Go.ChangeAt Go.Deep
set_option linter.unusedVariables false

section
variable {H : Type} {enc : TypeId × Value → H} {P : Program} {W : World} {base b0 : Nat} {r : Reach} {t e : TypeId} {v : Value} {d : DataW H} {ps : List MemPlace}

theorem jweightsAll_mem {e : TypeId} : ∀ {ds : List (DataW H)} {d : DataW H}, d ∈ ds → ∀ n ∈ d.weights P e, n ∈ DataW.weightsAll P e ds
  | x :: ds, d, h, n, hn => by
    simp only [DataW.weightsAll, List.mem_append]
    rcases List.mem_cons.1 h with rfl | h
    · exact .inl hn
    · exact .inr (jweightsAll_mem h n hn)


theorem jopen_cells (ht : P.underlying t = some (.slice e)) (hC : P.cellsOf e = 1) (hval : Value.okWide P W r b0 t v) (h : DataW.Trod enc P W base (fun _ => true) true t v d ps) :
    ∃ A n c, v = .slice A n c ∧ n ≤ c ∧ c ≤ maxLen ∧ (n = 0 ∨ ∃ g o, A = some ⟨g, o, none⟩ ∧ ∃ (D : Nat → DataW H) (spare : List (DataW H)), d = .slice ((List.range n).map D) spare ∧
      ∀ i, i < n → ∃ (u : Value) (y : DataW H × List MemPlace) (k : Nat), W.cell? ⟨g, o + i, none⟩ = some u ∧ y.1 = D i ∧ DataW.trod enc P W base (fun _ => true) true k e [u] = some y) := by
  obtain ⟨A, n, c, rfl⟩ := okWide_slice ht hval
  obtain ⟨fuel, hf⟩ := h
  rcases open_slice ht hf with ⟨hcs, _⟩ | ⟨a, len, cap, m, k, D, Pl, hcs, hb, hl, hm, hmm, hx, hi⟩
  · simp [Value.cells] at hcs
    obtain ⟨rfl, rfl, rfl⟩ := hcs
    exact ⟨none, 0, 0, rfl, Nat.le_refl _, Nat.zero_le _, .inl rfl⟩
  · simp [Value.cells] at hcs
    obtain ⟨rfl, rfl, rfl⟩ := hcs
    refine ⟨some a, n, c, rfl, hl, hm, ?_⟩
    by_cases h0 : n = 0
    · exact .inl h0
    right
    simp only [if_true] at hmm
    have key : ∀ i, i < n → ∃ (u : Value) (y : DataW H × List MemPlace) (k : Nat), W.cell? (a.add i) = some u ∧ y.1 = D i ∧ DataW.trod enc P W base (fun _ => true) true k e [u] = some y := by
      intro i hin
      obtain ⟨cs', hc, ht'⟩ := hi i (by omega)
      rw [hC] at hc
      obtain ⟨_, hcl, hat⟩ := World.cells?_some hc
      have hcell := hat 0 (by omega)
      have hv : cs'[0]? = some (cs'[0]'(by omega)) := List.getElem?_eq_getElem (by omega)
      have hcs1 : cs' = [cs'[0]'(by omega)] := by
        match cs', hcl with
        | [x], _ => rfl
      rw [hv, Nat.mul_one] at hcell
      have hadd : (a.add i).add 0 = a.add i := by simp [Addr.add]
      rw [hadd] at hcell
      rw [hcs1] at ht'
      exact ⟨_, _, k, hcell, rfl, ht'⟩
    have hsp : a.spot = none := by
      obtain ⟨u, y, k', hu, _⟩ := key 0 (by omega)
      unfold World.cell? at hu
      have hadd : a.add 0 = a := by simp [Addr.add]
      rw [hadd] at hu
      split at hu
      · cases hs : a.spot with
        | none => rfl
        | some _ => simp [hs] at hu
      · cases hu
    obtain ⟨g, o, s⟩ := a
    obtain rfl : s = none := hsp
    simp only [Prod.mk.injEq] at hx
    refine ⟨g, o, rfl, D, _, hx.1, fun i hin => ?_⟩
    obtain ⟨u, y, k', h1, h2, h3⟩ := key i hin
    rw [addr_add] at h1
    exact ⟨u, y, k', h1, h2, h3⟩
end

section
variable {H : Type} {enc : TypeId × Value → H} {W : World} {base b0 : Nat} {r : Reach} {v : Value} {d : DataW H} {q : List MemPlace}

theorem open_strs (hval : Value.okWide Try.prog W r b0 57 v) (h : DataW.Trod enc Try.prog W base (fun _ => true) true 57 v d q)
    (hw : ∀ x ∈ DataW.weights Try.prog 57 d, x ≤ reachBytes) :
    ∃ A n c ls, v = .slice A n c ∧ ls.length = n ∧ Row W A (sv ls) ∧ n ≤ c ∧ n ≤ 8796093022208 ∧ ∀ x ∈ ls, x.length ≤ 140737488355328 := by
  obtain ⟨A, n, c, rfl, hnc, hc, h0 | ⟨g, o, rfl, D, spare, rfl, hD⟩⟩ := jopen_cells Try.underlying57 (by kernel_rfl) hval h
  · subst h0
    exact ⟨A, 0, c, [], rfl, rfl, .inl rfl, hnc, Nat.zero_le _, (fun p hp => by cases hp)⟩
  · have hex : ∀ i, i < n → ∃ x : List UInt8, W.cell? ⟨g, o + i, none⟩ = some (.string (str x)) ∧ x.length ≤ 140737488355328 := by
      intro i hi
      obtain ⟨u, y, k, hu, hy, ht⟩ := hD i hi
      have h1 : ∀ x ∈ DataW.weights Try.prog 9 y.1, x ≤ reachBytes := fun x hx => by
        refine hw x ?_
        have h2 : D i ∈ (List.range n).map D := List.mem_map.2 ⟨i, List.mem_range.2 hi, rfl⟩
        simp only [DataW.weights, Try.underlying57, List.mem_cons, List.mem_append]
        exact .inr (.inl (jweightsAll_mem h2 x (by rw [← hy]; exact hx)))
      obtain ⟨s, hs, hs1, _⟩ := DataW.trod_string Try.underlying9 ht
      rw [hs1] at h1
      have hsl : s.data.toList.length ≤ 140737488351232 := by
        have := h1 s.data.toList.length (by simp only [DataW.weights]; exact List.mem_cons_self ..)
        simpa [reachBytes] using this
      simp only [List.cons.injEq, and_true] at hs
      subst hs
      exact ⟨s.data.toList, by rw [← str_of]; exact hu, by omega⟩
    obtain ⟨ls, hpl, hps⟩ := choose_list n hex
    have hn47 : n ≤ 8796093022208 := by
      have h5 := hw _ (by simp only [DataW.weights, Try.underlying57]; exact List.mem_cons_self ..)
      rw [show Try.prog.bytesOf 9 = 16 by kernel_rfl] at h5
      simp only [List.length_map, List.length_range, reachBytes] at h5
      omega
    refine ⟨some ⟨g, o, none⟩, n, c, ls, rfl, hpl, .inr ⟨g, o, rfl, fun j u hu => ?_⟩, hnc, hn47, fun x hx => ?_⟩
    · have hjl : j < ls.length := by
        have := (List.getElem?_eq_some_iff.1 hu).1
        rwa [sv_length] at this
      rw [sv_at hjl] at hu
      injection hu with hu
      rw [← hu]
      exact (hps j hjl).1
    · obtain ⟨i, hi, rfl⟩ := List.getElem_of_mem hx
      exact (hps i hi).2
end
end Go.Proofs.Ytbljacafmkdlmaa
