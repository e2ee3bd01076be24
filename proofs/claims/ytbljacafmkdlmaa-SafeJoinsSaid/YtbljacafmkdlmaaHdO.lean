/- An argument that is a head, opened to its parts. No condition. -/
import Derived.Test.YtbljacafmkdlmaaMgB
import Derived.Test.YtbljacafmkdlmaaMgF
import Derived.Deep.Fields
import Derived.ChangeArms
namespace Go.Proofs.Ytbljacafmkdlmaa
set_option maxRecDepth 100000
open Go.RowKit Go.ChangeShapes Go.WideShapes Go.ChangeAt Go.Deep

section
variable {H : Type} {enc : TypeId × Value → H} {P : Program} {W : World} {base b0 : Nat} {r : Reach} {t e : TypeId} {v : Value} {d : DataW H} {ps : List MemPlace} {fs : Array Field}

/-- A struct by value, all of whose fields are one cell each. -/
theorem open_fields (hs : P.underlying t = some (.struct fs)) (hone : oneCellFields P fs = true) (hC : P.cellsOf t = fs.size) (hval : Value.okWide P W r b0 t v)
    (h : DataW.Trod enc P W base (fun _ => true) true t v d ps) :
    ∃ (cs : Array Value) (ys : List (DataW H × List MemPlace)) (n : Nat), v = .agg cs ∧ cs.size = fs.size ∧ ys.length = fs.size ∧ d = .agg (ys.map (·.1)) ∧
      ∀ (j : Nat) (f : Field), fs[j]? = some f → ∃ (u : Value) (y : DataW H × List MemPlace), cs[j]? = some u ∧ ys[j]? = some y ∧ DataW.trod enc P W base (fun _ => true) true n f.type [u] = some y := by
  obtain ⟨cs, rfl, hsz⟩ := okWide_struct hs hval
  obtain ⟨fuel, hf⟩ := h
  obtain ⟨ys, n, _, hy, hlen, hyl, hfl⟩ := DataW.trod_struct hs hf
  simp only [Prod.mk.injEq] at hy
  have hsz' : cs.size = fs.size := hsz.trans hC
  refine ⟨cs, ys, n, rfl, hsz', hyl, hy.1, fun j f hj => ?_⟩
  obtain ⟨ho, hk⟩ := hone_of hone j f hj
  have hjl : j < fs.size := (Array.getElem?_eq_some_iff.1 hj).1
  have h1 := hfl j f hj
  rw [ho, hk] at h1
  have hv : (Value.agg cs).cells.toList = cs.toList := by simp [Value.cells]
  have h2 : ((Value.agg cs).cells.toList.drop j).take 1 = [cs[j]'(by omega)] := by
    rw [hv, List.drop_eq_getElem_cons (by simp; omega)]
    simp
  have h3 : ((Value.agg cs).cells.toList.drop j).take 1 = [cs[j]'(by omega)] := h2
  first
    | rw [h3] at h1
    | (simp only [Value.cells] at h1 h3; rw [h3] at h1)
  exact ⟨_, ys[j]'(by omega), Array.getElem?_eq_getElem (by omega), List.getElem?_eq_getElem (by omega), h1.trans (List.getElem?_eq_getElem (by omega))⟩

/-- A cell that is a slice of integers. -/
theorem open_intsc (ht : P.underlying t = some (.slice e)) (he : P.underlying e = some (.int .i64)) (hc : P.cellsOf e = 1) (hby : P.bytesOf e = 8) {n0 : Nat} {u : Value} {y : DataW H × List MemPlace}
    (hf : DataW.trod enc P W base (fun _ => true) true n0 t [u] = some y) (hw : ∀ x ∈ DataW.weights P t y.1, x ≤ reachBytes) :
    ∃ A n c l, u = .slice A n c ∧ l.length = n ∧ Row W A (iv l) ∧ n ≤ c ∧ c * 8 ≤ 140737488351232 ∧ ∀ x ∈ l, -9223372036854775808 ≤ x ∧ x ≤ 9223372036854775807 := by
  rcases open_ints ht he hc hf with ⟨hcs, _⟩ | ⟨x, n, c, zs, hcs, _, hl, hm, hz, hx, hcell, hwz⟩
  · simp at hcs
    subst hcs
    exact ⟨none, 0, 0, [], rfl, rfl, .inl rfl, Nat.le_refl _, by omega, fun x hx => by cases hx⟩
  · simp at hcs
    subst hcs
    simp only [if_true] at hz
    refine ⟨some x, n, c, zs.take n, rfl, by simp; omega, ?_, hl, ?_, fun y hy => i64_of (hwz y (List.mem_of_mem_take hy))⟩
    · by_cases h0 : n = 0
      · subst h0; exact .inl (by simp [iv])
      · have hx0 := hcell 0 (by omega)
        have hsp : x.spot = none := by
          unfold World.cell? at hx0
          have hadd : x.add 0 = x := by simp [Addr.add]
          rw [hadd] at hx0
          split at hx0
          · cases hs : x.spot with
            | none => rfl
            | some _ => simp [hs] at hx0
          · cases hx0
        obtain ⟨g, o, s⟩ := x
        obtain rfl : s = none := hsp
        refine .inr ⟨g, o, rfl, fun j u hu => ?_⟩
        have hj : j < n := by
          have := (List.getElem?_eq_some_iff.1 hu).1
          simp [iv] at this
          omega
        have hcj := hcell j (by omega)
        rw [addr_add] at hcj
        rw [hcj, ← hu]
        simp [iv, hj, List.getD, show j < zs.length by omega]
    · have hx1 : y.1 = .slice (lits .i64 (zs.take n)) (lits .i64 (zs.drop n)) := by rw [hx]
      have h5 := hw _ (by rw [hx1]; simp only [DataW.weights, ht]; exact List.mem_cons_self ..)
      rw [hby] at h5
      simp only [lits, List.length_map, List.length_take, List.length_drop, reachBytes] at h5
      omega
end

section
variable {H : Type} {enc : TypeId × Value → H} {W : World} {base b0 : Nat} {r : Reach} {v : Value} {d : DataW H} {q : List MemPlace}

theorem open_head (hval : Value.okWide Try.prog W r b0 56 v) (h : DataW.Trod enc Try.prog W base (fun _ => true) true 56 v d q)
    (hw : ∀ x ∈ DataW.weights Try.prog 56 d, x ≤ reachBytes) :
    ∃ (s : Hd) (A : Option Addr) (c : Nat), v = .agg #[.int .i64 s.b, .int .i64 s.z, .string (str s.n), .int .i64 s.g, .bool s.c, .slice A s.p.length c] ∧ Row W A (iv s.p) ∧ s.p.length ≤ c ∧ s.p.length ≤ 17592186043904 ∧ s.n.length ≤ 140737488351232 ∧
      (-9223372036854775808 ≤ s.b ∧ s.b ≤ 9223372036854775807) ∧ (-9223372036854775808 ≤ s.z ∧ s.z ≤ 9223372036854775807) ∧ (-9223372036854775808 ≤ s.g ∧ s.g ≤ 9223372036854775807) ∧ ∀ x ∈ s.p, -9223372036854775808 ≤ x ∧ x ≤ 9223372036854775807 := by
  obtain ⟨cs, ys, n, rfl, hcl, hyl, rfl, hf⟩ := open_fields Try.underlying56 (by kernel_rfl) (by kernel_rfl) hval h
  have hwt : ∀ (j : Nat) (tj : TypeId) (y : DataW H × List MemPlace), ([3, 3, 9, 3, 4, 43] : List TypeId)[j]? = some tj → ys[j]? = some y → ∀ x ∈ DataW.weights Try.prog tj y.1, x ≤ reachBytes := by
    intro j tj y hj hy x hx
    refine hw x ?_
    have e : DataW.weights Try.prog 56 (.agg (ys.map (·.1))) = DataW.weightsEach Try.prog [3, 3, 9, 3, 4, 43] (ys.map (·.1)) := by
      simp only [DataW.weights, Try.underlying56]
      rfl
    rw [e]
    exact DataW.weights_mem_each hj (by rw [List.getElem?_map, hy]; rfl) x hx
  obtain ⟨u0, y0, c0, e0, t0⟩ := hf 0 _ rfl
  obtain ⟨u1, y1, c1, e1, t1⟩ := hf 1 _ rfl
  obtain ⟨u2, y2, c2, e2, t2⟩ := hf 2 _ rfl
  obtain ⟨u3, y3, c3, e3, t3⟩ := hf 3 _ rfl
  obtain ⟨u4, y4, c4, e4, t4⟩ := hf 4 _ rfl
  obtain ⟨u5, y5, c5, e5, t5⟩ := hf 5 _ rfl
  obtain ⟨b, hb, _, wb⟩ := DataW.trod_int Try.underlying3 t0
  obtain ⟨z, hz, _, wz⟩ := DataW.trod_int Try.underlying3 t1
  obtain ⟨s, hs, hs1, _⟩ := DataW.trod_string Try.underlying9 t2
  obtain ⟨g, hg, _, wg⟩ := DataW.trod_int Try.underlying3 t3
  obtain ⟨c, hc, _⟩ := DataW.trod_bool Try.underlying4 t4
  have w2 := hwt 2 _ y2 rfl e2
  rw [hs1] at w2
  have hsl : s.data.toList.length ≤ 140737488351232 := by
    have := w2 s.data.toList.length (by simp only [DataW.weights]; exact List.mem_cons_self ..)
    simpa [reachBytes] using this
  obtain ⟨A, m, k, l, hl, hlm, hrow, hmk, hk8, hlb⟩ := open_intsc Try.underlying43 Try.underlying3 (by kernel_rfl) (by kernel_rfl) t5 (hwt 5 _ y5 rfl e5)
  simp only [List.cons.injEq, and_true] at hb hz hs hg hc
  subst hb hz hs hg hc hl hlm
  have hcs : cs = #[.int .i64 b, .int .i64 z, .string s, .int .i64 g, .bool c, .slice A l.length k] := by
    have hcl' : cs.size = 6 := hcl
    apply Array.ext_getElem?
    intro i
    match i with
    | 0 => rw [c0]; rfl
    | 1 => rw [c1]; rfl
    | 2 => rw [c2]; rfl
    | 3 => rw [c3]; rfl
    | 4 => rw [c4]; rfl
    | 5 => rw [c5]; rfl
    | i + 6 => rw [Array.getElem?_eq_none (by omega), Array.getElem?_eq_none (by simp)]
  subst hcs
  refine ⟨⟨b, z, s.data.toList, g, c, l⟩, A, k, ?_, hrow, hmk, by simp only; omega, hsl, i64_of wb, i64_of wz, i64_of wg, hlb⟩
  simp only
  rw [← str_of]
end
end Go.Proofs.Ytbljacafmkdlmaa
