/- What a row's frame tells of arguments, in the words of the walks. No condition. -/
import Derived.Test.YtbljacafmkdlmaaBlk
import Derived.ProofKit
import Derived.OpenShut
import Derived.SizedLaws
import Derived.SliceStrings
namespace Go.Proofs.Ytbljacafmkdlmaa
open Go.RowKit Go.ChangeShapes Go.WideShapes Go.ChangeAt
open Go.ChangeMaps (open_string)

theorem u8_of {x : Int} (h : (Lit.int .u8 x).wf = true) : 0 ≤ x ∧ x ≤ 255 := by
  simpa [Lit.wf, IntKind.min, IntKind.max, IntKind.signed, IntKind.bits] using h
theorem i64_of {x : Int} (h : (Lit.int .i64 x).wf = true) : -9223372036854775808 ≤ x ∧ x ≤ 9223372036854775807 := by
  simpa [Lit.wf, IntKind.min, IntKind.max, IntKind.signed, IntKind.bits] using h

/-- A slice of bytes that came in. -/
theorem bytes_of {w : World} {a : Option Addr} {len cap : Nat} {zs : List Int}
    (h : (a = none ∧ len = 0 ∧ cap = 0 ∧ zs = []) ∨ ∃ x, a = some x ∧ len ≤ cap ∧ cap ≤ maxLen ∧ zs.length = cap ∧ (∀ i, i < zs.length → w.cell? (x.add i) = some (.int .u8 (zs.getD i 0))) ∧ ∀ n ∈ zs, (Lit.int .u8 n).wf = true) :
    ∃ l : List UInt8, l.length = len ∧ Row w a (bv l) ∧ len ≤ cap ∧ cap ≤ maxLen := by
  rcases h with ⟨rfl, rfl, rfl, rfl⟩ | ⟨x, rfl, hlc, hm, hz, hc, hw⟩
  · exact ⟨[], rfl, .inl rfl, Nat.le_refl _, Nat.zero_le _⟩
  · refine ⟨(zs.take len).map fun n => UInt8.ofNat n.toNat, by simp; omega, ?_, hlc, hm⟩
    by_cases h0 : len = 0
    · subst h0; exact .inl (by simp [bv])
    · have hx0 := hc 0 (by omega)
      have hsp : x.spot = none := by
        unfold World.cell? at hx0
        have hadd : x.add 0 = x := by simp [Addr.add]
        rw [hadd] at hx0
        split at hx0
        · cases hs : x.spot with
          | none => rfl
          | some _ => simp [hs] at hx0
        · cases hx0
      obtain ⟨g, o, s⟩ := x
      obtain rfl : s = none := hsp
      refine .inr ⟨g, o, rfl, fun j u hu => ?_⟩
      have hj : j < len := by
        have := (List.getElem?_eq_some_iff.1 hu).1
        simp [bv] at this
        omega
      have hcj := hc j (by omega)
      rw [addr_add] at hcj
      rw [hcj]
      have hzj : zs.getD j 0 = zs[j]'(by omega) := by simp [List.getD, show j < zs.length by omega]
      have hwj := u8_of (hw _ (List.getElem_mem (show j < zs.length by omega)))
      have hu2 : (bv ((zs.take len).map fun n => UInt8.ofNat n.toNat))[j]? = some (.int .u8 ((UInt8.ofNat (zs[j]'(by omega)).toNat).toNat : Int)) := by
        simp [bv, hj, show j < zs.length by omega]
      rw [hu2] at hu
      rw [← hu, hzj]
      congr 2
      rw [UInt8.toNat_ofNat']
      omega

section
variable {H : Type} {enc : TypeId × Value → H} {P : Program} {W : World} {base b0 : Nat} {r : Reach} {t e : TypeId} {v : Value} {d : DataW H} {ps : List MemPlace}

theorem weigh {ts : List TypeId} {ds : List (DataW H)} (h : (DataW.weightsEach P ts ds).all (· ≤ reachBytes) = true) {j : Nat} (ht : ts[j]? = some t) (hd : ds[j]? = some d) : ∀ x ∈ DataW.weights P t d, x ≤ reachBytes := fun x hx => by
  simpa using List.all_eq_true.1 h _ (DataW.weights_mem_each ht hd x hx)

theorem open_bytes (ht : P.underlying t = some (.slice e)) (he : P.underlying e = some (.int .u8)) (hc : P.cellsOf e = 1) (hby : P.bytesOf e = 1) (hval : Value.okWide P W r b0 t v)
    (h : DataW.Trod enc P W base (fun _ => true) true t v d ps) (hw : ∀ x ∈ DataW.weights P t d, x ≤ reachBytes) :
    ∃ A n c l, v = .slice A n c ∧ l.length = n ∧ Row W A (bv l) ∧ n ≤ c ∧ c ≤ 140737488351232 := by
  obtain ⟨A, n, c, rfl⟩ := okWide_slice ht hval
  obtain ⟨fuel, hf⟩ := h
  rcases open_ints ht he hc hf with ⟨hcs, _⟩ | ⟨x, l, c', zs, hcs, _, hl, hm, hz, hx, hcell, hwz⟩
  · simp [Value.cells] at hcs
    obtain ⟨rfl, rfl, rfl⟩ := hcs
    exact ⟨none, 0, 0, [], rfl, rfl, .inl rfl, Nat.le_refl _, Nat.zero_le _⟩
  · simp [Value.cells] at hcs
    obtain ⟨rfl, rfl, rfl⟩ := hcs
    simp only [if_true] at hz
    obtain ⟨l, h1, h2, h3, h4⟩ := bytes_of (w := W) (a := some x) (len := n) (cap := c) (zs := zs) (.inr ⟨x, rfl, hl, hm, hz, hcell, hwz⟩)
    refine ⟨some x, n, c, l, rfl, h1, h2, h3, ?_⟩
    simp only [Prod.mk.injEq] at hx
    obtain ⟨rfl, _⟩ := hx
    have h5 := hw _ (by simp only [DataW.weights, ht]; exact List.mem_cons_self ..)
    rw [hby] at h5
    simp only [lits, List.length_map, List.length_take, List.length_drop, reachBytes] at h5
    omega

theorem open_intsl (ht : P.underlying t = some (.slice e)) (he : P.underlying e = some (.int .i64)) (hc : P.cellsOf e = 1) (hby : P.bytesOf e = 8) (hval : Value.okWide P W r b0 t v)
    (h : DataW.Trod enc P W base (fun _ => true) true t v d ps) (hw : ∀ x ∈ DataW.weights P t d, x ≤ reachBytes) :
    ∃ A n c l, v = .slice A n c ∧ l.length = n ∧ Row W A (iv l) ∧ n ≤ c ∧ c * 8 ≤ 140737488351232 ∧ ∀ x ∈ l, -9223372036854775808 ≤ x ∧ x ≤ 9223372036854775807 := by
  obtain ⟨A, n, c, rfl⟩ := okWide_slice ht hval
  obtain ⟨fuel, hf⟩ := h
  rcases open_ints ht he hc hf with ⟨hcs, _⟩ | ⟨x, l, c', zs, hcs, _, hl, hm, hz, hx, hcell, hwz⟩
  · simp [Value.cells] at hcs
    obtain ⟨rfl, rfl, rfl⟩ := hcs
    exact ⟨none, 0, 0, [], rfl, rfl, .inl rfl, Nat.le_refl _, by omega, fun x hx => by cases hx⟩
  · simp [Value.cells] at hcs
    obtain ⟨rfl, rfl, rfl⟩ := hcs
    simp only [if_true] at hz
    refine ⟨some x, n, c, zs.take n, rfl, by simp; omega, ?_, hl, ?_, fun y hy => i64_of (hwz y (List.mem_of_mem_take hy))⟩
    · by_cases h0 : n = 0
      · subst h0; exact .inl (by simp [iv])
      · have hx0 := hcell 0 (by omega)
        have hsp : x.spot = none := by
          unfold World.cell? at hx0
          have hadd : x.add 0 = x := by simp [Addr.add]
          rw [hadd] at hx0
          split at hx0
          · cases hs : x.spot with
            | none => rfl
            | some _ => simp [hs] at hx0
          · cases hx0
        obtain ⟨g, o, s⟩ := x
        obtain rfl : s = none := hsp
        refine .inr ⟨g, o, rfl, fun j u hu => ?_⟩
        have hj : j < n := by
          have := (List.getElem?_eq_some_iff.1 hu).1
          simp [iv] at this
          omega
        have hcj := hcell j (by omega)
        rw [addr_add] at hcj
        rw [hcj, ← hu]
        simp [iv, hj, List.getD, show j < zs.length by omega]
    · simp only [Prod.mk.injEq] at hx
      obtain ⟨rfl, _⟩ := hx
      have h5 := hw _ (by simp only [DataW.weights, ht]; exact List.mem_cons_self ..)
      rw [hby] at h5
      simp only [lits, List.length_map, List.length_take, List.length_drop, reachBytes] at h5
      omega
end
end Go.Proofs.Ytbljacafmkdlmaa
