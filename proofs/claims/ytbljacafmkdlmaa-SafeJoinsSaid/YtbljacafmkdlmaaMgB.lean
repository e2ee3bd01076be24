/- Several texts in one: Struct, Open. -/
import Derived.Test.YtbljacafmkdlmaaBlk
import Derived.Deep.Slices
import Derived.Deep.Fields
import Derived.ChangeSame
import Derived.ProofKit
import Derived.OpenShut
import Derived.SizedLaws
import Derived.SliceStrings
/- A slice of structs that came in, opened to its cells. Over any program. Condition: each field is one cell. -/
namespace Go.Proofs.Ytbljacafmkdlmaa
open Go.RowKit Go.ChangeShapes Go.WideShapes Go.Deep

theorem choose_list {α : Type} {R : Nat → α → Prop} : ∀ n, (∀ i, i < n → ∃ x, R i x) → ∃ l : List α, l.length = n ∧ ∀ i (h : i < l.length), R i l[i]
  | 0, _ => ⟨[], rfl, fun i h => by simp at h⟩
  | n + 1, h => by
    obtain ⟨l, hl, hr⟩ := choose_list n (fun i hi => h i (by omega))
    obtain ⟨x, hx⟩ := h n (by omega)
    refine ⟨l ++ [x], by simp [hl], fun i hi => ?_⟩
    rw [List.length_append, List.length_singleton] at hi
    by_cases hin : i < l.length
    · rw [List.getElem_append_left hin]
      exact hr i hin
    · obtain rfl : i = l.length := by omega
      rw [List.getElem_append_right (by omega)]
      simp only [Nat.sub_self, List.getElem_cons_zero]
      rw [hl]
      exact hx

section
variable {H : Type} {enc : TypeId × Value → H} {P : Program} {W : World} {base b0 : Nat} {r : Reach} {t e : TypeId} {v : Value} {d : DataW H} {ps : List MemPlace} {fs : Array Field}

theorem open_structs (ht : P.underlying t = some (.slice e)) (he : P.underlying e = some (.struct fs)) (hone : oneCellFields P fs = true) (hC : P.cellsOf e = fs.size) (hpos : 0 < fs.size) (hval : Value.okWide P W r b0 t v)
    (h : DataW.Trod enc P W base (fun _ => true) true t v d ps) :
    ∃ A n c, v = .slice A n c ∧ n ≤ c ∧ c ≤ maxLen ∧ (n = 0 ∨ ∃ g o, A = some ⟨g, o, none⟩ ∧ ∃ (D : Nat → DataW H) (spare : List (DataW H)), d = .slice ((List.range n).map D) spare ∧
      ∀ i, i < n → ∃ (ys : List (DataW H × List MemPlace)) (k : Nat), D i = .agg (ys.map (·.1)) ∧ ys.length = fs.size ∧
        ∀ (j : Nat) (f : Field), fs[j]? = some f → ∃ (u : Value) (y : DataW H × List MemPlace), W.cell? ⟨g, o + (i * fs.size + j), none⟩ = some u ∧ ys[j]? = some y ∧ DataW.trod enc P W base (fun _ => true) true k f.type [u] = some y) := by
  obtain ⟨A, n, c, rfl⟩ := okWide_slice ht hval
  obtain ⟨fuel, hf⟩ := h
  rcases open_slice ht hf with ⟨hcs, _⟩ | ⟨a, len, cap, m, k, D, Pl, hcs, hb, hl, hm, hmm, hx, hi⟩
  · simp [Value.cells] at hcs
    obtain ⟨rfl, rfl, rfl⟩ := hcs
    exact ⟨none, 0, 0, rfl, Nat.le_refl _, Nat.zero_le _, .inl rfl⟩
  · simp [Value.cells] at hcs
    obtain ⟨rfl, rfl, rfl⟩ := hcs
    refine ⟨some a, n, c, rfl, hl, hm, ?_⟩
    by_cases h0 : n = 0
    · exact .inl h0
    right
    simp only [if_true] at hmm
    have key : ∀ i, i < n → ∃ (ys : List (DataW H × List MemPlace)) (k : Nat), D i = .agg (ys.map (·.1)) ∧ ys.length = fs.size ∧
        ∀ (j : Nat) (f : Field), fs[j]? = some f → ∃ (u : Value) (y : DataW H × List MemPlace), W.cell? (a.add (i * fs.size + j)) = some u ∧ ys[j]? = some y ∧ DataW.trod enc P W base (fun _ => true) true k f.type [u] = some y := by
      intro i hin
      obtain ⟨cs', hc, ht'⟩ := hi i (by omega)
      rw [hC] at hc
      obtain ⟨ys, k', _, hy, hlen, hyl, hfl⟩ := DataW.trod_struct he ht'
      obtain ⟨_, hcl, hat⟩ := World.cells?_some hc
      simp only [Prod.mk.injEq] at hy
      refine ⟨ys, k', hy.1, hyl, fun j f hj => ?_⟩
      obtain ⟨ho, hk⟩ := hone_of hone j f hj
      have hjl : j < fs.size := (Array.getElem?_eq_some_iff.1 hj).1
      have hcell := hat j hjl
      have hv : cs'[j]? = some (cs'[j]'(by omega)) := List.getElem?_eq_getElem (by omega)
      have h1 := hfl j f hj
      rw [ho, hk] at h1
      have h2 : (cs'.drop j).take 1 = [cs'[j]'(by omega)] := by
        rw [List.drop_eq_getElem_cons (by omega)]
        rfl
      rw [h2] at h1
      have hys : ys[j]? = some (ys[j]'(by omega)) := List.getElem?_eq_getElem (by omega)
      exact ⟨_, _, by rw [← Go.Deep.add_add, hcell, hv], hys, h1.trans hys⟩
    have hsp : a.spot = none := by
      obtain ⟨ys, k', _, _, hfl⟩ := key 0 (by omega)
      obtain ⟨u, y, hu, _⟩ := hfl 0 fs[0] (Array.getElem?_eq_getElem hpos)
      unfold World.cell? at hu
      have hadd : a.add (0 * fs.size + 0) = a := by simp [Addr.add]
      rw [hadd] at hu
      split at hu
      · cases hs : a.spot with
        | none => rfl
        | some _ => simp [hs] at hu
      · cases hu
    obtain ⟨g, o, s⟩ := a
    obtain rfl : s = none := hsp
    simp only [Prod.mk.injEq] at hx
    refine ⟨g, o, rfl, D, _, hx.1, fun i hin => ?_⟩
    obtain ⟨ys, k', h1, h2, h3⟩ := key i hin
    refine ⟨ys, k', h1, h2, fun j f hj => ?_⟩
    obtain ⟨u, y, h4, h5, h6⟩ := h3 j f hj
    rw [addr_add] at h4
    exact ⟨u, y, h4, h5, h6⟩
end
end Go.Proofs.Ytbljacafmkdlmaa

/- What a row's frame tells of arguments, in the words of the walks. No condition. -/
namespace Go.Proofs.Ytbljacafmkdlmaa
open Go.RowKit Go.ChangeShapes Go.WideShapes Go.ChangeAt
open Go.ChangeMaps (open_string)

theorem u8_of {x : Int} (h : (Lit.int .u8 x).wf = true) : 0 ≤ x ∧ x ≤ 255 := by
  simpa [Lit.wf, IntKind.min, IntKind.max, IntKind.signed, IntKind.bits] using h
theorem i64_of {x : Int} (h : (Lit.int .i64 x).wf = true) : -9223372036854775808 ≤ x ∧ x ≤ 9223372036854775807 := by
  simpa [Lit.wf, IntKind.min, IntKind.max, IntKind.signed, IntKind.bits] using h

/-- A slice of bytes that came in. -/
theorem bytes_of {w : World} {a : Option Addr} {len cap : Nat} {zs : List Int}
    (h : (a = none ∧ len = 0 ∧ cap = 0 ∧ zs = []) ∨ ∃ x, a = some x ∧ len ≤ cap ∧ cap ≤ maxLen ∧ zs.length = cap ∧ (∀ i, i < zs.length → w.cell? (x.add i) = some (.int .u8 (zs.getD i 0))) ∧ ∀ n ∈ zs, (Lit.int .u8 n).wf = true) :
    ∃ l : List UInt8, l.length = len ∧ Row w a (bv l) ∧ len ≤ cap ∧ cap ≤ maxLen := by
  rcases h with ⟨rfl, rfl, rfl, rfl⟩ | ⟨x, rfl, hlc, hm, hz, hc, hw⟩
  · exact ⟨[], rfl, .inl rfl, Nat.le_refl _, Nat.zero_le _⟩
  · refine ⟨(zs.take len).map fun n => UInt8.ofNat n.toNat, by simp; omega, ?_, hlc, hm⟩
    by_cases h0 : len = 0
    · subst h0; exact .inl (by simp [bv])
    · have hx0 := hc 0 (by omega)
      have hsp : x.spot = none := by
        unfold World.cell? at hx0
        have hadd : x.add 0 = x := by simp [Addr.add]
        rw [hadd] at hx0
        split at hx0
        · cases hs : x.spot with
          | none => rfl
          | some _ => simp [hs] at hx0
        · cases hx0
      obtain ⟨g, o, s⟩ := x
      obtain rfl : s = none := hsp
      refine .inr ⟨g, o, rfl, fun j u hu => ?_⟩
      have hj : j < len := by
        have := (List.getElem?_eq_some_iff.1 hu).1
        simp [bv] at this
        omega
      have hcj := hc j (by omega)
      rw [addr_add] at hcj
      rw [hcj]
      have hzj : zs.getD j 0 = zs[j]'(by omega) := by simp [List.getD, show j < zs.length by omega]
      have hwj := u8_of (hw _ (List.getElem_mem (show j < zs.length by omega)))
      have hu2 : (bv ((zs.take len).map fun n => UInt8.ofNat n.toNat))[j]? = some (.int .u8 ((UInt8.ofNat (zs[j]'(by omega)).toNat).toNat : Int)) := by
        simp [bv, hj, show j < zs.length by omega]
      rw [hu2] at hu
      rw [← hu, hzj]
      congr 2
      rw [UInt8.toNat_ofNat']
      omega

section
variable {H : Type} {enc : TypeId × Value → H} {P : Program} {W : World} {base b0 : Nat} {r : Reach} {t e : TypeId} {v : Value} {d : DataW H} {ps : List MemPlace}

theorem weigh {ts : List TypeId} {ds : List (DataW H)} (h : (DataW.weightsEach P ts ds).all (· ≤ reachBytes) = true) {j : Nat} (ht : ts[j]? = some t) (hd : ds[j]? = some d) : ∀ x ∈ DataW.weights P t d, x ≤ reachBytes := fun x hx => by
  simpa using List.all_eq_true.1 h _ (DataW.weights_mem_each ht hd x hx)

theorem open_bytes (ht : P.underlying t = some (.slice e)) (he : P.underlying e = some (.int .u8)) (hc : P.cellsOf e = 1) (hby : P.bytesOf e = 1) (hval : Value.okWide P W r b0 t v)
    (h : DataW.Trod enc P W base (fun _ => true) true t v d ps) (hw : ∀ x ∈ DataW.weights P t d, x ≤ reachBytes) :
    ∃ A n c l, v = .slice A n c ∧ l.length = n ∧ Row W A (bv l) ∧ n ≤ c ∧ c ≤ 140737488351232 := by
  obtain ⟨A, n, c, rfl⟩ := okWide_slice ht hval
  obtain ⟨fuel, hf⟩ := h
  rcases open_ints ht he hc hf with ⟨hcs, _⟩ | ⟨x, l, c', zs, hcs, _, hl, hm, hz, hx, hcell, hwz⟩
  · simp [Value.cells] at hcs
    obtain ⟨rfl, rfl, rfl⟩ := hcs
    exact ⟨none, 0, 0, [], rfl, rfl, .inl rfl, Nat.le_refl _, Nat.zero_le _⟩
  · simp [Value.cells] at hcs
    obtain ⟨rfl, rfl, rfl⟩ := hcs
    simp only [if_true] at hz
    obtain ⟨l, h1, h2, h3, h4⟩ := bytes_of (w := W) (a := some x) (len := n) (cap := c) (zs := zs) (.inr ⟨x, rfl, hl, hm, hz, hcell, hwz⟩)
    refine ⟨some x, n, c, l, rfl, h1, h2, h3, ?_⟩
    simp only [Prod.mk.injEq] at hx
    obtain ⟨rfl, _⟩ := hx
    have h5 := hw _ (by simp only [DataW.weights, ht]; exact List.mem_cons_self ..)
    rw [hby] at h5
    simp only [lits, List.length_map, List.length_take, List.length_drop, reachBytes] at h5
    omega

theorem open_intsl (ht : P.underlying t = some (.slice e)) (he : P.underlying e = some (.int .i64)) (hc : P.cellsOf e = 1) (hby : P.bytesOf e = 8) (hval : Value.okWide P W r b0 t v)
    (h : DataW.Trod enc P W base (fun _ => true) true t v d ps) (hw : ∀ x ∈ DataW.weights P t d, x ≤ reachBytes) :
    ∃ A n c l, v = .slice A n c ∧ l.length = n ∧ Row W A (iv l) ∧ n ≤ c ∧ c * 8 ≤ 140737488351232 ∧ ∀ x ∈ l, -9223372036854775808 ≤ x ∧ x ≤ 9223372036854775807 := by
  obtain ⟨A, n, c, rfl⟩ := okWide_slice ht hval
  obtain ⟨fuel, hf⟩ := h
  rcases open_ints ht he hc hf with ⟨hcs, _⟩ | ⟨x, l, c', zs, hcs, _, hl, hm, hz, hx, hcell, hwz⟩
  · simp [Value.cells] at hcs
    obtain ⟨rfl, rfl, rfl⟩ := hcs
    exact ⟨none, 0, 0, [], rfl, rfl, .inl rfl, Nat.le_refl _, by omega, fun x hx => by cases hx⟩
  · simp [Value.cells] at hcs
    obtain ⟨rfl, rfl, rfl⟩ := hcs
    simp only [if_true] at hz
    refine ⟨some x, n, c, zs.take n, rfl, by simp; omega, ?_, hl, ?_, fun y hy => i64_of (hwz y (List.mem_of_mem_take hy))⟩
    · by_cases h0 : n = 0
      · subst h0; exact .inl (by simp [iv])
      · have hx0 := hcell 0 (by omega)
        have hsp : x.spot = none := by
          unfold World.cell? at hx0
          have hadd : x.add 0 = x := by simp [Addr.add]
          rw [hadd] at hx0
          split at hx0
          · cases hs : x.spot with
            | none => rfl
            | some _ => simp [hs] at hx0
          · cases hx0
        obtain ⟨g, o, s⟩ := x
        obtain rfl : s = none := hsp
        refine .inr ⟨g, o, rfl, fun j u hu => ?_⟩
        have hj : j < n := by
          have := (List.getElem?_eq_some_iff.1 hu).1
          simp [iv] at this
          omega
        have hcj := hcell j (by omega)
        rw [addr_add] at hcj
        rw [hcj, ← hu]
        simp [iv, hj, List.getD, show j < zs.length by omega]
    · simp only [Prod.mk.injEq] at hx
      obtain ⟨rfl, _⟩ := hx
      have h5 := hw _ (by simp only [DataW.weights, ht]; exact List.mem_cons_self ..)
      rw [hby] at h5
      simp only [lits, List.length_map, List.length_take, List.length_drop, reachBytes] at h5
      omega
end
end Go.Proofs.Ytbljacafmkdlmaa
