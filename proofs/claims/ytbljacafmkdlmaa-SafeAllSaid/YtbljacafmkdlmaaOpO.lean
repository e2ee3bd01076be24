/- Arguments that are calls on a store, and rows of them, opened to their parts. No condition. -/
import Derived.Test.YtbljacafmkdlmaaStruct
import Derived.Test.YtbljacafmkdlmaaOpen
import Derived.Test.YtbljacafmkdlmaaChecked
import Derived.Test.YtbljacafmkdlmaaStP
import Derived.Deep.Fields
import Derived.ChangeArms
namespace Go.Proofs.Ytbljacafmkdlmaa
set_option maxRecDepth 100000
open Go.RowKit Go.ChangeShapes Go.WideShapes Go.ChangeAt Go.Deep

structure Opv where
  o : Opn
  D : Option Addr
  dc : Nat
  K : Option Addr
  kc : Nat
def Opv.cells (p : Opv) : List Value := [.int .i64 p.o.kind, .int .i64 p.o.at_, .int .i64 p.o.n, .slice p.D p.o.b.length p.dc, .slice p.K p.o.keep.length p.kc]
def ocells (ps : List Opv) : List Value := ps.flatMap Opv.cells
theorem ocells_length (ps : List Opv) : (ocells ps).length = ps.length * 5 := by
  unfold ocells
  induction ps with
  | nil => rfl
  | cons p ps ih =>
    rw [List.flatMap_cons, List.length_append, ih, List.length_cons]
    show 5 + _ = _
    omega
theorem ocells_at {ps : List Opv} {i j : Nat} (hi : i < ps.length) (hj : j < 5) : (ocells ps)[i * 5 + j]? = (ps[i].cells)[j]? := by
  unfold ocells
  induction ps generalizing i with
  | nil => simp at hi
  | cons p ps ih =>
    rw [List.flatMap_cons]
    have h4 : p.cells.length = 5 := rfl
    cases i with
    | zero => rw [List.getElem?_append_left (by omega)]; simp
    | succ i =>
      rw [List.getElem?_append_right (by omega), h4, show (i + 1) * 5 + j - 5 = i * 5 + j by omega, ih (by simpa using hi)]
      rfl
theorem Row.opv {w : World} {A : Option Addr} {ps : List Opv} (h : Row w A (ocells ps)) {i : Nat} (hi : i < ps.length) : ∃ g o, A = some ⟨g, o, none⟩ ∧ g < w.heap.size ∧
    w.cell? ⟨g, o + i * 5, none⟩ = some (.int .i64 ps[i].o.kind) ∧ w.cell? ⟨g, o + i * 5 + 1, none⟩ = some (.int .i64 ps[i].o.at_) ∧ w.cell? ⟨g, o + i * 5 + 2, none⟩ = some (.int .i64 ps[i].o.n) ∧
    w.cell? ⟨g, o + i * 5 + 3, none⟩ = some (.slice ps[i].D ps[i].o.b.length ps[i].dc) ∧ w.cell? ⟨g, o + i * 5 + 4, none⟩ = some (.slice ps[i].K ps[i].o.keep.length ps[i].kc) := by
  obtain ⟨g, o, hA, hg, hc⟩ := h.at_ (by rw [ocells_length]; omega)
  have at_ : ∀ j, j < 5 → ∀ v, ps[i].cells[j]? = some v → w.cell? ⟨g, o + i * 5 + j, none⟩ = some v := fun j hj v hv => by
    rw [Nat.add_assoc]
    exact hc _ _ ((ocells_at hi hj).trans hv)
  exact ⟨g, o, hA, hg, at_ 0 (by omega) _ rfl, at_ 1 (by omega) _ rfl, at_ 2 (by omega) _ rfl, at_ 3 (by omega) _ rfl, at_ 4 (by omega) _ rfl⟩
/-- What is told of a call's parts. -/
structure Opv.Good (w : World) (p : Opv) : Prop where
  rb : Row w p.D (bv p.o.b)
  hb : p.o.b.length ≤ p.dc
  lb : p.o.b.length ≤ 140737488355328
  rk : Row w p.K (iv p.o.keep)
  hk : p.o.keep.length ≤ p.kc
  lk : p.o.keep.length ≤ 140737488355328
  ik : ∀ x ∈ p.o.keep, -9223372036854775808 ≤ x ∧ x ≤ 9223372036854775807
  ia : -9223372036854775808 ≤ p.o.at_ ∧ p.o.at_ ≤ 9223372036854775807
  in_ : -9223372036854775808 ≤ p.o.n ∧ p.o.n ≤ 9223372036854775807
  ii : -9223372036854775808 ≤ p.o.kind ∧ p.o.kind ≤ 9223372036854775807

section
variable {H : Type} {enc : TypeId × Value → H} {P : Program} {W : World} {base b0 : Nat} {r : Reach} {t e : TypeId} {v : Value} {d : DataW H} {ps : List MemPlace} {fs : Array Field}

theorem weightsAll_mem {e : TypeId} : ∀ {ds : List (DataW H)} {d : DataW H}, d ∈ ds → ∀ n ∈ d.weights P e, n ∈ DataW.weightsAll P e ds
  | x :: ds, d, h, n, hn => by
    simp only [DataW.weightsAll, List.mem_append]
    rcases List.mem_cons.1 h with rfl | h
    · exact .inl hn
    · exact .inr (weightsAll_mem h n hn)

/-- A struct by value, all of whose fields are one cell each. -/
theorem open_fields (hs : P.underlying t = some (.struct fs)) (hone : oneCellFields P fs = true) (hC : P.cellsOf t = fs.size) (hval : Value.okWide P W r b0 t v)
    (h : DataW.Trod enc P W base (fun _ => true) true t v d ps) :
    ∃ (cs : Array Value) (ys : List (DataW H × List MemPlace)) (n : Nat), v = .agg cs ∧ cs.size = fs.size ∧ ys.length = fs.size ∧ d = .agg (ys.map (·.1)) ∧
      ∀ (j : Nat) (f : Field), fs[j]? = some f → ∃ (u : Value) (y : DataW H × List MemPlace), cs[j]? = some u ∧ ys[j]? = some y ∧ DataW.trod enc P W base (fun _ => true) true n f.type [u] = some y := by
  obtain ⟨cs, rfl, hsz⟩ := okWide_struct hs hval
  obtain ⟨fuel, hf⟩ := h
  obtain ⟨ys, n, _, hy, hlen, hyl, hfl⟩ := DataW.trod_struct hs hf
  simp only [Prod.mk.injEq] at hy
  have hsz' : cs.size = fs.size := hsz.trans hC
  refine ⟨cs, ys, n, rfl, hsz', hyl, hy.1, fun j f hj => ?_⟩
  obtain ⟨ho, hk⟩ := hone_of hone j f hj
  have hjl : j < fs.size := (Array.getElem?_eq_some_iff.1 hj).1
  have h1 := hfl j f hj
  rw [ho, hk] at h1
  have hv : (Value.agg cs).cells.toList = cs.toList := by simp [Value.cells]
  have h2 : ((Value.agg cs).cells.toList.drop j).take 1 = [cs[j]'(by omega)] := by
    rw [hv, List.drop_eq_getElem_cons (by simp; omega)]
    simp
  have h3 : ((Value.agg cs).cells.toList.drop j).take 1 = [cs[j]'(by omega)] := h2
  first
    | rw [h3] at h1
    | (simp only [Value.cells] at h1 h3; rw [h3] at h1)
  exact ⟨_, ys[j]'(by omega), Array.getElem?_eq_getElem (by omega), List.getElem?_eq_getElem (by omega), h1.trans (List.getElem?_eq_getElem (by omega))⟩

/-- A cell that is a slice of integers. -/
theorem open_intsc (ht : P.underlying t = some (.slice e)) (he : P.underlying e = some (.int .i64)) (hc : P.cellsOf e = 1) (hby : P.bytesOf e = 8) {n0 : Nat} {u : Value} {y : DataW H × List MemPlace}
    (hf : DataW.trod enc P W base (fun _ => true) true n0 t [u] = some y) (hw : ∀ x ∈ DataW.weights P t y.1, x ≤ reachBytes) :
    ∃ A n c l, u = .slice A n c ∧ l.length = n ∧ Row W A (iv l) ∧ n ≤ c ∧ n ≤ 140737488355328 ∧ ∀ x ∈ l, -9223372036854775808 ≤ x ∧ x ≤ 9223372036854775807 := by
  rcases open_ints ht he hc hf with ⟨hcs, _⟩ | ⟨x, n, c, zs, hcs, _, hl, hm, hz, hx, hcell, hwz⟩
  · simp at hcs
    subst hcs
    exact ⟨none, 0, 0, [], rfl, rfl, .inl rfl, Nat.le_refl _, by omega, fun x hx => by cases hx⟩
  · simp at hcs
    subst hcs
    simp only [if_true] at hz
    refine ⟨some x, n, c, zs.take n, rfl, by simp; omega, ?_, hl, ?_, fun y hy => i64_of (hwz y (List.mem_of_mem_take hy))⟩
    · by_cases h0 : n = 0
      · subst h0; exact .inl (by simp [iv])
      · have hx0 := hcell 0 (by omega)
        have hsp : x.spot = none := by
          unfold World.cell? at hx0
          have hadd : x.add 0 = x := by simp [Addr.add]
          rw [hadd] at hx0
          split at hx0
          · cases hs : x.spot with
            | none => rfl
            | some _ => simp [hs] at hx0
          · cases hx0
        obtain ⟨g, o, s⟩ := x
        obtain rfl : s = none := hsp
        refine .inr ⟨g, o, rfl, fun j u hu => ?_⟩
        have hj : j < n := by
          have := (List.getElem?_eq_some_iff.1 hu).1
          simp [iv] at this
          omega
        have hcj := hcell j (by omega)
        rw [addr_add] at hcj
        rw [hcj, ← hu]
        simp [iv, hj, List.getD, show j < zs.length by omega]
    · have hx1 : y.1 = .slice (lits .i64 (zs.take n)) (lits .i64 (zs.drop n)) := by rw [hx]
      have h5 := hw _ (by rw [hx1]; simp only [DataW.weights, ht]; exact List.mem_cons_self ..)
      rw [hby] at h5
      simp only [lits, List.length_map, List.length_take, List.length_drop, reachBytes] at h5
      omega
/-- A cell that is a slice of bytes. -/
theorem open_bytesc (ht : P.underlying t = some (.slice e)) (he : P.underlying e = some (.int .u8)) (hc : P.cellsOf e = 1) (hby : P.bytesOf e = 1) {n0 : Nat} {u : Value} {y : DataW H × List MemPlace}
    (hf : DataW.trod enc P W base (fun _ => true) true n0 t [u] = some y) (hw : ∀ x ∈ DataW.weights P t y.1, x ≤ reachBytes) :
    ∃ A n c l, u = .slice A n c ∧ l.length = n ∧ Row W A (bv l) ∧ n ≤ c ∧ n ≤ 140737488355328 := by
  rcases open_ints ht he hc hf with ⟨hcs, _⟩ | ⟨x, n, c, zs, hcs, _, hl, hm, hz, hx, hcell, hwz⟩
  · simp at hcs
    subst hcs
    exact ⟨none, 0, 0, [], rfl, rfl, .inl rfl, Nat.le_refl _, by omega⟩
  · simp at hcs
    subst hcs
    simp only [if_true] at hz
    obtain ⟨l, hl1, hl2, hl3, _⟩ := bytes_of (w := W) (a := some x) (len := n) (cap := c) (zs := zs) (.inr ⟨x, rfl, hl, hm, hz, hcell, hwz⟩)
    refine ⟨some x, n, c, l, rfl, hl1, hl2, hl3, ?_⟩
    have hx1 : y.1 = .slice (lits .u8 (zs.take n)) (lits .u8 (zs.drop n)) := by rw [hx]
    have h5 := hw _ (by rw [hx1]; simp only [DataW.weights, ht]; exact List.mem_cons_self ..)
    rw [hby] at h5
    simp only [lits, List.length_map, List.length_take, List.length_drop, reachBytes] at h5
    omega
end

section
variable {H : Type} {enc : TypeId × Value → H} {W : World} {base b0 : Nat} {r : Reach} {v : Value} {d : DataW H} {q : List MemPlace}

/-- One call's fields, read. -/
theorem opv_of {ys : List (DataW H × List MemPlace)} {k : Nat} (hw : ∀ (j : Nat) (tj : TypeId) (y : DataW H × List MemPlace), ([3, 3, 3, 23, 43] : List TypeId)[j]? = some tj → ys[j]? = some y → ∀ x ∈ DataW.weights Try.prog tj y.1, x ≤ reachBytes)
    {u0 u1 u2 u3 u4 : Value} {y0 y1 y2 y3 y4 : DataW H × List MemPlace} (_e0 : ys[0]? = some y0) (_e1 : ys[1]? = some y1) (_e2 : ys[2]? = some y2) (e3 : ys[3]? = some y3) (e4 : ys[4]? = some y4)
    (t0 : DataW.trod enc Try.prog W base (fun _ => true) true k 3 [u0] = some y0) (t1 : DataW.trod enc Try.prog W base (fun _ => true) true k 3 [u1] = some y1) (t2 : DataW.trod enc Try.prog W base (fun _ => true) true k 3 [u2] = some y2)
    (t3 : DataW.trod enc Try.prog W base (fun _ => true) true k 23 [u3] = some y3) (t4 : DataW.trod enc Try.prog W base (fun _ => true) true k 43 [u4] = some y4) :
    ∃ p : Opv, p.Good W ∧ p.cells = [u0, u1, u2, u3, u4] := by
  obtain ⟨ki, h0, _, w0⟩ := DataW.trod_int Try.underlying3 t0
  obtain ⟨ai, h1, _, w1⟩ := DataW.trod_int Try.underlying3 t1
  obtain ⟨ni, h2, _, w2⟩ := DataW.trod_int Try.underlying3 t2
  obtain ⟨A, m, c, l, h3, hl, hr, hmc, hm⟩ := open_bytesc Try.underlying23 Try.underlying5 (by kernel_rfl) (by kernel_rfl) t3 (hw 3 _ y3 rfl e3)
  obtain ⟨A2, m2, c2, l2, h4, hl2, hr2, hmc2, hm2, hb2⟩ := open_intsc Try.underlying43 Try.underlying3 (by kernel_rfl) (by kernel_rfl) t4 (hw 4 _ y4 rfl e4)
  simp only [List.cons.injEq, and_true] at h0 h1 h2
  subst h0 h1 h2 h3 h4 hl hl2
  exact ⟨⟨⟨ki, ai, ni, l, l2⟩, A, c, A2, c2⟩, ⟨hr, hmc, hm, hr2, hmc2, hm2, hb2, i64_of w1, i64_of w2, i64_of w0⟩, rfl⟩

theorem open_op (hval : Value.okWide Try.prog W r b0 45 v) (h : DataW.Trod enc Try.prog W base (fun _ => true) true 45 v d q)
    (hw : ∀ x ∈ DataW.weights Try.prog 45 d, x ≤ reachBytes) : ∃ p : Opv, v = .agg p.cells.toArray ∧ p.Good W := by
  obtain ⟨cs, ys, n, rfl, hcl, hyl, rfl, hf⟩ := open_fields Try.underlying45 (by kernel_rfl) (by kernel_rfl) hval h
  have hwt : ∀ (j : Nat) (tj : TypeId) (y : DataW H × List MemPlace), ([3, 3, 3, 23, 43] : List TypeId)[j]? = some tj → ys[j]? = some y → ∀ x ∈ DataW.weights Try.prog tj y.1, x ≤ reachBytes := by
    intro j tj y hj hy x hx
    refine hw x ?_
    have e : DataW.weights Try.prog 45 (.agg (ys.map (·.1))) = DataW.weightsEach Try.prog [3, 3, 3, 23, 43] (ys.map (·.1)) := by
      simp only [DataW.weights, Try.underlying45]
      rfl
    rw [e]
    exact DataW.weights_mem_each hj (by rw [List.getElem?_map, hy]; rfl) x hx
  obtain ⟨u0, y0, c0, e0, t0⟩ := hf 0 _ rfl
  obtain ⟨u1, y1, c1, e1, t1⟩ := hf 1 _ rfl
  obtain ⟨u2, y2, c2, e2, t2⟩ := hf 2 _ rfl
  obtain ⟨u3, y3, c3, e3, t3⟩ := hf 3 _ rfl
  obtain ⟨u4, y4, c4, e4, t4⟩ := hf 4 _ rfl
  obtain ⟨p, hp, hpc⟩ := opv_of hwt e0 e1 e2 e3 e4 t0 t1 t2 t3 t4
  refine ⟨p, ?_, hp⟩
  rw [hpc]
  congr 1
  have hcl' : cs.size = 5 := hcl
  apply Array.ext_getElem?
  intro i
  match i with
  | 0 => rw [c0]; rfl
  | 1 => rw [c1]; rfl
  | 2 => rw [c2]; rfl
  | 3 => rw [c3]; rfl
  | 4 => rw [c4]; rfl
  | i + 5 => rw [Array.getElem?_eq_none (by omega), Array.getElem?_eq_none (by simp)]

theorem open_ops (hval : Value.okWide Try.prog W r b0 22 v) (h : DataW.Trod enc Try.prog W base (fun _ => true) true 22 v d q)
    (hw : ∀ x ∈ DataW.weights Try.prog 22 d, x ≤ reachBytes) :
    ∃ A n c ps, v = .slice A n c ∧ ps.length = n ∧ Row W A (ocells ps) ∧ n ≤ c ∧ n ≤ 140737488355328 ∧ (∀ p ∈ ps, Opv.Good W p) ∧ (n = 0 ∨ ∃ elems spare, d = .slice elems spare ∧ elems.length = n) := by
  obtain ⟨A, n, c, rfl, hnc, hc, h0 | ⟨g, o, rfl, D, spare, rfl, hD⟩⟩ := open_structs Try.underlying22 Try.underlying45 (by kernel_rfl) (by kernel_rfl) (by decide) hval h
  · subst h0
    exact ⟨A, 0, c, [], rfl, rfl, .inl rfl, hnc, Nat.zero_le _, (fun p hp => by cases hp), .inl rfl⟩
  · have hex : ∀ i, i < n → ∃ p : Opv, p.Good W ∧ ∀ j u, p.cells[j]? = some u → W.cell? ⟨g, o + (i * 5 + j), none⟩ = some u := by
      intro i hi
      obtain ⟨ys, m, hDi, hyl, hf⟩ := hD i hi
      have hwt : ∀ (j : Nat) (tj : TypeId) (y : DataW H × List MemPlace), ([3, 3, 3, 23, 43] : List TypeId)[j]? = some tj → ys[j]? = some y → ∀ x ∈ DataW.weights Try.prog tj y.1, x ≤ reachBytes := by
        intro j tj y hj hy x hx
        refine hw x ?_
        have e : DataW.weights Try.prog 45 (.agg (ys.map (·.1))) = DataW.weightsEach Try.prog [3, 3, 3, 23, 43] (ys.map (·.1)) := by
          simp only [DataW.weights, Try.underlying45]
          rfl
        have h1 : x ∈ DataW.weights Try.prog 45 (D i) := by
          rw [hDi, e]
          exact DataW.weights_mem_each hj (by rw [List.getElem?_map, hy]; rfl) x hx
        have h2 : D i ∈ (List.range n).map D := List.mem_map.2 ⟨i, List.mem_range.2 hi, rfl⟩
        simp only [DataW.weights, Try.underlying22, List.mem_cons, List.mem_append]
        exact .inr (.inl (weightsAll_mem h2 x h1))
      obtain ⟨u0, y0, c0, e0, t0⟩ := hf 0 _ rfl
      obtain ⟨u1, y1, c1, e1, t1⟩ := hf 1 _ rfl
      obtain ⟨u2, y2, c2, e2, t2⟩ := hf 2 _ rfl
      obtain ⟨u3, y3, c3, e3, t3⟩ := hf 3 _ rfl
      obtain ⟨u4, y4, c4, e4, t4⟩ := hf 4 _ rfl
      obtain ⟨p, hp, hpc⟩ := opv_of hwt e0 e1 e2 e3 e4 t0 t1 t2 t3 t4
      refine ⟨p, hp, fun j u hu => ?_⟩
      rw [hpc] at hu
      match j, hu with
      | 0, hu => cases hu; exact c0
      | 1, hu => cases hu; exact c1
      | 2, hu => cases hu; exact c2
      | 3, hu => cases hu; exact c3
      | 4, hu => cases hu; exact c4
    obtain ⟨ps, hpl, hps⟩ := choose_list n hex
    have hn47 : n ≤ 140737488355328 := by
      have h5 := hw _ (by simp only [DataW.weights, Try.underlying22]; exact List.mem_cons_self ..)
      rw [show Try.prog.bytesOf 45 = 72 by kernel_rfl] at h5
      simp only [List.length_map, List.length_range, reachBytes] at h5
      omega
    refine ⟨some ⟨g, o, none⟩, n, c, ps, rfl, hpl, .inr ⟨g, o, rfl, fun j u hu => ?_⟩, hnc, hn47, fun p hp => ?_, .inr ⟨_, _, rfl, by rw [List.length_map, List.length_range]⟩⟩
    · have hjl : j < ps.length * 5 := by
        have := (List.getElem?_eq_some_iff.1 hu).1
        rwa [ocells_length] at this
      have hi : j / 5 < ps.length := by omega
      have hj : j = j / 5 * 5 + j % 5 := by omega
      rw [hj, ocells_at hi (by omega)] at hu
      have := (hps _ hi).2 _ _ hu
      rw [hj]
      exact this
    · obtain ⟨i, hi, rfl⟩ := List.getElem_of_mem hp
      exact (hps i hi).1
end
end Go.Proofs.Ytbljacafmkdlmaa
